/-
  quash/quashref15.Parse: for every text: what it answers. No condition.
-/
import Derived.Test.YtojgdabkdbchnaaGreatDoorParseS15
namespace Go.Proofs.YtojgdabkdbchnaaGreatDoor
open Go.RowKit
set_option maxRecDepth 100000

/-- rows of instructions as the document keeps them -/
def saidT : ElemT SaidQ where
  t := 87
  e := 94
  size := 4
  bytes := 40
  z := .agg #[.int .i64 0, .int .i64 0, .int .i64 0, .string .empty]
  cells := fun q => [.int .i64 q.1, .int .i64 q.2.1, .int .i64 q.2.2.1, .string (S q.2.2.2)]
  ht := Tryz.underlying87
  info := ⟨_, rfl, rfl, rfl, rfl⟩
  zs := rfl
  pos := by decide
  len := fun _ => rfl
  one := fun x v hv => by
    simp at hv
    rcases hv with rfl | rfl | rfl | rfl <;> rfl
/-- rows of instructions -/
def insT : ElemT (Int × Int) where
  t := 22
  e := 42
  size := 2
  bytes := 16
  z := .agg #[.int .i64 0, .int .i64 0]
  cells := fun q => [.int .i64 q.1, .int .i64 q.2]
  ht := Tryz.underlying22
  info := by
    obtain ⟨i0, hi, hz0, hz1, hz2⟩ := info_parts infoP
    exact ⟨i0, hi, hz0, hz1, hz2⟩
  zs := rfl
  pos := by decide
  len := fun _ => rfl
  one := fun x v hv => by
    simp at hv
    rcases hv with rfl | rfl <;> rfl
theorem insT_all (l : List (Int × Int)) : insT.all l = instrCells l := rfl

theorem place_step {labels : List (List UInt8 × Nat)} {named : List (Nat × List UInt8)} {lines : List Int} {n f i : Nat} {out l : List (Int × Int)} {x : Int × Int} (ho : out.length = i) (hx : l[i]? = some x) :
    placesN labels named lines n (f + 1) i (out ++ l.drop i) = match placeOne labels named n i x with
      | .error e => .error (e, lines.getD i 0)
      | .ok y => placesN labels named lines n f (i + 1) ((out ++ [y]) ++ l.drop (i + 1)) := by
  obtain ⟨hi, he⟩ := List.getElem?_eq_some_iff.1 hx
  have hd : l.drop i = x :: l.drop (i + 1) := by rw [List.drop_eq_getElem_cons hi, he]
  have hg : (out ++ l.drop i).getD i (0, 0) = x := by
    rw [hd, List.getD_eq_getElem?_getD, List.getElem?_append_right (by omega), ho]; simp
  have hs : ∀ y, (out ++ l.drop i).set i y = (out ++ [y]) ++ l.drop (i + 1) := fun y => by
    rw [hd, List.set_append_right _ _ (by omega), ho]; simp
  conv => lhs; unfold placesN
  rw [hg]
  cases placeOne labels named n i x with
  | error e => rfl
  | ok y => simp only [hs]
set_option maxHeartbeats 8000000 in
theorem refParse_any (t : List UInt8) (w : World) :
    Calls Tryz.prog 14 #[.string (S t)] w (ParseDoes t w) := by
  obtain ⟨s, hsS⟩ : ∃ s, s = S t := ⟨_, rfl⟩
  have hsz : s.size = t.length := by rw [hsS, S_size]
  have HSS := Lib.hid hsS
  rw [← hsS]
  by_cases hbig : 65536 < t.length
  · have hp : parseL t = .error (150, 0) := by unfold parseL; rw [if_pos hbig]
    have HP := Lib.hid hp
    have hb : (65536 : Int) < (s.size : Int) := by omega
    clear hp hbig hsS hsz
    go_enter Tryz.func14, Tryz.ntmps14
    go_wp2
    go_ret3
    unfold ParseDoes
    rw [HP.out]
    exact ⟨rfl, Below.refl _ _⟩
  have hlen : ¬ (65536 : Int) < (s.size : Int) := by omega
  have HLINES := Lib.hid (fun W => refLines_any t W (by omega))
  have HZ := Lib.hid hsz
  have hpar : parseL t = match readAll ⟨[], [], [], []⟩ 0 (linesL 10 t) with
      | .error e => .error e
      | .ok st => (match placesS st with
        | .error e => .error e
        | .ok l => if l.isEmpty then .error (150, 0) else .ok l) := by unfold parseL; rw [if_neg hbig]; rfl
  have hLL := linesL_len 10 t
  obtain ⟨L, hL⟩ : ∃ L, L = linesL 10 t := ⟨_, rfl⟩
  rw [← hL] at hpar hLL HLINES
  have HPAR := Lib.hid hpar
  have HLN := Lib.hid (fun x (hx : x ∈ L) => (hLL.2 x hx).1)
  have hLt : L.length ≤ 65537 := by omega
  have hL0 : 0 < L.length := by rw [hL]; exact List.length_pos_iff.2 (linesL_ne 10 t)
  clear hpar hLL hL hsS hsz
  go_enter Tryz.func14, Tryz.ntmps14
  go_upto_region 4 with (first
    | (go_at_call 33; rw [HSS.out]; refine (HLINES.out _).mono ?_; rintro e W1 ⟨vL, rfl, hoL, hbL⟩))
  obtain ⟨g, cL, rfl⟩ := hoL.some hL0
  obtain ⟨N, hN⟩ : ∃ N, N = L.length := ⟨_, rfl⟩
  have hcell := fun j (x : List UInt8) (hx : L[j]? = some x) => hoL.cell (i := 0) hx (u := .string (S x)) rfl
  have HCELL := Lib.hid hcell
  have hgl : g < W1.heap.size := by
    have h0 := hcell 0 _ (List.getElem?_eq_getElem hL0)
    exact block_lt_of_cell h0
  have HBL := Lib.hid hbL
  have HN := Lib.hid hN
  have hz1 := hbL.size
  rw [← hN] at hLt hL0 ⊢
  clear hcell hoL hbL hN HLINES
  go_wp2
  go_loopw [6, 7, 8] (fun vs vl i wr => ∃ (k : Nat) (st : RS) (Q : List SaidQ), k ≤ N ∧ i = .int .i64 k ∧ OwnG saidT wr W1.heap.size vs Q ∧ OwnG labT wr W1.heap.size vl st.labels.reverse ∧ RelQ Q st ∧ st.Fit ∧ Apart st.labels ∧ st.l.length ≤ 400 ∧ st.labels.length ≤ 400 ∧ Below W1.heap.size W1 wr ∧ readAll ⟨[], [], [], []⟩ 0 L = readAll st k (L.drop k)) (fun _ _ i _ => N - (intOf i).toNat)
  case atStart => exact ⟨0, ⟨[], [], [], []⟩, [], Nat.zero_le _, rfl, OwnG.nil _ _ _, OwnG.nil _ _ _, relQ_nil, empty_fit, trivial, by decide, by decide, Below.refl _ _, rfl⟩
  case round =>
    obtain ⟨k, st, Q, hk, rfl, hos, hol, hrq, hfit, hap, hn1, hn2, hB, hgo⟩ := hrel
    obtain ⟨aos, cs, rfl⟩ := hos.slice
    obtain ⟨aol, cl, rfl⟩ := hol.slice
    have hql := hrq.len
    rw [List.length_reverse] at hol ⊢
    have HOS := Lib.hid hos
    have HOL := Lib.hid hol
    have HRQ := Lib.hid hrq
    have HFIT := Lib.hid hfit
    have HAP := Lib.hid hap
    have HB := Lib.hid hB
    have HGO := Lib.hid hgo
    have hzr := hB.size
    clear hos hol hrq hfit hap hB hgo
    by_cases hlt : k < N
    · obtain ⟨x, hx⟩ : ∃ x, L[k]? = some x := ⟨_, List.getElem?_eq_getElem (by rw [← HN.out]; exact hlt)⟩
      have hc0 := (HB.out.cell (p := ⟨g, _, none⟩) hgl).trans (HCELL.out k x hx)
      rw [show k * strT.size + 0 = k by show k * 1 + 0 = k; omega] at hc0
      have hxl := HLN.out x (List.mem_of_getElem? hx)
      obtain ⟨b, hb⟩ : ∃ b, b = Lib.trimS (Lib.cut x [59]).1 [32, 9] := ⟨_, rfl⟩
      have hcs := cut_sub x
      have hbl : b.length ≤ t.length := by rw [hb]; exact Nat.le_trans (trimS_length _ _) (Nat.le_trans hcs.1 hxl)
      have hclean : ∀ c ∈ b, c ≠ 59 := fun c hc => by rw [hb] at hc; exact cut_clean x c (trimS_mem hc)
      have hbare := fun W => Bare_any (S x) W (by rw [S_size]; unfold maxLen; omega)
      rw [S_data, ← hb] at hbare
      have HBARE := Lib.hid hbare
      have HCLEAN := Lib.hid hclean
      have hstep : readAll ⟨[], [], [], []⟩ 0 L = match readS st ((k + 1 : Nat) : Int) (Lib.cut x [59]).1 with
          | .error er => .error (er, ((k + 1 : Nat) : Int))
          | .ok st' => readAll st' (k + 1) (L.drop (k + 1)) := by
        obtain ⟨h1, h2⟩ := List.getElem?_eq_some_iff.1 hx
        rw [HGO.out, readAll_take h1, h2]; rfl
      have HSTEP := Lib.hid hstep
      have HBQ := Lib.hid hb.symm
      have hi0 : (0 : Int) ≤ (k : Int) := by omega
      clear hstep hb hcs hclean hbare hx hxl
      have hperr : ∀ er, readS st ((k + 1 : Nat) : Int) (Lib.cut x [59]).1 = .error er → parseL t = .error (er, ((k + 1 : Nat) : Int)) := fun er h => by rw [HPAR.out, HSTEP.out, h]
      have hpok : ∀ st', readS st ((k + 1 : Nat) : Int) (Lib.cut x [59]).1 = .ok st' → readAll ⟨[], [], [], []⟩ 0 L = readAll st' (k + 1) (L.drop (k + 1)) := fun st' h => by rw [HSTEP.out, h]
      have HPE := Lib.hid hperr
      have HPO := Lib.hid hpok
      clear hperr hpok HSTEP HGO
      by_cases hb0 : b = []
      · have hre : readS st ((k + 1 : Nat) : Int) (Lib.cut x [59]).1 = .ok st := readS_empty (by rw [HBQ.out, hb0])
        have HNXT := Lib.hid (HPO.out _ hre)
        have hbe : (S b).toList.isEmpty = true := by rw [S_toList, hb0]; rfl
        clear hb0 hre
        go_wp2_with (first
          | (go_at_call 34; refine (HBARE.out _).mono ?_; rintro e w3 ⟨rfl, rfl⟩))
        go_roundw
        case rel => exact ⟨k + 1, st, Q, by omega, by go_num, HOS.out, HOL.out, HRQ.out, HFIT.out, HAP.out, hn1, hn2, HB.out, HNXT.out⟩
        case measure => simp [intOf]; omega
      · have hbe : (S b).toList.isEmpty = false := by
          rw [S_toList]
          cases hbb : b with
          | nil => exact absurd hbb hb0
          | cons => rfl
        obtain ⟨a, c, hac⟩ : ∃ a c, b = a ++ [c] := ⟨b.dropLast, b.getLast hb0, (List.dropLast_concat_getLast _).symm⟩
        obtain ⟨sb, hsb⟩ : ∃ sb, sb = S b := ⟨_, rfl⟩
        obtain ⟨m, hm⟩ : ∃ m, m = a.length := ⟨_, rfl⟩
        have hsbd : sb.data.toList = a ++ [c] := by rw [hsb, S_data, hac]
        have hsbz : sb.size = m + 1 := by rw [Lib.size_eq, hsbd, hm]; simp
        have hsbi : (sb.size : Int) = (m : Int) + 1 := by omega
        have hmlt : m < sb.size := by omega
        have hbyte : sb[m] = c := by
          have h1 := Lib.data_getElem? sb m hmlt
          rw [hsbd, show (a ++ [c])[m]? = some c by rw [hm]; simp] at h1
          injection h1 with h1
          exact h1.symm
        have hms : (m : Int) ≤ 65536 := by have h := congrArg List.length hac; simp at h; omega
        have hex : sb.extract 0 m = S a := S_of_data (by rw [Lib.extract_from_zero, hsbd, hm]; simp)
        rw [← hsb] at hbe HBARE
        have HEX := Lib.hid hex
        have HAC := Lib.hid hac
        have HSB := Lib.hid hsb
        have HM := Lib.hid hm
        clear hac hsb hm hsbd hsbz hex hb0
        by_cases hc : c = 58
        · subst hc
          have hd : ((sb[m].toNat : Int) == 58) = true := by rw [hbyte]; rfl
          have hrl := readS_label (st := st) (line := ((k + 1 : Nat) : Int)) (l0 := (Lib.cut x [59]).1) (a := a) (by rw [HBQ.out, HAC.out])
          have hname := fun W => refName_any (S a) W (by rw [S_size, ← HM.out]; unfold maxLen; omega)
          rw [S_data] at hname
          have hfind := fun W (h : OwnG labT W W1.heap.size (.slice aol st.labels.reverse.length cl) st.labels.reverse) => find_any h (by simp; exact hn2) (S a)
          rw [S_data, findL_rev HAP.out, List.length_reverse] at hfind
          obtain ⟨nv, hnv⟩ : ∃ nv, isNameB a = nv := ⟨_, rfl⟩
          rw [hnv] at hrl hname
          have HNAME := Lib.hid hname
          clear hbyte hname
          cases nv with
          | false =>
            have HPP := Lib.hid (HPE.out 153 hrl)
            clear hrl hfind
            go_wp2_with (first
              | (go_at_call 34; refine (HBARE.out _).mono ?_; rintro e w3 ⟨rfl, rfl⟩)
              | (go_at_call 35; rw [HEX.out]; refine (HNAME.out _).mono ?_; rintro e w4 ⟨rfl, rfl⟩))
            have HBW := HB.out
            go_ret3
            unfold ParseDoes
            rw [HPP.out]
            exact ⟨rfl, HBL.out.trans (HBW.mono hz1)⟩
          | true =>
            simp only [Bool.true_eq_false, if_false] at hrl
            cases hla : labAt st.labels a with
            | some p =>
              rw [hla] at hrl hfind
              simp only [Option.isSome_some, if_true] at hrl hfind
              have HFIND := Lib.hid hfind
              have HPP := Lib.hid (HPE.out 154 hrl)
              have hpp0 : (0 : Int) ≤ (p : Int) := by omega
              clear hrl hfind hla
              go_wp2_with (first
                | (go_at_call 34; refine (HBARE.out _).mono ?_; rintro e w3 ⟨rfl, rfl⟩)
                | (go_at_call 35; rw [HEX.out]; refine (HNAME.out _).mono ?_; rintro e w4 ⟨rfl, rfl⟩)
                | (go_at_call 36; refine (HFIND.out _ (by exact HOL.out)).mono ?_; rintro e w4 ⟨rfl, rfl⟩))
              have HBW := HB.out
              go_ret3
              unfold ParseDoes
              rw [HPP.out]
              exact ⟨rfl, HBL.out.trans (HBW.mono hz1)⟩
            | none =>
              rw [hla] at hrl hfind
              simp only [Option.isSome_none, Bool.false_eq_true, if_false] at hrl hfind
              have HFIND := Lib.hid hfind
              have HLA := Lib.hid hla
              clear hfind hla
              by_cases hfull : st.labels.length = 400
              · rw [if_pos hfull] at hrl
                have HPP := Lib.hid (HPE.out 150 hrl)
                have hf2 : ((st.labels.length : Int) == 400) = true := by rw [hfull]; rfl
                clear hrl hfull
                go_wp2_with (first
                  | (go_at_call 34; refine (HBARE.out _).mono ?_; rintro e w3 ⟨rfl, rfl⟩)
                  | (go_at_call 35; rw [HEX.out]; refine (HNAME.out _).mono ?_; rintro e w4 ⟨rfl, rfl⟩)
                  | (go_at_call 36; refine (HFIND.out _ (by exact HOL.out)).mono ?_; rintro e w4 ⟨rfl, rfl⟩))
                have HBW := HB.out
                go_ret3
                unfold ParseDoes
                rw [HPP.out]
                exact ⟨rfl, HBL.out.trans (HBW.mono hz1)⟩
              · rw [if_neg hfull] at hrl
                have HNXT := Lib.hid (HPO.out _ hrl)
                have hf2 : ((st.labels.length : Int) == 400) = false := by simp; omega
                have hft := readS_fit HFIT.out hrl
                have HFT := Lib.hid hft
                clear hrl hft
                go_wp2_with (first
                  | (go_at_call 34; refine (HBARE.out _).mono ?_; rintro e w3 ⟨rfl, rfl⟩)
                  | (go_at_call 35; rw [HEX.out]; refine (HNAME.out _).mono ?_; rintro e w4 ⟨rfl, rfl⟩)
                  | (go_at_call 36; refine (HFIND.out _ (by exact HOL.out)).mono ?_; rintro e w4 ⟨rfl, rfl⟩)
                  | (at_builtin; go_must (refine wpList_append1 (HOL.out.below ((Below.refl _ _).alloc (Nat.le_refl _) _)) (by simp; omega) wr.heap.size 1 (a, Q.length) 92 (by exact heap_new _ _ _ rfl) (by show (_ + 1) * 24 ≤ _; simp; omega) (by unfold maxLen; simp; omega) rfl _ _ rfl rfl rfl ?_; intro v8 w8 hown8 hgrow8)))
                go_roundw
                case rel =>
                  refine ⟨k + 1, _, Q, by omega, by go_num, (HOS.out.below ((Below.refl _ _).alloc (Nat.le_refl _) _)).grown (HOL.out.below ((Below.refl _ _).alloc (Nat.le_refl _) _)) (by decide) hgrow8, ?_, relQ_labels HRQ.out _, HFT.out, ⟨HLA.out, HAP.out⟩, hn1, by simp; omega, (HB.out.alloc hzr _).grown hgrow8 (by simp; omega) (fun k hk => own_ge HOL.out hk), HNXT.out⟩
                  simp only [List.reverse_cons]
                  rw [hql]
                  exact hown8
                case measure => simp [intOf]; omega
        · have hd : ((sb[m].toNat : Int) == 58) = false := by
            rw [beq_eq_false_iff_ne]; intro e
            refine hc ?_
            rw [← hbyte]
            exact UInt8.toNat_inj.1 (by show (sb[m]).toNat = 58; omega)
          have hsuf : Lib.hasSuffix b [58] = false := by rw [HAC.out, suffix_colon]; simpa using hc
          have hbne : b ≠ [] := by rw [HAC.out]; simp
          have hro := readS_one (st := st) (line := ((k + 1 : Nat) : Int)) HBQ.out hbne hsuf
          have hone := fun W => one_any b ((k : Int) + 1) W (by omega) HCLEAN.out
          rw [← HSB.out] at hone
          have HONE := Lib.hid hone
          clear hone hsuf hbne hbyte hc
          cases ho : oneS b with
          | none =>
            rw [ho] at hro
            have HPP := Lib.hid (HPE.out 153 hro)
            have HO := Lib.hid ho
            clear hro ho
            go_wp2_with (first
              | (go_at_call 34; refine (HBARE.out _).mono ?_; rintro e w3 ⟨rfl, rfl⟩)
              | (go_at_call 37; refine (HONE.out _).mono ?_; rintro e w4 ⟨op, oa, oln, onm, rfl, hox, hb4⟩; rw [HO.out, Option.isSome_none]; clear hox))
            have HBW := (HB.out.trans (hb4.mono hzr)).alloc (by have := hb4.size; omega) (.cells #[.int .i64 op, .int .i64 oa, .int .i64 oln, .string (S onm)] 94)
            go_ret3
            unfold ParseDoes
            rw [HPP.out]
            exact ⟨rfl, HBL.out.trans (HBW.mono hz1)⟩
          | some r =>
            obtain ⟨op, oa, onm⟩ := r
            rw [ho] at hro
            simp only at hro
            have HO := Lib.hid ho
            obtain ⟨hnm3, hnml⟩ := oneS_name ho
            by_cases hfull : st.l.length = 400
            · rw [if_pos hfull] at hro
              have HPP := Lib.hid (HPE.out 150 hro)
              have hf2 : ((Q.length : Int) == 400) = true := by rw [← hql, hfull]; rfl
              clear hro ho hfull hnm3 hnml
              go_wp2_with (first
                | (go_at_call 34; refine (HBARE.out _).mono ?_; rintro e w3 ⟨rfl, rfl⟩)
                | (go_at_call 37; refine (HONE.out _).mono ?_; rintro e w4 ⟨op2, oa2, oln, onm2, rfl, hox, hb4⟩; rw [HO.out, Option.isSome_some]; clear hox))
              have HBW := (HB.out.trans (hb4.mono hzr)).alloc (by have := hb4.size; omega) (.cells #[.int .i64 op2, .int .i64 oa2, .int .i64 oln, .string (S onm2)] 94)
              go_ret3
              unfold ParseDoes
              rw [HPP.out]
              exact ⟨rfl, HBL.out.trans (HBW.mono hz1)⟩
            · rw [if_neg hfull] at hro
              have HNXT := Lib.hid (HPO.out _ hro)
              have hf2 : ((Q.length : Int) == 400) = false := by rw [← hql]; simp; omega
              have hft := readS_fit HFIT.out hro
              have HFT := Lib.hid hft
              have HPUSH := Lib.hid (relQ_push HRQ.out op oa ((k + 1 : Nat) : Int) onm hnm3 (by omega))
              have hq1 : Q.length + 1 ≤ 400 := by omega
              clear hro ho hft hfull hnm3 hnml
              go_upto_region 23 with (first
                | (go_at_call 34; refine (HBARE.out _).mono ?_; rintro e w3 ⟨rfl, rfl⟩)
                | (go_at_call 37; refine (HONE.out _).mono ?_; rintro e w4 ⟨op2, oa2, oln, onm2, rfl, hox, hb4⟩; rw [HO.out, Option.isSome_some]; obtain ⟨he1, he2⟩ := hox _ HO.out; injection he1 with he3 he1; injection he1 with he4 he5; subst he3; subst he4; subst he5; subst he2; clear hox))
              have hz4 := hb4.size
              have HO4 := Lib.hid (HOS.out.below hb4)
              have HL4 := Lib.hid (HOL.out.below hb4)
              have HB4 := Lib.hid (HB.out.trans (hb4.mono hzr))
              clear hb4
              go_wp2_with (first
                | (at_builtin; go_must (refine wpList_append1 (HO4.out.below (((Below.refl _ _).alloc (Nat.le_refl _) _).alloc (by simp) _)) (by simp; omega) (w4.heap.size + 1) 1 (op, oa, (k : Int) + 1, onm) 94 (by exact heap_new _ _ _ (by simp)) (by show (_ + 1) * 40 ≤ _; omega) (by unfold maxLen; omega) rfl _ _ rfl rfl rfl ?_; intro v8 w8 hown8 hgrow8)))
              go_roundw
              case rel =>
                refine ⟨k + 1, { st with l := st.l ++ [(op, oa)], lines := st.lines ++ [((k + 1 : Nat) : Int)], named := if onm = [] then st.named else (st.l.length, onm) :: st.named }, Q ++ [(op, oa, (k : Int) + 1, onm)], by omega, by go_num, hown8, (HL4.out.below (((Below.refl _ _).alloc (Nat.le_refl _) _).alloc (by simp) _)).grown (HO4.out.below (((Below.refl _ _).alloc (Nat.le_refl _) _).alloc (by simp) _)) (by decide) hgrow8, ?_, HFT.out, HAP.out, ?_, hn2, ((HB4.out.alloc (by omega) _).alloc (by simp; omega) _).grown hgrow8 (by simp; omega) (fun k hk => own_ge HO4.out hk), HNXT.out⟩
                · rw [show (k : Int) + 1 = ((k + 1 : Nat) : Int) by omega]
                  exact HPUSH.out
                · simp only [List.length_append, List.length_singleton]; omega
              case measure => simp [intOf]; omega
    · obtain rfl : k = N := by omega
      have hdr : L.drop k = [] := List.drop_eq_nil_of_le (by rw [← HN.out]; exact Nat.le_refl _)
      have hra : readAll ⟨[], [], [], []⟩ 0 L = .ok st := by rw [HGO.out, hdr]; rfl
      have hp2 := HPAR.out
      rw [hra] at hp2
      have HP2 := Lib.hid (show parseL t = (match placesS st with
        | .error e => .error e
        | .ok l => if l.isEmpty then .error (150, 0) else .ok l) from hp2)
      clear hra hdr hp2
      rcases Nat.eq_zero_or_pos Q.length with hq0 | hq0
      · have hpl : placesS st = .ok [] := by
          have : st.l = [] := List.eq_nil_of_length_eq_zero (by omega)
          unfold placesS
          rw [this]; rfl
        have HPP := Lib.hid (show parseL t = .error (150, 0) by rw [HP2.out, hpl]; rfl)
        have HBW := HB.out
        rw [hq0]
        clear hpl
        go_wp2
        go_loop [13, 14] (fun u v => u = .slice none 0 0 ∧ v = .int .i64 0) (fun _ _ => 0)
        case atStart => exact ⟨rfl, rfl⟩
        case round =>
          obtain ⟨rfl, rfl⟩ := hrel
          go_wp2
          go_ret3
          unfold ParseDoes
          rw [HPP.out]
          exact ⟨rfl, HBL.out.trans (HBW.mono hz1)⟩
      · obtain ⟨gq, cq, hgq⟩ := HOS.out.some hq0
        injection hgq with hgq1 _ hgq2
        subst hgq1
        subst hgq2
        obtain ⟨n, hn⟩ : ∃ n, n = Q.length := ⟨_, rfl⟩
        have hcq := fun j (q : SaidQ) (hq : Q[j]? = some q) => And.intro (HOS.out.cell (i := 0) hq (u := .int .i64 q.1) rfl) (And.intro (HOS.out.cell (i := 1) hq (u := .int .i64 q.2.1) rfl) (And.intro (HOS.out.cell (i := 2) hq (u := .int .i64 q.2.2.1) rfl) (HOS.out.cell (i := 3) hq (u := .string (S q.2.2.2)) rfl)))
        have HCQ := Lib.hid hcq
        have HPS := Lib.hid (show placesS st = placesN st.labels st.named st.lines n (n - 0) 0 (([] : List (Int × Int)) ++ st.l.drop 0) by unfold placesS; rw [hql, ← hn]; rfl)
        have HNQ := Lib.hid hn
        have hn400 : n ≤ 400 := by omega
        have hn1' : 0 < n := by omega
        have hgqlt : gq < wr.heap.size := block_lt_of_cell (hcq 0 _ (List.getElem?_eq_getElem hq0)).1
        rw [← hn]
        clear hcq hn hql hq0
        obtain ⟨W2, hW2⟩ : ∃ W2, W2 = wr := ⟨_, rfl⟩
        subst hW2
        go_wp2
        go_loopw [13, 14] (fun vo i wx => ∃ (j : Nat) (out : List (Int × Int)), j ≤ n ∧ i = .int .i64 j ∧ out.length = j ∧ OwnG insT wx W2.heap.size vo out ∧ Below W2.heap.size W2 wx ∧ placesS st = placesN st.labels st.named st.lines n (n - j) j (out ++ st.l.drop j)) (fun _ i _ => n - (intOf i).toNat)
        case atStart => exact ⟨0, [], Nat.zero_le _, rfl, rfl, OwnG.nil _ _ _, Below.refl _ _, HPS.out⟩
        case round =>
          obtain ⟨j, out, hj, rfl, hol, hoo, hBx, hps⟩ := hrel
          obtain ⟨aoo, co, rfl⟩ := hoo.slice
          rw [hol]
          have HOO := Lib.hid hoo
          have HBX := Lib.hid hBx
          have HPJ := Lib.hid hps
          have HOLN := Lib.hid hol
          have hzx := hBx.size
          clear hoo hBx hps hol
          by_cases hjn : j < n
          · obtain ⟨⟨op, a, line, nm⟩, hq⟩ : ∃ q, Q[j]? = some q := ⟨_, List.getElem?_eq_getElem (by rw [← HNQ.out]; exact hjn)⟩
            obtain ⟨d0, d1, d2, d3⟩ := HCQ.out j _ hq
            have c0 := (HBX.out.cell (p := ⟨gq, _, none⟩) hgqlt).trans d0
            have c1 := (HBX.out.cell (p := ⟨gq, _, none⟩) hgqlt).trans d1
            have c2 := (HBX.out.cell (p := ⟨gq, _, none⟩) hgqlt).trans d2
            have c3 := (HBX.out.cell (p := ⟨gq, _, none⟩) hgqlt).trans d3
            rw [show j * saidT.size + 0 = j * 4 from rfl] at c0
            rw [show j * saidT.size + 1 = j * 4 + 1 from rfl] at c1
            rw [show j * saidT.size + 2 = j * 4 + 2 from rfl] at c2
            rw [show j * saidT.size + 3 = j * 4 + 3 from rfl] at c3
            simp only at c0 c1 c2 c3
            have hlx : st.l[j]? = some (op, a) := by rw [HRQ.out.l, List.getElem?_map, hq]; rfl
            have hll : st.lines.getD j 0 = line := by rw [HRQ.out.ln, List.getD_eq_getElem?_getD, List.getElem?_map, hq]; rfl
            have hnm := HRQ.out.nm j _ hq
            have htk3 := HRQ.out.tk _ (List.mem_of_getElem? hq)
            have hnsz := HRQ.out.sz _ (List.mem_of_getElem? hq)
            simp only at hnm htk3 hnsz
            have hst := place_step (labels := st.labels) (named := st.named) (lines := st.lines) (n := n) (f := n - j - 1) HOLN.out hlx
            rw [hll, show n - j - 1 + 1 = n - j by omega, ← HPJ.out, show n - j - 1 = n - (j + 1) by omega] at hst
            obtain ⟨tk, htk⟩ : ∃ tk, takes op = tk := ⟨_, rfl⟩
            unfold placeOne at hst
            rw [hnm] at hst
            simp only [htk] at hst
            rw [htk] at htk3
            have HTK := Lib.hid htk
            have hj0 : (0 : Int) ≤ (j : Int) := by omega
            have hj1 : (j : Int) < (n : Int) := by omega
            have hgx : gq < wr.heap.size := by omega
            have HB3 := Lib.hid (HB.out.trans (HBX.out.mono hzr))
            clear d0 d1 d2 d3 hlx hll hnm htk hq HPJ
            by_cases hne : nm = []
            · have hbe : (S nm).toList.isEmpty = true := by rw [S_toList, hne]; rfl
              simp only [if_pos hne] at hst
              clear htk3 hne hnsz
              by_cases h3 : tk = 3
              · have h31 : (tk == 3) = true := by simpa using h3
                by_cases hbig2 : (n : Int) < a
                · rw [if_pos ⟨h3, hbig2⟩] at hst
                  have HPP := Lib.hid (show parseL t = .error (152, line) by rw [HP2.out, hst])
                  clear hst h3
                  go_wp2_with (first
                    | (go_at_call 31; refine (refTakes_any op _).mono ?_; rintro e w4 ⟨rfl, rfl⟩; rw [HTK.out]))
                  go_quiet (fail)
                  go_wp2
                  have HBW := (HB3.out.alloc (by omega) (.cells #[.int .i64 op, .int .i64 a] 42)).trans (below_drewN _ _ nq)
                  go_ret3
                  unfold ParseDoes
                  rw [HPP.out]
                  exact ⟨rfl, HBL.out.trans (HBW.mono hz1)⟩
                · rw [if_neg (fun h => hbig2 h.2)] at hst
                  have HST := Lib.hid hst
                  clear hst h3
                  go_wp2_with (first
                    | (go_at_call 31; refine (refTakes_any op _).mono ?_; rintro e w4 ⟨rfl, rfl⟩; rw [HTK.out])
                    | (at_builtin; go_must (refine wpList_append1 (HOO.out.below (((Below.refl _ _).alloc (Nat.le_refl _) _).alloc (by simp) _)) (by simp; omega) (wr.heap.size + 1) 1 (op, a) 42 (by exact heap_new _ _ _ (by simp)) (by show (_ + 1) * 16 ≤ _; rw [HOLN.out]; omega) (by unfold maxLen; rw [HOLN.out]; omega) rfl _ _ rfl (by rw [HOLN.out]; rfl) rfl ?_; intro v8 w8 hown8 hgrow8)))
                  go_roundw
                  case rel => exact ⟨j + 1, out ++ [(op, a)], by omega, by go_num, by simp [HOLN.out], hown8, ((HBX.out.alloc hzx _).alloc (by simp; omega) _).grown hgrow8 (by simp; omega) (fun k hk => own_ge HOO.out hk), HST.out⟩
                  case measure => simp [intOf]; omega
              · have h31 : (tk == 3) = false := by simpa using h3
                rw [if_neg (fun h => h3 h.1)] at hst
                have HST := Lib.hid hst
                clear hst h3
                go_wp2_with (first
                  | (go_at_call 31; refine (refTakes_any op _).mono ?_; rintro e w4 ⟨rfl, rfl⟩; rw [HTK.out])
                  | (at_builtin; go_must (refine wpList_append1 (HOO.out.below (((Below.refl _ _).alloc (Nat.le_refl _) _).alloc (by simp) _)) (by simp; omega) (wr.heap.size + 1) 1 (op, a) 42 (by exact heap_new _ _ _ (by simp)) (by show (_ + 1) * 16 ≤ _; rw [HOLN.out]; omega) (by unfold maxLen; rw [HOLN.out]; omega) rfl _ _ rfl (by rw [HOLN.out]; rfl) rfl ?_; intro v8 w8 hown8 hgrow8)))
                go_roundw
                case rel => exact ⟨j + 1, out ++ [(op, a)], by omega, by go_num, by simp [HOLN.out], hown8, ((HBX.out.alloc hzx _).alloc (by simp; omega) _).grown hgrow8 (by simp; omega) (fun k hk => own_ge HOO.out hk), HST.out⟩
                case measure => simp [intOf]; omega
            · have hbe : (S nm).toList.isEmpty = false := by
                rw [S_toList]
                cases hnn : nm with
                | nil => exact absurd hnn hne
                | cons => rfl
              simp only [if_neg hne] at hst
              have h31 : (tk == 3) = true := by simpa using htk3 hne
              obtain rfl := htk3 hne
              have hfind := fun W (h : OwnG labT W W1.heap.size (.slice aol st.labels.length cl) st.labels.reverse) => find_any h (by simp; exact hn2) (S nm)
              rw [S_data, findL_rev HAP.out] at hfind
              clear htk3 hne hnsz
              cases hla : labAt st.labels nm with
              | none =>
                rw [hla] at hst hfind
                simp only at hst hfind
                have HFIND := Lib.hid hfind
                have HPP := Lib.hid (show parseL t = .error (154, line) by rw [HP2.out, hst])
                clear hst hfind hla
                go_wp2_with (first
                  | (go_at_call 36; refine (HFIND.out _ (by exact HOL.out.below (HBX.out.alloc hzx _))).mono ?_; rintro e w4 ⟨rfl, rfl⟩)
                  | (go_at_call 31; refine (refTakes_any op _).mono ?_; rintro e w4 ⟨rfl, rfl⟩; rw [HTK.out]))
                go_quiet (fail)
                go_wp2
                have HBW := (HB3.out.alloc (by omega) (.cells #[.int .i64 op, .int .i64 (-1)] 42)).trans (below_drewN _ _ nq)
                go_ret3
                unfold ParseDoes
                rw [HPP.out]
                exact ⟨rfl, HBL.out.trans (HBW.mono hz1)⟩
              | some p =>
                rw [hla] at hst hfind
                simp only [true_and] at hst hfind
                have HFIND := Lib.hid hfind
                have hp0 : ¬ (p : Int) < 0 := by omega
                clear hfind hla
                by_cases hbig2 : n < p
                · rw [if_pos hbig2] at hst
                  have HPP := Lib.hid (show parseL t = .error (152, line) by rw [HP2.out, hst])
                  clear hst
                  go_wp2_with (first
                    | (go_at_call 36; refine (HFIND.out _ (by exact HOL.out.below (HBX.out.alloc hzx _))).mono ?_; rintro e w4 ⟨rfl, rfl⟩)
                    | (go_at_call 31; refine (refTakes_any op _).mono ?_; rintro e w4 ⟨rfl, rfl⟩; rw [HTK.out]))
                  go_quiet (fail)
                  go_wp2
                  have HBW := (HB3.out.alloc (by omega) (.cells #[.int .i64 op, .int .i64 (p : Int)] 42)).trans (below_drewN _ _ nq)
                  go_ret3
                  unfold ParseDoes
                  rw [HPP.out]
                  exact ⟨rfl, HBL.out.trans (HBW.mono hz1)⟩
                · rw [if_neg hbig2] at hst
                  have HST := Lib.hid hst
                  clear hst
                  go_wp2_with (first
                    | (go_at_call 36; refine (HFIND.out _ (by exact HOL.out.below (HBX.out.alloc hzx _))).mono ?_; rintro e w4 ⟨rfl, rfl⟩)
                    | (go_at_call 31; refine (refTakes_any op _).mono ?_; rintro e w4 ⟨rfl, rfl⟩; rw [HTK.out])
                    | (at_builtin; go_must (refine wpList_append1 (HOO.out.below (((Below.refl _ _).alloc (Nat.le_refl _) _).alloc (by simp) _)) (by simp; omega) (wr.heap.size + 1) 1 (op, (p : Int)) 42 (by exact heap_new _ _ _ (by simp)) (by show (_ + 1) * 16 ≤ _; rw [HOLN.out]; omega) (by unfold maxLen; rw [HOLN.out]; omega) rfl _ _ rfl (by rw [HOLN.out]; rfl) rfl ?_; intro v8 w8 hown8 hgrow8)))
                  go_roundw
                  case rel => exact ⟨j + 1, out ++ [(op, (p : Int))], by omega, by go_num, by simp [HOLN.out], hown8, ((HBX.out.alloc hzx _).alloc (by simp; omega) _).grown hgrow8 (by simp; omega) (fun k hk => own_ge HOO.out hk), HST.out⟩
                  case measure => simp [intOf]; omega
          · obtain rfl : j = n := by omega
            have hdr : st.l.drop j = [] := List.drop_eq_nil_of_le (by rw [HRQ.out.len, ← HNQ.out]; exact Nat.le_refl _)
            have hpl : placesS st = .ok out := by rw [HPJ.out, Nat.sub_self, hdr]; simp [placesN]
            have HB3 := Lib.hid (HB.out.trans (HBX.out.mono hzr))
            have hj1 : ((j : Int) == 0) = false := by simp; omega
            have HPP := Lib.hid (show parseL t = .ok out by
              rw [HP2.out, hpl]
              simp only
              rw [if_neg]
              cases out with
              | nil => exact absurd HOLN.out (by simp; omega)
              | cons => simp)
            clear hdr hpl
            go_wp2
            go_ret3
            unfold ParseDoes
            rw [HPP.out]
            refine ⟨_, rfl, ?_, HBL.out.trans (HB3.out.mono hz1)⟩
            have h9 := (HOO.out.lower (B' := w.heap.size) (by omega))
            unfold OwnG at h9
            rw [HOLN.out] at h9 ⊢
            exact h9
end Go.Proofs.YtojgdabkdbchnaaGreatDoor
