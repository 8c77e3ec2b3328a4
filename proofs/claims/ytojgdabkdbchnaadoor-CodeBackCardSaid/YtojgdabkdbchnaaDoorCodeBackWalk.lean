/-
  quash/quashlaw15.CodeBack answers true. Condition: the library's variables (Env), what the reading gives of the slices.
-/
import Derived.Test.YtojgdabkdbchnaaDoorBackFig
import Derived.Test.YtojgdabkdbchnaaDoorCodeAwake15
import Derived.Test.YtojgdabkdbchnaaDoorOpenP
import Derived.Test.YtojgdabkdbchnaaDoorSees
namespace Go.Proofs.YtojgdabkdbchnaaDoor
open Go.RowKit
set_option maxRecDepth 100000

theorem parse_ok {t : List UInt8} {l : List (Int × Int)} (w : World) (ha : Asc t) (he : Env w) (h : parseL t = .ok l) :
    Calls Tryd.prog 18 #[.string (S t)] w fun e w' => ∃ ao c, e = .returned (.tuple #[.slice ao l.length c, .int .i64 0, .int .i64 0]) ∧ SeesP w' ao l ∧ Below w.heap.size w w' := by
  refine (Parse_any t w ha he).mono fun e w' hp => ?_
  unfold ParseDoes at hp
  rw [h] at hp
  obtain ⟨v, rfl, ho, hb⟩ := hp
  obtain ⟨ao, c, rfl, hs, _⟩ := OwnP.slice ho
  exact ⟨ao, c, rfl, hs, hb⟩
set_option maxHeartbeats 4000000 in
theorem CodeBack_bad (ao : Option Addr) (c : Nat) (l : List (Int × Int)) (bv : Value) (w : World) (he : Env w) (hs : SeesP w ao l) (hn : l.length ≤ maxLen) (h0 : (checkL l).1 ≠ 0) :
    Calls Tryd.prog 5 #[.slice ao l.length c, bv] w fun e w' => e = .returned (.bool true) ∧ Below w.heap.size w w' := by
  have HS := Lib.hid hs
  have HE := Lib.hid he
  have HCHK := Lib.hid (fun W (h : SeesP W ao l) => Check_all ao l.length c l W rfl h hn)
  have HPR := Lib.hid (fun W (h : SeesP W ao l) => Print_bad ao l.length c l W rfl h hn h0)
  generalize checkL l = R at h0 HCHK HPR
  obtain ⟨r1, r2⟩ := R
  generalize l.length = N at *
  simp only at h0 HPR
  have h1 : (r1 == 0) = false := by simpa using h0
  clear he hs hn h0
  go_enter Tryd.func5, Tryd.ntmps5
  go_wp2_with (first
    | (go_at_call 8; go_must (refine (awake15_any _ HE.out).mono ?_; rintro e w1 ⟨rfl, hb1⟩))
    | (go_at_call 10; go_must (refine (HCHK.out _ (by exact HS.out.below hb1)).mono ?_; rintro e w3 ⟨rfl, hb3⟩; have hB3 := hb1.trans (hb3.mono hb1.size)))
    | (go_at_call 17; go_must (refine (HPR.out _ (by exact HS.out.below hB3)).mono ?_; rintro e w4 ⟨rfl, hb4⟩)))
  go_ret
  exact ⟨rfl, hB3.trans (hb4.mono hB3.size)⟩
/-- the noise ahead of each line -/
def nzOf (ks : List Int) (i : Nat) : List UInt8 := if i < ks.length then noiseL (ks.getD i 0) else []
theorem nzOf_is (ks : List Int) (i : Nat) : IsNoise (nzOf ks i) := by
  unfold nzOf
  split
  · exact noiseL_is _
  · exact Or.inl rfl
theorem S_app (a b : List UInt8) : S a ++ S b = S (a ++ b) := by
  apply ByteArray.ext
  rw [ByteArray.data_append]
  simp [S]
theorem check_push (a : Int) : (checkL [(1, a)]).1 = 0 := by
  have h1 : isOp 1 = true := by decide
  have h2 : takes 1 = 1 := by decide +kernel
  simp [checkL, checkFrom, h1, h2, mayB]
theorem print_push (a : Int) : printL [(1, a)] = [112, 117, 115, 104, 32] ++ (Lib.itoa a ++ [10]) := by
  have h1 : (opRow 1).1 = [112, 117, 115, 104] := by decide +kernel
  have h2 : takes 1 = 1 := by decide +kernel
  simp [printL, printOne, h1, h2]
theorem push_ext (a : Int) : (S (printL [(1, a)])).extract 5 ((S (printL [(1, a)])).size - 1) = S (Lib.itoa a) := by
  rw [print_push]
  apply ByteArray.ext
  rw [ByteArray.data_extract, S_size]
  apply Array.ext'
  simp [S]
theorem text_lab {s1 : ByteArray} {A : List UInt8} (i : Nat) (h : s1 = S A) : s1 ++ (({ data := #[112] } : ByteArray) ++ S (figL i) ++ { data := #[58, 32, 59, 32, 104, 101, 114, 101, 10] }) = S (A ++ (labLine i ++ [10])) := by
  subst h
  rw [show (ByteArray.mk #[112]) = S [112] from rfl, show (ByteArray.mk #[58, 32, 59, 32, 104, 101, 114, 101, 10]) = S [58, 32, 59, 32, 104, 101, 114, 101, 10] from rfl]
  simp only [S_app]
  simp [labLine, nameP]
theorem text_op0 {s2 wd : ByteArray} {A W : List UInt8} (h : s2 = S A) (hw : wd = S W) : s2 ++ (({ data := #[9] } : ByteArray) ++ wd) ++ { data := #[59] } ++ { data := #[10] } = S (A ++ (9 :: W ++ [59, 10])) := by
  subst h; subst hw
  rw [show (ByteArray.mk #[9]) = S [9] from rfl, show (ByteArray.mk #[59]) = S [59] from rfl, show (ByteArray.mk #[10]) = S [10] from rfl]
  simp only [S_app]
  simp
theorem text_op1 {s2 wd op : ByteArray} {A W O : List UInt8} (h : s2 = S A) (hw : wd = S W) (ho : op = S O) : s2 ++ (({ data := #[9] } : ByteArray) ++ wd) ++ (({ data := #[32, 9] } : ByteArray) ++ op) ++ { data := #[59] } ++ { data := #[10] } = S (A ++ (9 :: (W ++ ([32, 9] ++ O)) ++ [59, 10])) := by
  subst h; subst hw; subst ho
  rw [show (ByteArray.mk #[9]) = S [9] from rfl, show (ByteArray.mk #[32, 9]) = S [32, 9] from rfl, show (ByteArray.mk #[59]) = S [59] from rfl, show (ByteArray.mk #[10]) = S [10] from rfl]
  simp only [S_app]
  simp
theorem textN_none {nz : Nat → List UInt8} {l : List (Int × Int)} {i : Nat} (h : l.length ≤ i) : textN nz l (i + 1) = textN nz l i ++ nz i ++ (labLine i ++ [10]) := by
  rw [textN, roundN, List.getElem?_eq_none h]
  simp
theorem textN_some {nz : Nat → List UInt8} {l : List (Int × Int)} {i : Nat} {x : Int × Int} (h : l[i]? = some x) : textN nz l (i + 1) = textN nz l i ++ nz i ++ (labLine i ++ [10]) ++ (bodyN x ++ [59, 10]) := by
  rw [textN, roundN, h]
  simp
set_option maxHeartbeats 4000000 in
theorem CodeBack_ok (ao : Option Addr) (c : Nat) (l : List (Int × Int)) (bo : Option Addr) (cb : Nat) (ks : List Int) (w : World) (he : Env w) (hs : SeesP w ao l) (hk : Sees w bo ks) (_hkl : ks.length ≤ maxLen) (hi : InI l) (h0 : (checkL l).1 = 0) :
    Calls Tryd.prog 5 #[.slice ao l.length c, .slice bo ks.length cb] w fun e w' => e = .returned (.bool true) ∧ Below w.heap.size w w' := by
  obtain ⟨h1, h2, -⟩ := checkL_ok h0
  have hR := right_all h0 hi
  obtain ⟨N, hN⟩ : ∃ N, N = l.length := ⟨_, rfl⟩
  obtain ⟨K, hK⟩ : ∃ K, K = ks.length := ⟨_, rfl⟩
  have HN := Lib.hid hN
  have HK := Lib.hid hK
  have HR := Lib.hid hR
  have HS := Lib.hid hs
  have HKS := Lib.hid hk
  have HE := Lib.hid he
  have HCHK := Lib.hid (fun W (h : SeesP W ao l) => Check_all ao N c l W HN.out.symm h (by unfold maxLen; omega))
  have HPR := Lib.hid (fun W (hE : Env W) (h : SeesP W ao l) => Print_ok ao c l W hE h h0 hi)
  have HPA := Lib.hid (fun W (hE : Env W) => parse_ok W (printL_asc (fun x hx => (hR x hx).op)) hE (parse_print h0 hi))
  have HPN := Lib.hid (fun W (hE : Env W) (hlt : l.length < 60) => parse_ok W (textN_asc (nzOf_is ks) hR hlt (l.length + 1) (Nat.le_refl _)) hE (parse_noisy h0 hi hlt (nzOf_is ks)))
  have HSAME := Lib.hid (fun xo cx W (hx : SeesP W xo l) (hy : SeesP W ao l) => same_any xo ao N N cx c l l W HN.out.symm HN.out.symm hx hy (by unfold maxLen; omega) (by unfold maxLen; omega))
  rw [← hN] at h1 h2 HPR HPA HPN
  rw [← hN, ← hK]
  have HP1 := Lib.hid (printL_len hi)
  generalize checkL l = R at h0 HCHK
  obtain ⟨r1, r2⟩ := R
  simp only at h0
  subst h0
  clear he hs hk hN hK hR hi
  go_enter Tryd.func5, Tryd.ntmps5
  go_upto_region 6 with (first
    | (go_at_call 8; go_must (refine (awake15_any _ HE.out).mono ?_; rintro e w1 ⟨rfl, hb1⟩))
    | (go_at_call 10; go_must (refine (HCHK.out _ (by exact HS.out.below hb1)).mono ?_; rintro e w3 ⟨rfl, hb3⟩; have hB3 := hb1.trans (hb3.mono hb1.size)))
    | (go_at_call 17; go_must (refine (HPR.out _ (by exact HE.out.below hB3) (by exact HS.out.below hB3)).mono ?_; rintro e w4 ⟨rfl, hb4⟩; have hB4 := hB3.trans (hb4.mono hB3.size))))
  have HB4 := Lib.hid hB4
  clear hb1 hb3 hB3 hb4 hB4
  go_upto_region 9 with (first
    | (go_at_call 18; go_must (refine (HPA.out _ (by exact HE.out.below HB4.out)).mono ?_; rintro e w5 ⟨xo, cx, rfl, hs5, hb5⟩; have hB5 := HB4.out.trans (hb5.mono HB4.out.size)))
    | (go_at_call 12; go_must (refine (HSAME.out xo cx _ (by exact hs5) (by exact HS.out.below hB5)).mono ?_; rintro e w6 ⟨rfl, k6, rfl⟩; simp only [decide_true])))
  have hB6 : Below w.heap.size w (w5.drewN k6) := ⟨hB5.os, hB5.tape, hB5.output, hB5.size, hB5.block⟩
  have HB6 := Lib.hid hB6
  clear hs5 hb5 hB5 hB6
  go_loopw [14, 15] (fun u v wr => ∃ (i : Nat) (s : ByteArray), v = .int .i64 i ∧ u = .string s ∧ i ≤ N + 1 ∧ i ≤ 60 ∧ s.size ≤ i * 64 ∧ (N < 60 → s = S (textN (nzOf ks) l i)) ∧ Below w.heap.size w wr) (fun _ v _ => 60 - (intOf v).toNat)
  case atStart => exact ⟨0, ⟨#[]⟩, rfl, rfl, by omega, by omega, by decide, fun _ => rfl, HB6.out⟩
  case round =>
    obtain ⟨i, s, rfl, rfl, hiN, hi60, hsz, hst, hB⟩ := hrel
    have HB := Lib.hid hB
    have HST := Lib.hid hst
    have hi0 : (0 : Int) ≤ (i : Int) := by omega
    have hss : ∀ n, n ≤ 1000 → ¬ 9223372036854775807 < s.size + n := by intro n h; omega
    clear hB hst
    by_cases hgo : i ≤ N ∧ i < 60
    · obtain ⟨hg1, hg2⟩ := hgo
      have hg3 : (i : Int) ≤ (N : Int) := by omega
      have hg4 : (i : Int) < 60 := by omega
      go_upto_if 87 with (fail)
      go_cut [14] (fun u wx => ∃ s1 : ByteArray, u = .string s1 ∧ s1.size ≤ i * 64 + 12 ∧ (N < 60 → s1 = S (textN (nzOf ks) l i ++ nzOf ks i)) ∧ Below w.heap.size w wx)
      case first =>
        by_cases hiK : i < K
        · have hiK' : (i : Int) < (K : Int) := by omega
          obtain ⟨b2, o2, hbo, hcb⟩ := HKS.out.below HB.out
          obtain rfl := hbo (by intro e; subst e; have := HK.out; simp at this; omega)
          have cr := hcb i (by rw [← HK.out]; exact hiK)
          have hnz : nzOf ks i = noiseL (ks.getD i 0) := by unfold nzOf; rw [if_pos (by rw [← HK.out]; exact hiK)]
          have HNZ := Lib.hid hnz
          generalize ks.getD i 0 = y at cr HNZ
          have hnl := noise_len (noiseL_is y)
          have hcat : ¬ 9223372036854775807 < s.size + (S (noiseL y)).size := by rw [S_size]; omega
          clear hcb hnz
          go_wp2_with (go_at_call 19; go_must (refine (noise_any y _).mono ?_; rintro e w7 ⟨rfl, rfl⟩))
          go_meet
          refine ⟨s ++ S (noiseL y), rfl, by rw [ByteArray.size_append, S_size]; omega, fun h => ?_, ?_⟩
          · rw [HST.out h, HNZ.out]; exact S_app _ _
          · exact HB.out
        · have hiK' : ¬ (i : Int) < (K : Int) := by omega
          go_wp2_with fail
          go_meet
          refine ⟨s, rfl, by omega, fun h => ?_, HB.out⟩
          rw [HST.out h]
          unfold nzOf
          rw [if_neg (by rw [← HK.out]; exact hiK), List.append_nil]
      case rest =>
        obtain ⟨s1, rfl, hz1, hs1, hB1⟩ := hcut
        have HB1 := Lib.hid hB1
        have HS1 := Lib.hid hs1
        clear hB1 hs1
        go_upto_if 97 with (fail)
        go_cut [14] (fun u wx => ∃ s2 : ByteArray, u = .string s2 ∧ s2.size ≤ i * 64 + 25 ∧ (N < 60 → s2 = S (textN (nzOf ks) l i ++ nzOf ks i ++ (labLine i ++ [10]))) ∧ Below w.heap.size w wx)
        case first =>
          by_cases h60 : N < 60
          · have h60' : (N : Int) < 60 := by omega
            obtain ⟨f, hf⟩ : ∃ f, f = S (figL i) := ⟨_, rfl⟩
            have hfz : f.size = 3 := by rw [hf, S_size]; rfl
            have n1 : ¬ 9223372036854775807 < 1 + f.size := by omega
            have n2 : ¬ 9223372036854775807 < 1 + f.size + 9 := by omega
            have n3 : ¬ 9223372036854775807 < s1.size + (1 + f.size + 9) := by omega
            have HF := Lib.hid hf
            have HFZ := Lib.hid hfz
            clear hf hfz
            go_wp2_with (go_at_call 20; go_must (refine (figure_any i _ hg2).mono ?_; rw [← HF.out]; rintro e w7 ⟨rfl, hb7⟩))
            go_meet
            refine ⟨_, rfl, ?_, fun h => ?_, HB1.out.trans (hb7.mono HB1.out.size)⟩
            · rw [ByteArray.size_append, ByteArray.size_append, ByteArray.size_append, HFZ.out]
              show s1.size + (1 + 3 + 9) ≤ _
              omega
            · rw [HF.out]; exact text_lab i (HS1.out h)
          · have h60' : ¬ (N : Int) < 60 := by omega
            go_wp2_with fail
            go_meet
            exact ⟨s1, rfl, by omega, fun h => absurd h h60, HB1.out⟩
        case rest =>
          obtain ⟨s2, rfl, hz2, hs2, hB2⟩ := hcut
          have HB2 := Lib.hid hB2
          have HS2 := Lib.hid hs2
          clear hB2 hs2 HB1 HS1 HB HST
          by_cases hin : i < N
          · obtain ⟨⟨op, a⟩, hx⟩ : ∃ x, l[i]? = some x := ⟨_, List.getElem?_eq_getElem (by rw [← HN.out]; exact hin)⟩
            have hr := HR.out _ (List.mem_of_getElem? hx)
            have HRT := Lib.hid hr
            obtain ⟨b, o, hao, hc⟩ := HS.out
            obtain rfl := hao (by intro e; subst e; simp at hx)
            obtain ⟨q0, q1⟩ := hc i _ hx
            simp only at q0 q1
            have HC0 := Lib.hid (fun W (hb : Below w.heap.size w W) => (hb.cell (p := ⟨b, _, none⟩) (block_lt_of_cell q0)).trans q0)
            have HC1 := Lib.hid (fun W (hb : Below w.heap.size w W) => (hb.cell (p := ⟨b, _, none⟩) (block_lt_of_cell q1)).trans q1)
            have hin' : (i : Int) < (N : Int) := by omega
            have HTX := Lib.hid (textN_some (nz := nzOf ks) hx)
            have hlo := hr.lo
            have hhi := hr.hi
            simp only at hlo hhi
            have hil := Lib.itoa_length_le a hlo hhi
            have hext := push_ext a
            have hlen1 : (S (printL [(1, a)])).size = 6 + (S (Lib.itoa a)).size := by rw [S_size, S_size, print_push]; simp; omega
            have HOP := Lib.hid (fun W (hE : Env W) g (h : W.heap[g]? = some (.cells #[.int .i64 1, .int .i64 a] 44)) => Print_ok (some ⟨g, 0, none⟩) 1 [(1, a)] W hE (seesP_one h) (check_push a) (fun x hx => by simp at hx; subst hx; exact ⟨hlo, hhi⟩))
            have hods : (S (Lib.itoa a)).size ≤ 21 := by rw [S_size]; exact hil
            obtain ⟨od, hod⟩ : ∃ od, od = S (Lib.itoa a) := ⟨_, rfl⟩
            rw [← hod] at hext hlen1 hods
            generalize S (printL [(1, a)]) = one at hext hlen1 HOP
            obtain ⟨wd, hwd⟩ : ∃ wd, wd = word op := ⟨_, rfl⟩
            have hwl : wd.size ≤ 6 := by rw [hwd]; unfold word; rw [S_size]; exact word_len op
            have HWD := Lib.hid (show wd = S (opRow op).1 from hwd)
            have HNM := Lib.hid (fun W => Name_any op W)
            rw [← hwd] at HNM
            obtain ⟨T, hT⟩ : ∃ T, T = takes op := ⟨_, rfl⟩
            have HTK := Lib.hid (fun W => Takes_any op W)
            rw [← hT] at HTK
            have HT := Lib.hid hT
            have HOD := Lib.hid hod
            have k1 : IntKind.i64.wrap ((one.size : Int) - 1) = (one.size : Int) - 1 := IntWalk.i64_in _ (by omega)
            have k2 : (0 : Int) ≤ (one.size : Int) - 1 := by omega
            have k3 : (one.size : Int) - 1 ≤ (one.size : Int) := by omega
            have k4 : (5 : Int) ≤ (one.size : Int) - 1 := by omega
            have k5 : ((one.size : Int) - 1).toNat = one.size - 1 := by omega
            have c1 := HC1.out _ HB2.out
            have hz2w := HB2.out.size
            clear hr hx hc hao q0 q1 hil hod hwd hT hlo hhi hlen1
            go_upto_region 20 with (go_at_call 17; go_must (refine (HOP.out _ (by exact HE.out.below (HB2.out.alloc hz2w _)) _ (by exact heap_new _ _ _ rfl)).mono ?_; rintro e w7 ⟨rfl, hb7⟩))
            refine wp_gen (fun W => Below w.heap.size w W) ((HB2.out.alloc hz2w _).trans (hb7.mono (by simp; omega))) ?_
            intro W7 hB7
            have HB7 := Lib.hid hB7
            have c0 := HC0.out _ hB7
            clear hb7 hB7 c1
            have m1 : ¬ 9223372036854775807 < 1 + wd.size := by omega
            have m2 : ¬ 9223372036854775807 < s2.size + (1 + wd.size) := by omega
            have m3 : ¬ 9223372036854775807 < 2 + od.size := by omega
            have m4 : ¬ 9223372036854775807 < s2.size + (1 + wd.size) + (2 + od.size) := by omega
            have m5 : ¬ 9223372036854775807 < s2.size + (1 + wd.size) + (2 + od.size) + 1 := by omega
            have m6 : ¬ 9223372036854775807 < s2.size + (1 + wd.size) + (2 + od.size) + 1 + 1 := by omega
            have m7 : ¬ 9223372036854775807 < s2.size + (1 + wd.size) + 1 := by omega
            have m8 : ¬ 9223372036854775807 < s2.size + (1 + wd.size) + 1 + 1 := by omega
            go_upto_region 23 with (first
              | (go_at_call 15; go_must (refine (HTK.out _).mono ?_; rintro e w8 ⟨rfl, hb8⟩; have hB8 := HB7.out.trans (hb8.mono HB7.out.size); clear c0; have c0 := HC0.out _ hB8))
              | (go_at_call 13; go_must (refine (HNM.out _).mono ?_; rintro e w9 ⟨rfl, hb9⟩; have hB9 := hB8.trans (hb9.mono hB8.size))))
            have HB9 := Lib.hid hB9
            have c1 := HC1.out _ hB9
            clear hB8 hB9 hb8 hb9 c0
            by_cases hT0 : T = 0
            · subst hT0
              go_wp2_with fail
              go_roundw
              case rel =>
                refine ⟨i + 1, _, by go_num, rfl, by omega, by omega, ?_, fun h => ?_, HB9.out⟩
                · simp only [ByteArray.size_append]
                  show s2.size + (1 + wd.size) + 1 + 1 ≤ _
                  omega
                · rw [HTX.out, text_op0 (HS2.out h) HWD.out]
                  have hb : bodyN (op, a) = 9 :: (opRow op).1 := by unfold bodyN; rw [if_pos HT.out.symm, List.append_nil]
                  rw [hb]
              case measure => simp [intOf]; omega
            · have eT0 : (T == 0) = false := by simpa using hT0
              by_cases hT3 : T = 3
              · subst hT3
                by_cases h60 : N < 60
                · have h60' : (N : Int) < 60 := by omega
                  obtain ⟨p1, p2⟩ := place_ok (a := a) (n := l.length) (by have := HRT.out.may; simp only at this; rw [← HT.out] at this; exact this)
                  obtain ⟨an, rfl⟩ := Int.eq_ofNat_of_zero_le p1
                  have hna : an < 60 := by have := HN.out; omega
                  obtain ⟨f, hf⟩ : ∃ f, f = S (figL an) := ⟨_, rfl⟩
                  have hfz : f.size = 3 := by rw [hf, S_size]; rfl
                  have n1 : ¬ 9223372036854775807 < 1 + f.size := by omega
                  have n2 : ¬ 9223372036854775807 < 2 + (1 + f.size) := by omega
                  have n3 : ¬ 9223372036854775807 < s2.size + (1 + wd.size) + (2 + (1 + f.size)) := by omega
                  have n4 : ¬ 9223372036854775807 < s2.size + (1 + wd.size) + (2 + (1 + f.size)) + 1 := by omega
                  have n5 : ¬ 9223372036854775807 < s2.size + (1 + wd.size) + (2 + (1 + f.size)) + 1 + 1 := by omega
                  have HF := Lib.hid hf
                  have HFZ := Lib.hid hfz
                  clear hf hfz p1 p2
                  go_wp2_with (go_at_call 20; go_must (refine (figure_any an _ hna).mono ?_; rw [← HF.out]; rintro e w10 ⟨rfl, hb10⟩))
                  go_roundw
                  case rel =>
                    refine ⟨i + 1, _, by go_num, rfl, by omega, by omega, ?_, fun h => ?_, HB9.out.trans (hb10.mono HB9.out.size)⟩
                    · simp only [ByteArray.size_append, HFZ.out]
                      show s2.size + (1 + wd.size) + (2 + (1 + 3)) + 1 + 1 ≤ _
                      omega
                    · rw [HTX.out, text_op1 (O := nameP an) (HS2.out h) HWD.out (by rw [HF.out]; exact S_app [112] _)]
                      have hb : bodyN (op, (an : Int)) = 9 :: ((opRow op).1 ++ ([32, 9] ++ nameP an)) := by
                        unfold bodyN opdN
                        simp only [← HT.out, if_true, Int.toNat_natCast, show ¬ ((3 : Int) = 0) by decide, if_false]
                      rw [hb]
                  case measure => simp [intOf]; omega
                · have h60' : ¬ (N : Int) < 60 := by omega
                  go_wp2_with fail
                  go_roundw
                  case rel =>
                    refine ⟨i + 1, _, by go_num, rfl, by omega, by omega, ?_, fun h => absurd h h60, HB9.out⟩
                    simp only [ByteArray.size_append]
                    show s2.size + (1 + wd.size) + (2 + od.size) + 1 + 1 ≤ _
                    omega
                  case measure => simp [intOf]; omega
              · have eT3 : (T == 3) = false := by simpa using hT3
                go_wp2_with fail
                go_roundw
                case rel =>
                  refine ⟨i + 1, _, by go_num, rfl, by omega, by omega, ?_, fun h => ?_, HB9.out⟩
                  · simp only [ByteArray.size_append]
                    show s2.size + (1 + wd.size) + (2 + od.size) + 1 + 1 ≤ _
                    omega
                  · rw [HTX.out, text_op1 (HS2.out h) HWD.out HOD.out]
                    have hb : bodyN (op, a) = 9 :: ((opRow op).1 ++ ([32, 9] ++ Lib.itoa a)) := by
                      unfold bodyN opdN
                      simp only [← HT.out, hT0, hT3, if_false]
                    rw [hb]
                case measure => simp [intOf]; omega
          · have hin' : ¬ (i : Int) < (N : Int) := by omega
            go_wp2_with fail
            go_roundw
            case rel =>
              refine ⟨i + 1, s2, by go_num, rfl, by omega, by omega, by omega, fun h => ?_, HB2.out⟩
              rw [HS2.out h, textN_none (by rw [← HN.out]; omega)]
            case measure => simp [intOf]; omega
    · by_cases h60 : N < 60
      · obtain rfl : i = N + 1 := by omega
        have hq : ¬ ((N + 1 : Nat) : Int) ≤ (N : Int) := by omega
        have hq2 : ¬ (N : Int) + 1 ≤ (N : Int) := by omega
        have hq3 : ¬ (60 : Int) ≤ (N : Int) := by omega
        obtain rfl := HST.out h60
        go_wp2_with (first
          | (go_at_call 18; go_must (refine (HPN.out _ (by exact HE.out.below HB.out) h60).mono ?_; rintro e w7 ⟨yo, cy, rfl, hs7, hb7⟩; have hB7 := HB.out.trans (hb7.mono HB.out.size)))
          | (go_at_call 12; go_must (refine (HSAME.out yo cy _ (by exact hs7) (by exact HS.out.below hB7)).mono ?_; rintro e w8 ⟨rfl, k8, rfl⟩; simp only [decide_true])))
        go_ret
        exact ⟨rfl, ⟨hB7.os, hB7.tape, hB7.output, hB7.size, hB7.block⟩⟩
      · obtain rfl : i = 60 := by omega
        have hq : (60 : Int) ≤ (N : Int) := by omega
        go_wp2_with fail
        go_ret
        exact ⟨rfl, HB.out⟩
end Go.Proofs.YtojgdabkdbchnaaDoor
