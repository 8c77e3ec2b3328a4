/-
  quash/script.Parse: every text. Condition: the library's variables (Env), of end what EndC says.
-/
import Derived.Test.YtoiokbdipcecnaaGreatDoorScrCatch
import Derived.Test.YtoiokbdipcecnaaGreatDoorScrVal
namespace Go.Proofs.YtoiokbdipcecnaaGreatDoor
open Go.RowKit
attribute [local go_sem] Oper.semAt_some
set_option maxRecDepth 100000

/-- what is asked of end -/
def EndC (T : List (List UInt8)) : Prop := ∀ (w : World) (B rb : Nat) (vs vp vk vb : Value) (pv : List SlP) (st : SS) (line : Int), Env w → st.block.length ≤ 1048577 → (textL st.block).length ≤ 4194304 →
  (∀ x ∈ st.block, (0 ≤ x.1 ∧ x.1 ≤ 1048577) ∧ x.2.2.length ≤ 1048576) → st.progs.length ≤ 1000 → BlkOk T st → Sr w B rb vs vp vk vb pv st line →
  Calls Tryz.prog 31 #[.pointer (some ⟨rb, 0, none⟩)] w (EndDoes w B rb line st)
theorem scrParse_long (t : List UInt8) (ht : 1048576 < t.length) (ht2 : t.length ≤ 140737488355328) (w : World) :
    Calls Tryz.prog 13 #[.string (S t)] w (PDoes t w) := by
  have hR : ParseR t (.error (234, 0)) := by unfold ParseR; rw [if_pos ht]
  have HR := Lib.hid hR
  have hsz : (S t).size = t.length := S_size _
  have hb : (1048576 : Int) < (t.length : Int) := by omega
  clear hR
  go_enter_defers Tryz.func13, Tryz.ntmps13
  go_wp2
  simp [bodyPostD, Leaves, results, Tryz.results13, go_sem]
  exact ⟨_, HR.out, rfl, (((Below.refl _ _).alloc (Nat.le_refl _) _).alloc (by simp) _).alloc (by simp; omega) _⟩
set_option maxHeartbeats 4000000 in
theorem scrParse_in (t : List UInt8) (ht : t.length ≤ 1048576) (w : World) (he : Env w) (hend : EndC (linesL 10 t)) :
    Calls Tryz.prog 13 #[.string (S t)] w (PDoes t w) := by
  have hb : ¬ (1048576 : Int) < ((S t).size : Int) := by rw [S_size]; omega
  have HE := Lib.hid he
  have HEND := Lib.hid hend
  clear he hend
  refine callsIn_wide.1 (callsIn_of_wpAt (n := 3) Tryz.func13 rfl ?_)
  simp only [Tryz.ntmps13, List.size_toArray, List.length_cons, List.length_nil, Nat.reduceAdd, Nat.reduceSub, Array.replicate_succ, Array.replicate_zero, List.push_toArray, List.append_toArray, List.nil_append, List.cons_append]
  refine wpAt_seq_of (n := 3) ?_
  gi_wp2
  refine wpAt_seq_of (n := 3) ?_
  gi_wp2
  refine wpAt_seq_of (n := 3) ?_
  gi_wp2
  refine wpAt_seq_of (n := 3) ?_
  gi_wp2
  -- the range
  have hN3 := resW_size w
  refine wpAt_gen (fun W => LnI (resW w) (linesL 10 t) (w.heap.size + 1 + 1 + 1) (w.heap.size + 1 + 1 + 1 + 1) 0 W) (lnI_start ht) ?_
  intro W hW
  have HW := Lib.hid hW
  clear hW hN3
  refine wpAt_seq ?_
  refine wpAt_seq_of (n := 3) ?_
  gi_wp2_with (refine ⟨trivial, ?_⟩; gi_at_call 28; refine (callsIn_wide.2 (lines0_any t _)).mono ?_; rintro e w1 ⟨rfl, rfl⟩)
  refine wpAt_block ?_
  obtain ⟨rb, hrb⟩ : ∃ rb, w.heap.size + 1 + 1 + 1 = rb := ⟨_, rfl⟩
  rw [hrb] at HW ⊢
  have HRB := Lib.hid hrb
  have hltW : rb + 1 < W.heap.size := by obtain ⟨_, _, _, _, _, _, _, _, _, _, _, _, h6⟩ := HW.out; exact lt_of_block h6
  refine wpAt_lines Tryz.func13 6 7 t ht W.heap.size (linesL 10 t).length rfl ?z0 ?z1 (LnI (resW w) (linesL 10 t) rb (rb + 1)) (LnP (resW w) (linesL 10 t) rb) ?z2 ?z3 ?z4 ?z5 ?z6 ?z7 ?z8 ?z9
  case z0 => rfl
  case z1 => exact cell_of_row _ _ 0 _ _ _ (heap_new W _ W.heap.size rfl)
  case z2 => exact fun k W' o h => h.alloc o
  case z3 => exact fun k W' l o o' h hl ho hc => h.put (by simp at hl; omega) ho hc
  case z4 =>
    intro k W' h
    obtain ⟨_, _, _, _, _, _, _, _, _, _, _, h5, _⟩ := h
    exact HE.out.below ((resW_below w).trans (h5.mono (by rw [← HRB.out]; omega)))
  case z5 => exact HW.out.alloc _
  case z6 =>
    intro l i x X K hK
    simp only [List.setIfInBounds_toArray, List.set_cons_succ, List.set_cons_zero] at hK ⊢
    gi_wp2
    exact hK
  case z7 =>
    intro l k x X hx h
    simp only [List.setIfInBounds_toArray, List.set_cons_succ, List.set_cons_zero]
    have hxl := (linesL_len 10 t).2 x (List.mem_of_getElem? hx)
    have hk1 : k ≤ 1048576 := by have h1 := (List.getElem?_eq_some_iff.1 hx).1; have := linesL_count10 t; omega
    have hxz : x.length ≤ 1048576 := by omega
    have hbz : (bareL x).length ≤ 1048576 := Nat.le_trans (bareL_length x) hxz
    obtain ⟨st, line0, vs, vp, vk, vb, pv, hS, hF, hO, hgo, hB, htb⟩ := h
    have hEX : Env X := HE.out.below ((resW_below w).trans (hB.mono (by rw [← HRB.out]; omega)))
    have hrX : rb ≤ X.heap.size := Nat.le_of_lt (lt_of_block hS.blk)
    have c5 := cell_of_row _ _ 0 _ _ _ htb
    have g11 := hS.cells.2 11
    have c11 := hS.cells.1 11 (.int .i64 line0) rfl
    have hS1 := hS.set 11 (.int .i64 ((k : Int) + 1)) (st' := st) (line' := (k : Int) + 1) rfl hS.rows
    have hB1 : Below rb X (X.setCell ⟨rb, 11, none⟩ (.int .i64 ((k : Int) + 1))) := (Below.refl _ _).setCell (p := ⟨rb, 11, none⟩) (Nat.le_refl _) _
    have hK1 : KeepT X (X.setCell ⟨rb, 11, none⟩ (.int .i64 ((k : Int) + 1))) := KeepT.set hS.blk (.inl rfl)
    have hbare := scrBare_any x (X.setCell ⟨rb, 11, none⟩ (.int .i64 ((k : Int) + 1))) hxz (HE.out.below ((resW_below w).trans ((hB.trans hB1).mono (by rw [← HRB.out]; omega))))
    have HX := Lib.hid hx
    have HF := Lib.hid hF
    have HO := Lib.hid hO
    have HGO := Lib.hid hgo
    have HB := Lib.hid hB
    have HTB := Lib.hid htb
    have HS1 := Lib.hid hS1
    have HB1 := Lib.hid hB1
    have HK1 := Lib.hid hK1
    have HBARE := Lib.hid hbare
    clear hx hS hF hO hgo hB htb hEX hS1 hB1 hK1 hbare hxl
    gi_wp2
    refine ⟨trivial, CallsIn.mono (callsIn_round HBARE.out) ?_⟩
    rintro e W2 ⟨rfl, hb2⟩
    obtain ⟨m, hm⟩ : ∃ m, m = (fieldsL (bareL x)).length := ⟨_, rfl⟩
    have hfld := fields_any (bareL x) W2 hbz
    rw [← hm] at hfld
    have HM := Lib.hid hm
    have HFLD := Lib.hid hfld
    have HB2 := Lib.hid hb2
    clear hm hfld hb2
    gi_wp2
    refine ⟨trivial, CallsIn.mono (callsIn_round HFLD.out) ?_⟩
    rintro e W3 ⟨A, rfl, hoA, hb3⟩
    have hz1 := HB1.out.size
    have hz2 := HB2.out.size
    have hS3 := (HS1.out.below HB2.out).below hb3
    have hB3 : Below rb X W3 := (HB1.out.trans (HB2.out.mono (by omega))).trans (hb3.mono (by omega))
    have hK3 : KeepT X W3 := (HK1.out.trans (KeepT.of_below HB2.out)).trans (KeepT.of_below hb3)
    have hE3 : Env W3 := HE.out.below ((resW_below w).trans ((HB.out.trans hB3).mono (by rw [← HRB.out]; omega)))
    have htb3 := hK3 (rb + 1) _ HTB.out (fun c t fz e => by
      injection e with _ e2 _
      subst e2
      unfold RT
      decide)
    have c5' := cell_of_row _ _ 0 _ _ _ htb3
    have c12 := hS3.cells.1 12 (.int .i64 st.opn) rfl
    have hsA := SeesS.of_own hoA
    have HOA := Lib.hid hoA
    have HS3 := Lib.hid hS3
    have HB3 := Lib.hid hB3
    have HK3 := Lib.hid hK3
    have HE3 := Lib.hid hE3
    have HSA := Lib.hid hsA
    have HTB3 := Lib.hid htb3
    obtain ⟨op, hop⟩ : ∃ op, st.opn = op := ⟨_, rfl⟩
    rw [hop] at c12
    have HOP := Lib.hid hop
    clear hoA hb3 hS3 hB3 hK3 hE3 hsA hop c5 g11 c11 HS1 HB1 HK1 HB2 HBARE HFLD htb3
    have hLR1 : ∀ res, 0 < op → fieldsL (bareL x) = endW → EndRel st ((k : Int) + 1) res → LineR st ((k : Int) + 1) x res := fun res h1 h2 h3 => by
      unfold LineR; rw [if_pos (by rw [HOP.out]; exact h1), if_pos h2]; exact h3
    have hLR2 : 0 < op → fieldsL (bareL x) ≠ endW → LineR st ((k : Int) + 1) x (.ok { st with block := st.block ++ [((k : Int) + 1, x, bareL x)] }) := fun h1 h2 => by
      unfold LineR; rw [if_pos (by rw [HOP.out]; exact h1), if_neg h2]
    have hLR3 : ¬ 0 < op → fieldsL (bareL x) = [] → LineR st ((k : Int) + 1) x (.ok st) := fun h1 h2 => by
      unfold LineR; rw [if_neg (by rw [HOP.out]; exact h1), if_pos h2]
    have hLR4 : ¬ 0 < op → fieldsL (bareL x) ≠ [] → LineR st ((k : Int) + 1) x (atLine ((k : Int) + 1) (outS st ((k : Int) + 1) (fieldsL (bareL x)))) := fun h1 h2 => by
      unfold LineR; rw [if_neg (by rw [HOP.out]; exact h1), if_neg h2]
    have hfl := fieldsL_len (bareL x)
    have hfe := fieldsL_each (bareL x)
    obtain ⟨L, hL⟩ : ∃ L, L = fieldsL (bareL x) := ⟨_, rfl⟩
    rw [← hL] at hLR1 hLR2 hLR3 hLR4 HM HOA HSA hfl hfe
    rw [← HM.out] at hfl
    have HLR1 := Lib.hid hLR1
    have HLR2 := Lib.hid hLR2
    have HLR3 := Lib.hid hLR3
    have HLR4 := Lib.hid hLR4
    have HFE := Lib.hid hfe
    clear hL hLR1 hLR2 hLR3 hLR4 hfe
    by_cases h0 : 0 < op
    · have hopn := h0
      by_cases hend : L = endW
      · have hm1 : m = 1 := by rw [HM.out, hend]; rfl
        subst hm1
        have cA := HOA.out.cell (k := 0) (i := 0) (x := [101, 110, 100]) (by rw [hend]; rfl) (show (strT.cells [101, 110, 100])[0]? = some (.string (S [101, 110, 100])) from rfl)
        rw [Nat.zero_mul] at cA
        have hcmp : ((S [101, 110, 100]).toList == [101, 110, 100]) = true := by rw [S_toL]; rfl
        have hbt := HF.out.bt
        have hen := HEND.out W3 rb rb vs vp vk vb pv st ((k : Int) + 1) HE3.out (by have := HF.out.bl; omega) (by omega) (fun y hy => ⟨⟨(HF.out.bx y hy).1.1, by have := (HF.out.bx y hy).1.2; omega⟩, (HF.out.bx y hy).2⟩) (by have := HF.out.pg; omega) HO.out HS3.out
        have hl1 := fun res h => HLR1.out res h0 hend h
        have HEN := Lib.hid hen
        have HL1 := Lib.hid hl1
        clear hen hl1 hbt
        gi_wp2
        refine ⟨trivial, CallsIn.mono (callsIn_round HEN.out) ?_⟩
        rintro e W4 ⟨res, hrel, hd⟩
        have hln := HL1.out res hrel
        cases res with
        | error y =>
          obtain ⟨er, ln⟩ := y
          unfold sfault at hd
          obtain ⟨rfl, hb4, hk4⟩ := hd
          gi_wp2
          exact postLn_bad rfl (LnP.of HX.out HGO.out HB.out hln (HB3.out.trans hb4)) (HB3.out.trans hb4) (HK3.out.trans hk4)
        | ok st' =>
          obtain ⟨rfl, ⟨us, up, uk, ub, uv, h4⟩, hb4, hk4⟩ := hd
          gi_wp2
          exact postLn_go (LnI.next HX.out HF.out HO.out HGO.out HB.out HTB.out hln h4 (HB3.out.trans hb4) (HK3.out.trans hk4)) (HB3.out.trans hb4) (HK3.out.trans hk4)
      · have hln := Lib.hid (HLR2.out h0 hend)
        by_cases hm1 : m = 1
        · subst hm1
          obtain ⟨y, hy⟩ : ∃ y, L[0]? = some y := ⟨_, List.getElem?_eq_getElem (by rw [← HM.out]; omega)⟩
          have hye : y ≠ [101, 110, 100] := fun e => hend (by
            subst e
            cases hLL : L with
            | nil => rw [hLL] at hy; cases hy
            | cons z r =>
              rw [hLL] at hy
              have h1 := HM.out
              rw [hLL] at h1
              simp at h1 hy
              subst hy
              rw [h1]; rfl)
          have cA := HOA.out.cell (k := 0) (i := 0) hy (show (strT.cells y)[0]? = some (.string (S y)) from rfl)
          rw [Nat.zero_mul] at cA
          have hcmp : ((S y).toList == [101, 110, 100]) = false := by rw [S_toL]; simpa using hye
          clear hy hye hend
          gi_wp2
          refine wpIn_region_round (fun W => W.cell? ⟨rb + 1, 0, none⟩ = some (.pointer (some ⟨rb, 0, none⟩))) (by kernel_rfl) (by kernel_rfl) ?_
          intro W5 hW5
          have hb5 : Below W3.heap.size W3 W5 := by rw [hW5]; exact (Below.refl _ _).drew
          have hSd : W5.cell? ⟨rb + 1, 0, none⟩ = some (.pointer (some ⟨rb, 0, none⟩)) := by rw [hW5]; exact c5'
          have HS5 := Lib.hid (HS3.out.below hb5)
          have HB5 := Lib.hid (HB3.out.trans (hb5.mono (by have := HB3.out.size; omega)))
          have HK5 := Lib.hid (HK3.out.trans (KeepT.of_below hb5))
          have HTB5 := Lib.hid ((hb5.block _ (lt_of_block HTB3.out)).trans HTB3.out)
          have HBL := Lib.hid (show st.block.length ≤ 1048577 by have := HF.out.bl; omega)
          obtain ⟨ao5, n5, k5, rfl, hn5⟩ := HS5.out.rows.ob.sliceH
          have d13 := HS5.out.cells.1 13 (.slice ao5 n5 k5) (by rfl)
          have d13' : (W5.alloc (.cells #[.int .i64 ((k : Int) + 1), .string (S x), .string (S (bareL x))] 77)).cell? ⟨rb, 13, none⟩ = some (.slice ao5 n5 k5) := Lib.cell?_alloc_some _ d13
          have hSa : (W5.alloc (.cells #[.int .i64 ((k : Int) + 1), .string (S x), .string (S (bareL x))] 77)).cell? ⟨rb + 1, 0, none⟩ = some (.pointer (some ⟨rb, 0, none⟩)) := Lib.cell?_alloc_some _ hSd
          clear hW5 hb5 c5' c12 hn5
          refine wpAnyH_takeD (i := 0) (d := some 54) (v := .pointer (some ⟨rb, 0, none⟩)) rfl rfl (by kernel_rfl) (by kernel_rfl) (by kernel_rfl) (fun _ _ _ h => h) (Or.inl ⟨by rfl, fun W hW => by go_simp⟩) hSd ?_
          simp only [Act.put, List.setIfInBounds_toArray, List.set_cons_zero, List.set_cons_succ]
          refine wpAnyH_takeD (i := 1) (d := some 55) (v := .pointer (some ⟨rb, 0, none⟩)) rfl rfl (by kernel_rfl) (by kernel_rfl) (by kernel_rfl) (fun _ _ _ h => h) (Or.inl ⟨by rfl, fun W hW => by go_simp⟩) hSd ?_
          simp only [Act.put, List.setIfInBounds_toArray, List.set_cons_zero, List.set_cons_succ]
          refine wpAnyH_takeD (i := 2) (d := some 56) (v := .pointer (some ⟨rb, 0, none⟩)) rfl rfl (by kernel_rfl) (by kernel_rfl) (by kernel_rfl) (fun _ _ _ h => h) (Or.inl ⟨by rfl, fun W hW => by go_simp⟩) hSd ?_
          simp only [Act.put, List.setIfInBounds_toArray, List.set_cons_zero, List.set_cons_succ]
          refine wpAnyH_takeD (i := 3) (d := some 57) (v := .pointer (some ⟨rb, 13, none⟩)) rfl rfl (by kernel_rfl) (by kernel_rfl) (by kernel_rfl) (fun _ _ _ h => h) (Or.inl ⟨by rfl, fun W hW => by go_simp⟩) hSd ?_
          simp only [Act.put, List.setIfInBounds_toArray, List.set_cons_zero, List.set_cons_succ]
          refine wpAnyH_takeD (i := 5) (d := some 59) (v := .int .i64 ((k : Int) + 1)) rfl rfl (by kernel_rfl) (by kernel_rfl) (by kernel_rfl) (fun _ _ _ h => h) (Or.inl ⟨by rfl, fun W hW => by go_simp⟩) hSd ?_
          simp only [Act.put, List.setIfInBounds_toArray, List.set_cons_zero, List.set_cons_succ]
          refine wpAnyH_takeD (i := 6) (d := some 60) (v := .string (S x)) rfl rfl (by kernel_rfl) (by kernel_rfl) (by kernel_rfl) (fun _ _ _ h => h) (Or.inl ⟨by rfl, fun W hW => by go_simp⟩) hSd ?_
          simp only [Act.put, List.setIfInBounds_toArray, List.set_cons_zero, List.set_cons_succ]
          refine wpAnyH_takeD (i := 7) (d := some 61) (v := .string (S (bareL x))) rfl rfl (by kernel_rfl) (by kernel_rfl) (by kernel_rfl) (fun _ _ _ h => h) (Or.inl ⟨by rfl, fun W hW => by go_simp⟩) hSd ?_
          simp only [Act.put, List.setIfInBounds_toArray, List.set_cons_zero, List.set_cons_succ]
          refine wpAnyH_takeD (i := 8) (d := some 62) (v := .agg #[.int .i64 ((k : Int) + 1), .string (S x), .string (S (bareL x))]) rfl rfl (by kernel_rfl) (by kernel_rfl) (by kernel_rfl) (fun _ _ _ h => h) (Or.inl ⟨by rfl, fun W hW => by go_simp⟩) hSd ?_
          simp only [Act.put, List.setIfInBounds_toArray, List.set_cons_zero, List.set_cons_succ]
          refine anyH_two (i := 4) (j := 9) (d := some 58) (d' := some 63) (.slice ao5 n5 k5) (.slice (some ⟨W5.heap.size, 0, none⟩) 1 1) W5 (W5.alloc (.cells #[.int .i64 ((k : Int) + 1), .string (S x), .string (S (bareL x))] 77)) rfl rfl rfl rfl (by kernel_rfl) (by rfl) (by rfl) (by go_simp) (by go_simp) hSd hSa ?_ ?_
          · simp only [Act.put, List.setIfInBounds_toArray, List.set_cons_zero, List.set_cons_succ]
            refine anyH_val (i := 9) (d := some 63) (.slice (some ⟨W5.heap.size, 0, none⟩) 1 1) (W5.alloc (.cells #[.int .i64 ((k : Int) + 1), .string (S x), .string (S (bareL x))] 77)) rfl rfl (by kernel_rfl) (by rfl) (by go_simp) hSa ?_
            simp only [Act.put, List.setIfInBounds_toArray, List.set_cons_zero, List.set_cons_succ]
            refine anyH_op (i := 10) (d := some 64) (op := Op.call { callee := Callee.builtin Builtin.append, args := #[.tmp 58, .tmp 63], argTypes := #[67, 67] }) rfl (by kernel_rfl) (by rfl) rfl rfl ?_
            intro o10 ho10 hop10
            refine wp_append1 (E := blkT) (HS5.out.rows.ob.below ((Below.refl _ _).alloc (Nat.le_refl _) _)) (by have := lt_of_block HS5.out.blk; simp; omega) W5.heap.size 1 ((k : Int) + 1, x, bareL x) 77 (heap_new _ _ _ rfl) (by show (_ + 1) * 40 ≤ _; have := HBL.out; omega) (by unfold maxLen; have := HBL.out; omega) (.tmp 58) (.tmp 63) hop10 rfl rfl ?_
            intro v8 w8 hown8 hgrow8
            obtain ⟨a8, n8, k8, rfl, hn8⟩ := hown8.sliceH
            obtain ⟨p1, p2, p3, p4, p5⟩ := HS5.out.push_line hown8 hgrow8
            rw [ho10]
            have t8 := p5 _ _ _ HTB5.out (by decide)
            have e13 : w8.cell? ⟨rb, 13, none⟩ = some (.slice ao5 n5 k5) := cell_of_row _ _ 13 _ _ _ p4
            have f13 := frozen_of_row _ _ 13 _ _ p4
            have hS8 := cell_of_row _ _ 0 _ _ _ t8
            refine ⟨hS8, ?_⟩
            simp only [Act.put, List.setIfInBounds_toArray, List.set_cons_zero, List.set_cons_succ]
            refine wpAnyH_takeD (i := 11) (d := some 65) (v := .pointer (some ⟨rb, 0, none⟩)) rfl rfl (by kernel_rfl) (by kernel_rfl) (by kernel_rfl) (fun _ _ _ h => h) (Or.inl ⟨by rfl, fun W hW => by go_simp⟩) hS8 ?_
            simp only [Act.put, List.setIfInBounds_toArray, List.set_cons_zero, List.set_cons_succ]
            refine wpAnyH_takeD (i := 12) (d := some 66) (v := .pointer (some ⟨rb, 13, none⟩)) rfl rfl (by kernel_rfl) (by kernel_rfl) (by kernel_rfl) (fun _ _ _ h => h) (Or.inl ⟨by rfl, fun W hW => by go_simp⟩) hS8 ?_
            simp only [Act.put, List.setIfInBounds_toArray, List.set_cons_zero, List.set_cons_succ]
            refine anyH_skip (i := 13) (d := none) (w8.setCell ⟨rb, 13, none⟩ (.slice a8 n8 k8)) rfl rfl (by kernel_rfl) (by rfl) (by go_simp) (cell_of_row _ _ 0 _ _ _ ((heap_setCell_other _ ⟨rb, 13, none⟩ (rb + 1) _ (by show rb + 1 ≠ rb; omega)).trans t8)) ?_
            simp only [Act.put]
            refine wpAnyH_done (by kernel_rfl) ?_ _
            have hB8 := HB5.out.trans p2
            have hK8 := HK5.out.trans p3
            clear e13 f13 t8 p4 p5
            gi_wp2
            exact postLn_go (LnI.next HX.out HF.out HO.out HGO.out HB.out HTB.out hln.out p1 hB8 hK8) hB8 hK8
          · simp only [Act.put, List.setIfInBounds_toArray, List.set_cons_zero, List.set_cons_succ]
            refine anyH_val (i := 4) (d := some 58) (.slice ao5 n5 k5) (W5.alloc (.cells #[.int .i64 ((k : Int) + 1), .string (S x), .string (S (bareL x))] 77)) rfl rfl (by kernel_rfl) (by rfl) (by go_simp) hSa ?_
            simp only [Act.put, List.setIfInBounds_toArray, List.set_cons_zero, List.set_cons_succ]
            refine anyH_op (i := 10) (d := some 64) (op := Op.call { callee := Callee.builtin Builtin.append, args := #[.tmp 58, .tmp 63], argTypes := #[67, 67] }) rfl (by kernel_rfl) (by rfl) rfl rfl ?_
            intro o10 ho10 hop10
            refine wp_append1 (E := blkT) (HS5.out.rows.ob.below ((Below.refl _ _).alloc (Nat.le_refl _) _)) (by have := lt_of_block HS5.out.blk; simp; omega) W5.heap.size 1 ((k : Int) + 1, x, bareL x) 77 (heap_new _ _ _ rfl) (by show (_ + 1) * 40 ≤ _; have := HBL.out; omega) (by unfold maxLen; have := HBL.out; omega) (.tmp 58) (.tmp 63) hop10 rfl rfl ?_
            intro v8 w8 hown8 hgrow8
            obtain ⟨a8, n8, k8, rfl, hn8⟩ := hown8.sliceH
            obtain ⟨p1, p2, p3, p4, p5⟩ := HS5.out.push_line hown8 hgrow8
            rw [ho10]
            have t8 := p5 _ _ _ HTB5.out (by decide)
            have e13 : w8.cell? ⟨rb, 13, none⟩ = some (.slice ao5 n5 k5) := cell_of_row _ _ 13 _ _ _ p4
            have f13 := frozen_of_row _ _ 13 _ _ p4
            have hS8 := cell_of_row _ _ 0 _ _ _ t8
            refine ⟨hS8, ?_⟩
            simp only [Act.put, List.setIfInBounds_toArray, List.set_cons_zero, List.set_cons_succ]
            refine wpAnyH_takeD (i := 11) (d := some 65) (v := .pointer (some ⟨rb, 0, none⟩)) rfl rfl (by kernel_rfl) (by kernel_rfl) (by kernel_rfl) (fun _ _ _ h => h) (Or.inl ⟨by rfl, fun W hW => by go_simp⟩) hS8 ?_
            simp only [Act.put, List.setIfInBounds_toArray, List.set_cons_zero, List.set_cons_succ]
            refine wpAnyH_takeD (i := 12) (d := some 66) (v := .pointer (some ⟨rb, 13, none⟩)) rfl rfl (by kernel_rfl) (by kernel_rfl) (by kernel_rfl) (fun _ _ _ h => h) (Or.inl ⟨by rfl, fun W hW => by go_simp⟩) hS8 ?_
            simp only [Act.put, List.setIfInBounds_toArray, List.set_cons_zero, List.set_cons_succ]
            refine anyH_skip (i := 13) (d := none) (w8.setCell ⟨rb, 13, none⟩ (.slice a8 n8 k8)) rfl rfl (by kernel_rfl) (by rfl) (by go_simp) (cell_of_row _ _ 0 _ _ _ ((heap_setCell_other _ ⟨rb, 13, none⟩ (rb + 1) _ (by show rb + 1 ≠ rb; omega)).trans t8)) ?_
            simp only [Act.put]
            refine wpAnyH_done (by kernel_rfl) ?_ _
            have hB8 := HB5.out.trans p2
            have hK8 := HK5.out.trans p3
            clear e13 f13 t8 p4 p5
            gi_wp2
            exact postLn_go (LnI.next HX.out HF.out HO.out HGO.out HB.out HTB.out hln.out p1 hB8 hK8) hB8 hK8
        · have hm2 : ((m : Int) == 1) = false := by simp; omega
          clear hend
          gi_wp2
          refine wpIn_region_round (fun W => W.cell? ⟨rb + 1, 0, none⟩ = some (.pointer (some ⟨rb, 0, none⟩))) (by kernel_rfl) (by kernel_rfl) ?_
          intro W5 hW5
          have hb5 : Below W3.heap.size W3 W5 := by rw [hW5]; exact (Below.refl _ _).drew
          have hSd : W5.cell? ⟨rb + 1, 0, none⟩ = some (.pointer (some ⟨rb, 0, none⟩)) := by rw [hW5]; exact c5'
          have HS5 := Lib.hid (HS3.out.below hb5)
          have HB5 := Lib.hid (HB3.out.trans (hb5.mono (by have := HB3.out.size; omega)))
          have HK5 := Lib.hid (HK3.out.trans (KeepT.of_below hb5))
          have HTB5 := Lib.hid ((hb5.block _ (lt_of_block HTB3.out)).trans HTB3.out)
          have HBL := Lib.hid (show st.block.length ≤ 1048577 by have := HF.out.bl; omega)
          obtain ⟨ao5, n5, k5, rfl, hn5⟩ := HS5.out.rows.ob.sliceH
          have d13 := HS5.out.cells.1 13 (.slice ao5 n5 k5) (by rfl)
          have d13' : (W5.alloc (.cells #[.int .i64 ((k : Int) + 1), .string (S x), .string (S (bareL x))] 77)).cell? ⟨rb, 13, none⟩ = some (.slice ao5 n5 k5) := Lib.cell?_alloc_some _ d13
          have hSa : (W5.alloc (.cells #[.int .i64 ((k : Int) + 1), .string (S x), .string (S (bareL x))] 77)).cell? ⟨rb + 1, 0, none⟩ = some (.pointer (some ⟨rb, 0, none⟩)) := Lib.cell?_alloc_some _ hSd
          clear hW5 hb5 c5' c12 hn5
          refine wpAnyH_takeD (i := 0) (d := some 54) (v := .pointer (some ⟨rb, 0, none⟩)) rfl rfl (by kernel_rfl) (by kernel_rfl) (by kernel_rfl) (fun _ _ _ h => h) (Or.inl ⟨by rfl, fun W hW => by go_simp⟩) hSd ?_
          simp only [Act.put, List.setIfInBounds_toArray, List.set_cons_zero, List.set_cons_succ]
          refine wpAnyH_takeD (i := 1) (d := some 55) (v := .pointer (some ⟨rb, 0, none⟩)) rfl rfl (by kernel_rfl) (by kernel_rfl) (by kernel_rfl) (fun _ _ _ h => h) (Or.inl ⟨by rfl, fun W hW => by go_simp⟩) hSd ?_
          simp only [Act.put, List.setIfInBounds_toArray, List.set_cons_zero, List.set_cons_succ]
          refine wpAnyH_takeD (i := 2) (d := some 56) (v := .pointer (some ⟨rb, 0, none⟩)) rfl rfl (by kernel_rfl) (by kernel_rfl) (by kernel_rfl) (fun _ _ _ h => h) (Or.inl ⟨by rfl, fun W hW => by go_simp⟩) hSd ?_
          simp only [Act.put, List.setIfInBounds_toArray, List.set_cons_zero, List.set_cons_succ]
          refine wpAnyH_takeD (i := 3) (d := some 57) (v := .pointer (some ⟨rb, 13, none⟩)) rfl rfl (by kernel_rfl) (by kernel_rfl) (by kernel_rfl) (fun _ _ _ h => h) (Or.inl ⟨by rfl, fun W hW => by go_simp⟩) hSd ?_
          simp only [Act.put, List.setIfInBounds_toArray, List.set_cons_zero, List.set_cons_succ]
          refine wpAnyH_takeD (i := 5) (d := some 59) (v := .int .i64 ((k : Int) + 1)) rfl rfl (by kernel_rfl) (by kernel_rfl) (by kernel_rfl) (fun _ _ _ h => h) (Or.inl ⟨by rfl, fun W hW => by go_simp⟩) hSd ?_
          simp only [Act.put, List.setIfInBounds_toArray, List.set_cons_zero, List.set_cons_succ]
          refine wpAnyH_takeD (i := 6) (d := some 60) (v := .string (S x)) rfl rfl (by kernel_rfl) (by kernel_rfl) (by kernel_rfl) (fun _ _ _ h => h) (Or.inl ⟨by rfl, fun W hW => by go_simp⟩) hSd ?_
          simp only [Act.put, List.setIfInBounds_toArray, List.set_cons_zero, List.set_cons_succ]
          refine wpAnyH_takeD (i := 7) (d := some 61) (v := .string (S (bareL x))) rfl rfl (by kernel_rfl) (by kernel_rfl) (by kernel_rfl) (fun _ _ _ h => h) (Or.inl ⟨by rfl, fun W hW => by go_simp⟩) hSd ?_
          simp only [Act.put, List.setIfInBounds_toArray, List.set_cons_zero, List.set_cons_succ]
          refine wpAnyH_takeD (i := 8) (d := some 62) (v := .agg #[.int .i64 ((k : Int) + 1), .string (S x), .string (S (bareL x))]) rfl rfl (by kernel_rfl) (by kernel_rfl) (by kernel_rfl) (fun _ _ _ h => h) (Or.inl ⟨by rfl, fun W hW => by go_simp⟩) hSd ?_
          simp only [Act.put, List.setIfInBounds_toArray, List.set_cons_zero, List.set_cons_succ]
          refine anyH_two (i := 4) (j := 9) (d := some 58) (d' := some 63) (.slice ao5 n5 k5) (.slice (some ⟨W5.heap.size, 0, none⟩) 1 1) W5 (W5.alloc (.cells #[.int .i64 ((k : Int) + 1), .string (S x), .string (S (bareL x))] 77)) rfl rfl rfl rfl (by kernel_rfl) (by rfl) (by rfl) (by go_simp) (by go_simp) hSd hSa ?_ ?_
          · simp only [Act.put, List.setIfInBounds_toArray, List.set_cons_zero, List.set_cons_succ]
            refine anyH_val (i := 9) (d := some 63) (.slice (some ⟨W5.heap.size, 0, none⟩) 1 1) (W5.alloc (.cells #[.int .i64 ((k : Int) + 1), .string (S x), .string (S (bareL x))] 77)) rfl rfl (by kernel_rfl) (by rfl) (by go_simp) hSa ?_
            simp only [Act.put, List.setIfInBounds_toArray, List.set_cons_zero, List.set_cons_succ]
            refine anyH_op (i := 10) (d := some 64) (op := Op.call { callee := Callee.builtin Builtin.append, args := #[.tmp 58, .tmp 63], argTypes := #[67, 67] }) rfl (by kernel_rfl) (by rfl) rfl rfl ?_
            intro o10 ho10 hop10
            refine wp_append1 (E := blkT) (HS5.out.rows.ob.below ((Below.refl _ _).alloc (Nat.le_refl _) _)) (by have := lt_of_block HS5.out.blk; simp; omega) W5.heap.size 1 ((k : Int) + 1, x, bareL x) 77 (heap_new _ _ _ rfl) (by show (_ + 1) * 40 ≤ _; have := HBL.out; omega) (by unfold maxLen; have := HBL.out; omega) (.tmp 58) (.tmp 63) hop10 rfl rfl ?_
            intro v8 w8 hown8 hgrow8
            obtain ⟨a8, n8, k8, rfl, hn8⟩ := hown8.sliceH
            obtain ⟨p1, p2, p3, p4, p5⟩ := HS5.out.push_line hown8 hgrow8
            rw [ho10]
            have t8 := p5 _ _ _ HTB5.out (by decide)
            have e13 : w8.cell? ⟨rb, 13, none⟩ = some (.slice ao5 n5 k5) := cell_of_row _ _ 13 _ _ _ p4
            have f13 := frozen_of_row _ _ 13 _ _ p4
            have hS8 := cell_of_row _ _ 0 _ _ _ t8
            refine ⟨hS8, ?_⟩
            simp only [Act.put, List.setIfInBounds_toArray, List.set_cons_zero, List.set_cons_succ]
            refine wpAnyH_takeD (i := 11) (d := some 65) (v := .pointer (some ⟨rb, 0, none⟩)) rfl rfl (by kernel_rfl) (by kernel_rfl) (by kernel_rfl) (fun _ _ _ h => h) (Or.inl ⟨by rfl, fun W hW => by go_simp⟩) hS8 ?_
            simp only [Act.put, List.setIfInBounds_toArray, List.set_cons_zero, List.set_cons_succ]
            refine wpAnyH_takeD (i := 12) (d := some 66) (v := .pointer (some ⟨rb, 13, none⟩)) rfl rfl (by kernel_rfl) (by kernel_rfl) (by kernel_rfl) (fun _ _ _ h => h) (Or.inl ⟨by rfl, fun W hW => by go_simp⟩) hS8 ?_
            simp only [Act.put, List.setIfInBounds_toArray, List.set_cons_zero, List.set_cons_succ]
            refine anyH_skip (i := 13) (d := none) (w8.setCell ⟨rb, 13, none⟩ (.slice a8 n8 k8)) rfl rfl (by kernel_rfl) (by rfl) (by go_simp) (cell_of_row _ _ 0 _ _ _ ((heap_setCell_other _ ⟨rb, 13, none⟩ (rb + 1) _ (by show rb + 1 ≠ rb; omega)).trans t8)) ?_
            simp only [Act.put]
            refine wpAnyH_done (by kernel_rfl) ?_ _
            have hB8 := HB5.out.trans p2
            have hK8 := HK5.out.trans p3
            clear e13 f13 t8 p4 p5
            gi_wp2
            exact postLn_go (LnI.next HX.out HF.out HO.out HGO.out HB.out HTB.out hln.out p1 hB8 hK8) hB8 hK8
          · simp only [Act.put, List.setIfInBounds_toArray, List.set_cons_zero, List.set_cons_succ]
            refine anyH_val (i := 4) (d := some 58) (.slice ao5 n5 k5) (W5.alloc (.cells #[.int .i64 ((k : Int) + 1), .string (S x), .string (S (bareL x))] 77)) rfl rfl (by kernel_rfl) (by rfl) (by go_simp) hSa ?_
            simp only [Act.put, List.setIfInBounds_toArray, List.set_cons_zero, List.set_cons_succ]
            refine anyH_op (i := 10) (d := some 64) (op := Op.call { callee := Callee.builtin Builtin.append, args := #[.tmp 58, .tmp 63], argTypes := #[67, 67] }) rfl (by kernel_rfl) (by rfl) rfl rfl ?_
            intro o10 ho10 hop10
            refine wp_append1 (E := blkT) (HS5.out.rows.ob.below ((Below.refl _ _).alloc (Nat.le_refl _) _)) (by have := lt_of_block HS5.out.blk; simp; omega) W5.heap.size 1 ((k : Int) + 1, x, bareL x) 77 (heap_new _ _ _ rfl) (by show (_ + 1) * 40 ≤ _; have := HBL.out; omega) (by unfold maxLen; have := HBL.out; omega) (.tmp 58) (.tmp 63) hop10 rfl rfl ?_
            intro v8 w8 hown8 hgrow8
            obtain ⟨a8, n8, k8, rfl, hn8⟩ := hown8.sliceH
            obtain ⟨p1, p2, p3, p4, p5⟩ := HS5.out.push_line hown8 hgrow8
            rw [ho10]
            have t8 := p5 _ _ _ HTB5.out (by decide)
            have e13 : w8.cell? ⟨rb, 13, none⟩ = some (.slice ao5 n5 k5) := cell_of_row _ _ 13 _ _ _ p4
            have f13 := frozen_of_row _ _ 13 _ _ p4
            have hS8 := cell_of_row _ _ 0 _ _ _ t8
            refine ⟨hS8, ?_⟩
            simp only [Act.put, List.setIfInBounds_toArray, List.set_cons_zero, List.set_cons_succ]
            refine wpAnyH_takeD (i := 11) (d := some 65) (v := .pointer (some ⟨rb, 0, none⟩)) rfl rfl (by kernel_rfl) (by kernel_rfl) (by kernel_rfl) (fun _ _ _ h => h) (Or.inl ⟨by rfl, fun W hW => by go_simp⟩) hS8 ?_
            simp only [Act.put, List.setIfInBounds_toArray, List.set_cons_zero, List.set_cons_succ]
            refine wpAnyH_takeD (i := 12) (d := some 66) (v := .pointer (some ⟨rb, 13, none⟩)) rfl rfl (by kernel_rfl) (by kernel_rfl) (by kernel_rfl) (fun _ _ _ h => h) (Or.inl ⟨by rfl, fun W hW => by go_simp⟩) hS8 ?_
            simp only [Act.put, List.setIfInBounds_toArray, List.set_cons_zero, List.set_cons_succ]
            refine anyH_skip (i := 13) (d := none) (w8.setCell ⟨rb, 13, none⟩ (.slice a8 n8 k8)) rfl rfl (by kernel_rfl) (by rfl) (by go_simp) (cell_of_row _ _ 0 _ _ _ ((heap_setCell_other _ ⟨rb, 13, none⟩ (rb + 1) _ (by show rb + 1 ≠ rb; omega)).trans t8)) ?_
            simp only [Act.put]
            refine wpAnyH_done (by kernel_rfl) ?_ _
            have hB8 := HB5.out.trans p2
            have hK8 := HK5.out.trans p3
            clear e13 f13 t8 p4 p5
            gi_wp2
            exact postLn_go (LnI.next HX.out HF.out HO.out HGO.out HB.out HTB.out hln.out p1 hB8 hK8) hB8 hK8
    · have hop0 : op = 0 := by have := HF.out.op.1; rw [HOP.out] at this; omega
      subst hop0
      by_cases hm0 : m = 0
      · subst hm0
        have hL0 : L = [] := List.eq_nil_of_length_eq_zero HM.out.symm
        have hln := Lib.hid (HLR3.out h0 hL0)
        gi_wp2
        exact postLn_go (LnI.next HX.out HF.out HO.out HGO.out HB.out HTB.out hln.out HS3.out HB3.out HK3.out) HB3.out HK3.out
      · have hm1 : (0 : Int) < (m : Int) := by omega
        have hL0 : L ≠ [] := fun e => hm0 (by rw [HM.out, e]; rfl)
        have hln := Lib.hid (HLR4.out h0 hL0)
        have hrd := read_walk A m L HM.out (by omega) (by omega) HSA.out (fun y hy => Nat.le_trans (HFE.out y hy) hbz) HE3.out (by have := HF.out.start; omega) (by have := HF.out.pk; omega) HS3.out
        have HRD := Lib.hid hrd
        clear hrd hL0 hm0 h0
        gi_wp2
        refine ⟨trivial, CallsIn.mono (callsIn_round HRD.out) ?_⟩
        rintro e W4 hd
        unfold SrDoes at hd
        cases hres : outS st ((k : Int) + 1) L with
        | error er =>
          rw [hres] at hd hln
          unfold sfault at hd
          obtain ⟨rfl, hb4, hk4⟩ := hd
          gi_wp2
          exact postLn_bad rfl (LnP.of HX.out HGO.out HB.out hln.out (HB3.out.trans hb4)) (HB3.out.trans hb4) (HK3.out.trans hk4)
        | ok st' =>
          rw [hres] at hd hln
          obtain ⟨rfl, ⟨us, up, uk, ub, uv, h4⟩, hb4, hk4⟩ := hd
          gi_wp2
          exact postLn_go (LnI.next HX.out HF.out HO.out HGO.out HB.out HTB.out hln.out h4 (HB3.out.trans hb4) (HK3.out.trans hk4)) (HB3.out.trans hb4) (HK3.out.trans hk4)
  case z8 =>
    intro D X hD hI hK
    have hD2 : rb + 1 < D := by simp at hD; omega
    obtain ⟨st, line0, vs, vp, vk, vb, pv, hS, hF, hO, hgo, hB, htb⟩ := hI
    have hLin : LinesR st0 0 (linesL 10 t) (.ok st) := hgo _ (by rw [List.drop_length]; exact .nil _ _)
    have hPR : ParseR t (finS st) := by unfold ParseR; rw [if_neg (by omega)]; exact ⟨_, hLin, rfl⟩
    unfold finS at hPR
    have hB' : Below (resW w).heap.size (resW w) X := by rw [resW_size, HRB.out]; exact hB
    have c5 : X.cell? ⟨rb + 1, 0, none⟩ = some (.pointer (some ⟨rb, 0, none⟩)) := cell_of_row _ _ 0 _ _ _ htb
    have c12 := hS.cells.1 12 (.int .i64 st.opn) rfl
    have c10 := hS.cells.1 10 (.int .i64 st.stage) rfl
    obtain ⟨ap, n7, c7, rfl, hn7⟩ := hS.rows.op.sliceH
    have c7' := hS.cells.1 7 (.slice ap n7 c7) rfl
    have hpl : n7 = st.progs.length := hn7.out.trans hS.rows.pl
    obtain ⟨op, hop⟩ : ∃ op, st.opn = op := ⟨_, rfl⟩
    obtain ⟨sg, hsg⟩ : ∃ sg, st.stage = sg := ⟨_, rfl⟩
    rw [hop] at c12
    rw [hsg] at c10
    rw [hop, hsg, ← hpl] at hPR
    show wpAt _ _ _ _ _ _
    dsimp only
    refine wpAt_of (n := 3) (wpIn_wide.2 ?_)
    have hND : w.heap.size + 1 + 1 + 1 ≤ D := by rw [HRB.out]; omega
    by_cases h0 : 0 < op
    · rw [if_pos h0] at hPR
      have HPR := Lib.hid hPR
      have HKD := Lib.hid hK
      have HB' := Lib.hid hB'
      clear hPR hK hB'
      go_wp2
      refine wp_mono (wp_region_held (S := fun W => W.cell? ⟨rb + 1, 0, none⟩ = some (.pointer (some ⟨rb, 0, none⟩)) ∧ W.cell? ⟨rb, 12, none⟩ = some (.int .i64 op)) (Q := outP (dfs w.heap.size D) #[.string (S t), undef, .pointer (some ⟨w.heap.size, 0, none⟩), .pointer (some ⟨w.heap.size + 1, 0, none⟩), .pointer (some ⟨w.heap.size + 1 + 1, 0, none⟩)] 5 (fun ch W => ch = [{ v := .iface 65 (.agg #[.int .i64 233, .int .i64 op]), recovered := false }] ∧ Below (resW w).heap.size (resW w) W ∧ W.heap[D]? = some (.deferred (some [])))) (by kernel_rfl) ?_) ?_
      have hS2 : ({ X with drawn := X.drawn + 1 } : World).cell? ⟨rb + 1, 0, none⟩ = some (.pointer (some ⟨rb, 0, none⟩)) ∧ ({ X with drawn := X.drawn + 1 } : World).cell? ⟨rb, 12, none⟩ = some (.int .i64 op) := ⟨c5, c12⟩
      refine wpAnyH_takeD (i := 0) (d := some 80) (v := .pointer (some ⟨rb, 0, none⟩)) rfl rfl (by kernel_rfl) (by kernel_rfl) (by kernel_rfl) (fun _ _ _ h => outP_put (by omega) h) (Or.inl ⟨by rfl, fun W hW => by obtain ⟨hW1, hW2⟩ := hW; go_simp⟩) hS2 ?_
      simp only [Act.put, List.setIfInBounds_toArray, List.set_cons_zero, List.set_cons_succ]
      refine wpAnyH_takeD (i := 1) (d := some 81) (v := .pointer (some ⟨rb, 0, none⟩)) rfl rfl (by kernel_rfl) (by kernel_rfl) (by kernel_rfl) (fun _ _ _ h => outP_put (by omega) h) (Or.inl ⟨by rfl, fun W hW => by obtain ⟨hW1, hW2⟩ := hW; go_simp⟩) hS2 ?_
      simp only [Act.put, List.setIfInBounds_toArray, List.set_cons_zero, List.set_cons_succ]
      refine wpAnyH_takeD (i := 2) (d := some 82) (v := .pointer (some ⟨rb, 0, none⟩)) rfl rfl (by kernel_rfl) (by kernel_rfl) (by kernel_rfl) (fun _ _ _ h => outP_put (by omega) h) (Or.inl ⟨by rfl, fun W hW => by obtain ⟨hW1, hW2⟩ := hW; go_simp⟩) hS2 ?_
      simp only [Act.put, List.setIfInBounds_toArray, List.set_cons_zero, List.set_cons_succ]
      refine wpAnyH_takeD (i := 3) (d := some 83) (v := .pointer (some ⟨rb, 12, none⟩)) rfl rfl (by kernel_rfl) (by kernel_rfl) (by kernel_rfl) (fun _ _ _ h => outP_put (by omega) h) (Or.inl ⟨by rfl, fun W hW => by obtain ⟨hW1, hW2⟩ := hW; go_simp⟩) hS2 ?_
      simp only [Act.put, List.setIfInBounds_toArray, List.set_cons_zero, List.set_cons_succ]
      refine wpAnyH_takeD (i := 4) (d := some 84) (v := .int .i64 op) rfl rfl (by kernel_rfl) (by kernel_rfl) (by kernel_rfl) (fun _ _ _ h => outP_put (by omega) h) (Or.inl ⟨by rfl, fun W hW => by obtain ⟨hW1, hW2⟩ := hW; go_simp⟩) hS2 ?_
      simp only [Act.put, List.setIfInBounds_toArray, List.set_cons_zero, List.set_cons_succ]
      refine anyH_raise (i := 5) (w' := { X with drawn := X.drawn + 1 }) (f := 33) (args := #[.pointer (some ⟨rb, 0, none⟩), .int .i64 233, .int .i64 op]) rfl (by kernel_rfl) (by rfl) (by go_simp) ?_
      refine (sfail_any _ _ _ _).mono ?_
      rintro e w2 ⟨rfl, rfl⟩
      · refine ⟨_, rfl, rfl, fun i hi => ?_, rfl, HB'.out.trans (Below.refl _ _).drew, HKD.out⟩
        match i, hi with
        | 0, _ => rfl
        | 1, _ => rfl
        | 2, _ => rfl
        | 3, _ => rfl
        | 4, _ => rfl
      · intro e a3 w3 hq
        cases e with
        | panic ch =>
          obtain ⟨hd, ht3, rfl, hB3, hK3⟩ := hq
          show LeavesInM Fence.wide 3 _ _ a3.tmps _ a3.defers _ w3
          rw [hd]
          exact leave_fault ⟨ht3 2 (by omega), ht3 3 (by omega), ht3 4 (by omega)⟩ hK3 hND hB3 HPR.out
        | normal => exact hq.elim
        | exit id => exact hq.elim
        | ret => exact hq.elim
        | goto l => exact hq.elim
        | outgrown => exact hq.elim
    · rw [if_neg h0] at hPR
      by_cases h1 : sg = 0
      · subst h1
        rw [if_pos rfl] at hPR
        have HPR := Lib.hid hPR
        have HKD := Lib.hid hK
        have HB' := Lib.hid hB'
        clear hPR hK hB'
        go_wp2_with (go_at_call 33; refine (sfail_any _ _ _ _).mono ?_; rintro e w2 ⟨rfl, rfl⟩)
        exact leave_fault ⟨rfl, rfl, rfl⟩ HKD.out hND HB'.out HPR.out
      · rw [if_neg h1] at hPR
        have h1' : (sg == 0) = false := by simpa using h1
        by_cases h2 : n7 = 0
        · subst h2
          rw [if_pos rfl] at hPR
          clear hpl hn7
          have HPR := Lib.hid hPR
          have HKD := Lib.hid hK
          have HB' := Lib.hid hB'
          clear hPR hK hB'
          go_wp2_with (go_at_call 33; refine (sfail_any _ _ _ _).mono ?_; rintro e w2 ⟨rfl, rfl⟩)
          refine leave_fault (D := D) ?_ HKD.out hND HB'.out HPR.out
          exact ⟨rfl, rfl, rfl⟩
        · rw [if_neg h2] at hPR
          have h2' : ((n7 : Int) == 0) = false := by simp; omega
          obtain ⟨q0, q1, q2, q3⟩ := res_ends hB'
          obtain ⟨as6, n6, c6, rfl, hn6⟩ := hS.rows.os.sliceH
          obtain ⟨ak, n8, c8, rfl, hn8⟩ := hS.rows.ok.sliceH
          have hrow := hS.rows
          have hst := stV_cells st (.slice as6 n6 c6) (.slice ap n7 c7) (.slice ak n8 c8)
          have a0 := cell_of_row _ _ 0 _ _ _ q0
          have f0 := frozen_of_row _ _ 0 _ _ q0
          have x0 := hS.cells.1 0 (.int .i64 (st.c.getD 0 0)) rfl
          have a1 := cell_of_row _ _ 1 _ _ _ q0
          have f1 := frozen_of_row _ _ 1 _ _ q0
          have x1 := hS.cells.1 1 (.int .i64 (st.c.getD 1 0)) rfl
          have a2 := cell_of_row _ _ 2 _ _ _ q0
          have f2 := frozen_of_row _ _ 2 _ _ q0
          have x2 := hS.cells.1 2 (.int .i64 (st.c.getD 2 0)) rfl
          have a3 := cell_of_row _ _ 3 _ _ _ q0
          have f3 := frozen_of_row _ _ 3 _ _ q0
          have x3 := hS.cells.1 3 (.int .i64 (st.c.getD 3 0)) rfl
          have a4 := cell_of_row _ _ 4 _ _ _ q0
          have f4 := frozen_of_row _ _ 4 _ _ q0
          have x4 := hS.cells.1 4 (.int .i64 (st.c.getD 4 0)) rfl
          have a5 := cell_of_row _ _ 5 _ _ _ q0
          have f5 := frozen_of_row _ _ 5 _ _ q0
          have x5 := hS.cells.1 5 (.int .i64 (st.c.getD 5 0)) rfl
          have a6 := cell_of_row _ _ 6 _ _ _ q0
          have f6 := frozen_of_row _ _ 6 _ _ q0
          have x6 := hS.cells.1 6 (.slice as6 n6 c6) rfl
          have a7 := cell_of_row _ _ 7 _ _ _ q0
          have f7 := frozen_of_row _ _ 7 _ _ q0
          have a8 := cell_of_row _ _ 8 _ _ _ q0
          have f8 := frozen_of_row _ _ 8 _ _ q0
          have x8 := hS.cells.1 8 (.slice ak n8 c8) rfl
          have a9 := cell_of_row _ _ 9 _ _ _ q0
          have f9 := frozen_of_row _ _ 9 _ _ q0
          have x9 := hS.cells.1 9 (.int .i64 st.drain) rfl
          have a10 := cell_of_row _ _ 0 _ _ _ q1
          have f10 := frozen_of_row _ _ 0 _ _ q1
          have a11 := cell_of_row _ _ 0 _ _ _ q2
          have f11 := frozen_of_row _ _ 0 _ _ q2
          have HROW := Lib.hid hrow
          have HPR := Lib.hid hPR
          have HKD := Lib.hid hK
          have Q0 := Lib.hid q0
          have Q1 := Lib.hid q1
          have Q2 := Lib.hid q2
          have Q3 := Lib.hid q3
          have HST := Lib.hid hst
          have HFT := Lib.hid hF
          have hge := hS.ge
          obtain ⟨y0, hy0⟩ : ∃ y, st.c.getD 0 0 = y := ⟨_, rfl⟩
          rw [hy0] at x0
          have HY0 := Lib.hid hy0
          obtain ⟨y1, hy1⟩ : ∃ y, st.c.getD 1 0 = y := ⟨_, rfl⟩
          rw [hy1] at x1
          have HY1 := Lib.hid hy1
          obtain ⟨y2, hy2⟩ : ∃ y, st.c.getD 2 0 = y := ⟨_, rfl⟩
          rw [hy2] at x2
          have HY2 := Lib.hid hy2
          obtain ⟨y3, hy3⟩ : ∃ y, st.c.getD 3 0 = y := ⟨_, rfl⟩
          rw [hy3] at x3
          have HY3 := Lib.hid hy3
          obtain ⟨y4, hy4⟩ : ∃ y, st.c.getD 4 0 = y := ⟨_, rfl⟩
          rw [hy4] at x4
          have HY4 := Lib.hid hy4
          obtain ⟨y5, hy5⟩ : ∃ y, st.c.getD 5 0 = y := ⟨_, rfl⟩
          rw [hy5] at x5
          have HY5 := Lib.hid hy5
          obtain ⟨dr, hdr⟩ : ∃ y, st.drain = y := ⟨_, rfl⟩
          rw [hdr] at x9
          have HDR := Lib.hid hdr
          clear hPR hK q0 q1 q2 q3 hrow hst hF hpl hn7 hn6 hn8 hS hdr hO hgo hB htb hLin h2 hy0 hy1 hy2 hy3 hy4 hy5
          go_wp2
          obtain ⟨X1, hX1⟩ : ∃ X1, X1 = ((((((((((X.setCell ⟨w.heap.size, 0, none⟩ (.int .i64 y0)).setCell ⟨w.heap.size, 1, none⟩ (.int .i64 y1)).setCell ⟨w.heap.size, 2, none⟩ (.int .i64 y2)).setCell ⟨w.heap.size, 3, none⟩ (.int .i64 y3)).setCell ⟨w.heap.size, 4, none⟩ (.int .i64 y4)).setCell ⟨w.heap.size, 5, none⟩ (.int .i64 y5)).setCell ⟨w.heap.size, 6, none⟩ (.slice as6 n6 c6)).setCell ⟨w.heap.size, 7, none⟩ (.slice ap n7 c7)).setCell ⟨w.heap.size, 8, none⟩ (.slice ak n8 c8)).setCell ⟨w.heap.size, 9, none⟩ (.int .i64 dr)) := ⟨_, rfl⟩
          rw [← hX1]
          obtain ⟨t1, t2, t3⟩ := ten_set Q0.out (Nat.le_refl w.heap.size) X1 hX1
          clear hX1
          have j1 := (t3 (w.heap.size + 1) (by omega)).trans Q1.out
          have j2 := (t3 (w.heap.size + 1 + 1) (by omega)).trans Q2.out
          obtain ⟨X2, hX2⟩ : ∃ X2, X2 = X1.setCell ⟨w.heap.size + 1, 0, none⟩ (.int .i64 0) := ⟨_, rfl⟩
          have m1 : X2.heap[w.heap.size + 1]? = some (.cells #[.int .i64 0] 3) := by rw [hX2, heap_setCell_same X1 _ 0 _ _ _ j1]; rfl
          have m2 := (show X2.heap[w.heap.size + 1 + 1]? = X1.heap[w.heap.size + 1 + 1]? by rw [hX2]; exact heap_setCell_other _ ⟨w.heap.size + 1, 0, none⟩ _ _ (by show w.heap.size + 1 + 1 ≠ w.heap.size + 1; omega)).trans j2
          have mo : ∀ g, g ≠ w.heap.size + 1 → X2.heap[g]? = X1.heap[g]? := fun g hg => by rw [hX2]; exact heap_setCell_other _ ⟨w.heap.size + 1, 0, none⟩ _ _ hg
          have mB : Below w.heap.size X1 X2 := by rw [hX2]; exact (Below.refl _ _).setCell (p := ⟨w.heap.size + 1, 0, none⟩) (by show w.heap.size ≤ w.heap.size + 1; omega) _
          rw [← hX2]
          clear hX2
          obtain ⟨X3, hX3⟩ : ∃ X3, X3 = X2.setCell ⟨w.heap.size + 1 + 1, 0, none⟩ (.int .i64 0) := ⟨_, rfl⟩
          have l2 : X3.heap[w.heap.size + 1 + 1]? = some (.cells #[.int .i64 0] 30) := by rw [hX3, heap_setCell_same X2 _ 0 _ _ _ m2]; rfl
          have lo : ∀ g, g ≠ w.heap.size + 1 + 1 → X3.heap[g]? = X2.heap[g]? := fun g hg => by rw [hX3]; exact heap_setCell_other _ ⟨w.heap.size + 1 + 1, 0, none⟩ _ _ hg
          have lB : Below w.heap.size X2 X3 := by rw [hX3]; exact (Below.refl _ _).setCell (p := ⟨w.heap.size + 1 + 1, 0, none⟩) (by show w.heap.size ≤ w.heap.size + 1 + 1; omega) _
          rw [← hX3]
          clear hX3
          have all : ∀ g, rb ≤ g → X3.heap[g]? = X.heap[g]? := fun g hg => (lo g (by have := HRB.out; omega)).trans ((mo g (by have := HRB.out; omega)).trans (t3 g (by have := HRB.out; omega)))
          refine leave_fine (D := D) (vb := vb) (pv := pv) ⟨rfl, rfl, rfl⟩ ((all D (by omega)).trans HKD.out) ?_ ((lo _ (by omega)).trans m1) l2 (((Q3.out.trans t2).trans mB).trans lB) hND (HROW.out.high (by have := HRB.out; omega) all) HPR.out
          rw [HY0.out, HY1.out, HY2.out, HY3.out, HY4.out, HY5.out, HDR.out]
          exact (lo _ (by omega)).trans ((mo _ (by omega)).trans t1)
  case z9 =>
    intro D ch X hD hI hK
    obtain ⟨er, ln, rfl, hL, hB⟩ := hI
    refine leave_fault (D := D) ⟨rfl, rfl, rfl⟩ hK (by simp at hD; omega) (by rw [resW_size, HRB.out]; exact hB) ?_
    unfold ParseR
    rw [if_neg (by omega)]
    exact ⟨_, hL, rfl⟩
end Go.Proofs.YtoiokbdipcecnaaGreatDoor
