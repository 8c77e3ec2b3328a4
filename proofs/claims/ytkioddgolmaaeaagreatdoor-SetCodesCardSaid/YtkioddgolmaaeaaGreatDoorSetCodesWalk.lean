/-
  quash/quashlaw18.SetCodes answers true. Condition: the library's variables (Env).
-/
import Derived.Test.YtkioddgolmaaeaaGreatDoorSetFormed
import Derived.Test.YtkioddgolmaaeaaGreatDoorVerifyWalk
namespace Go.Proofs.YtkioddgolmaaeaaGreatDoor
open Go.RowKit
set_option maxRecDepth 100000

theorem verify_progs (base op x : Int) (ho : op = 1 ∨ op = 2 ∨ op = 3 ∨ op = 4 ∧ x = 0 ∨ op = 5 ∧ x = 0) : verifyL (progLD op.toNat base x) = (0, 0) := by
  obtain rfl | rfl | rfl | ⟨rfl, rfl⟩ | ⟨rfl, rfl⟩ := ho
  · rw [show progLD (1 : Int).toNat base x = progL1 base x from rfl]; kernel_rfl
  · rw [show progLD (2 : Int).toNat base x = progL2 base x from rfl]; kernel_rfl
  · rw [show progLD (3 : Int).toNat base x = progL3 base x from rfl]; kernel_rfl
  · rw [show progLD (4 : Int).toNat base 0 = progL4 base 0 from rfl]; kernel_rfl
  · rw [show progLD (5 : Int).toNat base 0 = progL5 base from rfl]; kernel_rfl
theorem formed_progs (base op x : Int) (ho : op = 1 ∨ op = 2 ∨ op = 3 ∨ op = 4 ∧ x = 0 ∨ op = 5 ∧ x = 0) : formedL (progLD op.toNat base x) = true := by
  obtain rfl | rfl | rfl | ⟨rfl, rfl⟩ | ⟨rfl, rfl⟩ := ho
  · rw [show progLD (1 : Int).toNat base x = progL1 base x from rfl]; kernel_rfl
  · rw [show progLD (2 : Int).toNat base x = progL2 base x from rfl]; kernel_rfl
  · rw [show progLD (3 : Int).toNat base x = progL3 base x from rfl]; kernel_rfl
  · rw [show progLD (4 : Int).toNat base 0 = progL4 base 0 from rfl]; kernel_rfl
  · rw [show progLD (5 : Int).toNat base 0 = progL5 base from rfl]; kernel_rfl
theorem formed_len {l : List (Int × Int)} (h : formedL l = true) : 1 < l.length ∧ l.length ≤ 100 := by
  simp only [formedL, Bool.and_eq_true, decide_eq_true_eq] at h
  exact ⟨h.1.1.1.2, h.1.1.2⟩
theorem own_seesP {w : World} {B : Nat} {v : Value} {l : List (Int × Int)} (h : w.ownsRow B 70 2 v l.length (instrCells l)) (h1 : 0 < l.length) : ∃ g c, v = .slice (some ⟨g, 0, none⟩) l.length c ∧ SeesP w (some ⟨g, 0, none⟩) l := by
  obtain ⟨g, c, hv⟩ := Joins.ownsRow_form h h1
  subst hv
  refine ⟨g, c, rfl, g, 0, fun _ => rfl, fun k x hx => ?_⟩
  have hk : k < l.length := (List.getElem?_eq_some_iff.1 hx).1
  rw [Nat.zero_add]
  exact ⟨(h.cellAt (k * 2) (by omega)).trans (instrCells_at l k _ hx).1, (h.cellAt (k * 2 + 1) (by omega)).trans (instrCells_at l k _ hx).2⟩
set_option maxHeartbeats 4000000 in
theorem SetCodes_yes (base n op a b x y : Int) (w : World) (he : Env w) (hx1 : -9223372036854775808 ≤ x) (hx2 : x ≤ 9223372036854775807) (h : codeOkD base n op a b x y = true) :
    Calls Tryz.prog 8 #[.int .i64 base, .int .i64 n, .agg #[.int .i64 op, .int .i64 a, .int .i64 b, .int .i64 x, .int .i64 y]] w fun e w' => e = .returned (.bool true) ∧ Below w.heap.size w w' := by
  have HCODE := fun w' he' => Lib.hid (Code_yesD base n op a b x y w' he' hx1 hx2 h)
  have HE := Lib.hid (fun W (hb : Below w.heap.size w W) => he.below hb)
  simp only [codeOkD, Bool.and_eq_true, decide_eq_true_eq] at h
  obtain ⟨⟨⟨hr, hm⟩, hb0⟩, hb1⟩ := h
  obtain ⟨hr2, hn1, hn2⟩ := roomI_yes hr
  have ho := (mayD_op hm).2.2.2
  have HV := Lib.hid (verify_progs base op x ho)
  have HF := Lib.hid (formed_progs base op x ho)
  have HR := Lib.hid hr2
  have HM := Lib.hid hm
  rw [hr2] at hb1
  generalize progLD op.toNat base x = PR at HCODE HV HF
  have hn0 : decide (0 < 3 + 2 * n) = true := by simp; omega
  have g1 : decide (0 ≤ base) = true := by simp; omega
  have g2 : decide (base ≤ 256 - (3 + 2 * n)) = true := by simp; omega
  clear he ho hm hr hr2
  go_enter Tryz.func8, Tryz.ntmps8
  go_upto_region 2 with (go_at_call 9; go_must (refine (awake_any _ (HE.out _ ((Below.refl _ _).alloc (Nat.le_refl _) _))).mono ?_; rintro e w1 ⟨rfl, hb1⟩))
  have hB1 : Below w.heap.size w w1 := ((Below.refl _ _).alloc (Nat.le_refl _) _).trans (hb1.mono (by simp))
  have hd1 : w1.heap[w.heap.size]? = some (.cells #[.int .i64 op, .int .i64 a, .int .i64 b, .int .i64 x, .int .i64 y] 36) := (hb1.block _ (by simp)).trans (heap_new _ _ _ rfl)
  have c0 := cell_of_row _ _ 0 _ _ _ hd1
  have c1 := cell_of_row _ _ 1 _ _ _ hd1
  have c2 := cell_of_row _ _ 2 _ _ _ hd1
  have c3 := cell_of_row _ _ 3 _ _ _ hd1
  have c4 := cell_of_row _ _ 4 _ _ _ hd1
  have HD1 := Lib.hid hd1
  clear hb1 hd1
  go_upto_region 3 with (go_at_call 23; go_must (refine (HCODE _ (HE.out _ hB1)).out.mono ?_; rintro e w2 ⟨v, rfl, ho2, hb2⟩))
  obtain ⟨g, cap, rfl, hs2⟩ := own_seesP ho2 (by have := formed_len HF.out; omega)
  have hd2 := (hb2.block _ (lt_of_block HD1.out)).trans HD1.out
  have hB2 : Below w.heap.size w w2 := hB1.trans (hb2.mono hB1.size)
  clear c0 c1 c2 c3 c4 ho2 hb2
  have c0 := cell_of_row _ _ 0 _ _ _ hd2
  have c1 := cell_of_row _ _ 1 _ _ _ hd2
  have c2 := cell_of_row _ _ 2 _ _ _ hd2
  have c3 := cell_of_row _ _ 3 _ _ _ hd2
  have c4 := cell_of_row _ _ 4 _ _ _ hd2
  have HS2 := Lib.hid hs2
  clear hs2 hd2
  go_wp2_with (first
    | (go_at_call 14; go_must (refine (refRoom_any n _).mono ?_; rintro e w3 ⟨rfl, rfl⟩; rw [HR.out]))
    | (go_at_call 24; go_must (refine (May_any n op a b x y _).mono ?_; rintro e w4 ⟨rfl, hb4⟩; rw [HM.out]))
    | (go_at_call 19; go_must (refine (codeSet_any true _).mono ?_; rintro e w5 ⟨rfl, rfl⟩))
    | (go_at_call 25; go_must (refine (formed_yes _ _ PR _ (HS2.out.below hb4) HF.out).mono ?_; rintro e w6 ⟨rfl, rfl⟩))
    | (go_at_call 26; go_must (refine (Verify_any _ _ PR _ (HS2.out.below hb4) (by have := formed_len HF.out; unfold maxLen; omega)).mono ?_; rintro e w7 ⟨rfl, hb7⟩; rw [HV.out])))
  go_ret
  exact ⟨rfl, (hB2.trans (hb4.mono hB2.size)).trans (hb7.mono (Nat.le_trans hB2.size hb4.size))⟩
set_option maxHeartbeats 4000000 in
theorem SetCodes_no (base n op a b x y : Int) (w : World) (he : Env w) (hlim : base ≤ 9223372036854775807) (h : codeOkD base n op a b x y = false) :
    Calls Tryz.prog 8 #[.int .i64 base, .int .i64 n, .agg #[.int .i64 op, .int .i64 a, .int .i64 b, .int .i64 x, .int .i64 y]] w fun e w' => e = .returned (.bool true) ∧ Below w.heap.size w w' := by
  have HCODE := fun w' => Lib.hid (Code_noD base n op a b x y w' hlim h)
  have HE := Lib.hid (fun W (hb : Below w.heap.size w W) => he.below hb)
  have hcase : roomI n = 0 ∨ (roomI n = 3 + 2 * n ∧ 1 ≤ n ∧ n ≤ 60 ∧ mayD op a b x y = false) ∨ (roomI n = 3 + 2 * n ∧ 1 ≤ n ∧ n ≤ 60 ∧ mayD op a b x y = true ∧ base < 0) ∨ (roomI n = 3 + 2 * n ∧ 1 ≤ n ∧ n ≤ 60 ∧ mayD op a b x y = true ∧ 0 ≤ base ∧ 256 - (3 + 2 * n) < base) := by
    by_cases hr : roomI n = 0
    · exact .inl hr
    · obtain ⟨hr2, hn1, hn2⟩ := roomI_yes hr
      cases hm : mayD op a b x y with
      | false => exact .inr (.inl ⟨hr2, hn1, hn2, rfl⟩)
      | true =>
        by_cases g : base < 0
        · exact .inr (.inr (.inl ⟨hr2, hn1, hn2, rfl, g⟩))
        · refine .inr (.inr (.inr ⟨hr2, hn1, hn2, rfl, by omega, ?_⟩))
          by_cases g2 : 256 - (3 + 2 * n) < base
          · exact g2
          · exfalso
            have : codeOkD base n op a b x y = true := by
              simp only [codeOkD, Bool.and_eq_true, decide_eq_true_eq]
              exact ⟨⟨⟨hr, hm⟩, by omega⟩, by rw [hr2]; omega⟩
            rw [this] at h; cases h
  clear he h
  go_enter Tryz.func8, Tryz.ntmps8
  go_upto_region 2 with (go_at_call 9; go_must (refine (awake_any _ (HE.out _ ((Below.refl _ _).alloc (Nat.le_refl _) _))).mono ?_; rintro e w1 ⟨rfl, hb1⟩))
  have hB1 : Below w.heap.size w w1 := ((Below.refl _ _).alloc (Nat.le_refl _) _).trans (hb1.mono (by simp))
  have hd1 : w1.heap[w.heap.size]? = some (.cells #[.int .i64 op, .int .i64 a, .int .i64 b, .int .i64 x, .int .i64 y] 36) := (hb1.block _ (by simp)).trans (heap_new _ _ _ rfl)
  have c0 := cell_of_row _ _ 0 _ _ _ hd1
  have c1 := cell_of_row _ _ 1 _ _ _ hd1
  have c2 := cell_of_row _ _ 2 _ _ _ hd1
  have c3 := cell_of_row _ _ 3 _ _ _ hd1
  have c4 := cell_of_row _ _ 4 _ _ _ hd1
  have HD1 := Lib.hid hd1
  clear hb1 hd1
  go_upto_region 3 with (go_at_call 23; go_must (refine (HCODE _).out.mono ?_; rintro e w2 ⟨rfl, hb2⟩))
  have hd2 := (hb2.block _ (lt_of_block HD1.out)).trans HD1.out
  have hB2 : Below w.heap.size w w2 := hB1.trans (hb2.mono hB1.size)
  clear c0 c1 c2 c3 c4 hb2
  have c0 := cell_of_row _ _ 0 _ _ _ hd2
  have c1 := cell_of_row _ _ 1 _ _ _ hd2
  have c2 := cell_of_row _ _ 2 _ _ _ hd2
  have c3 := cell_of_row _ _ 3 _ _ _ hd2
  have c4 := cell_of_row _ _ 4 _ _ _ hd2
  clear hd2
  rcases hcase with hr | ⟨hr, hn1, hn2, hm⟩ | ⟨hr, hn1, hn2, hm, g1⟩ | ⟨hr, hn1, hn2, hm, g1, g2⟩
  · have HR := Lib.hid hr
    clear hr
    go_wp2_with (first
      | (go_at_call 14; go_must (refine (refRoom_any n _).mono ?_; rintro e w3 ⟨rfl, rfl⟩; rw [HR.out]))
      | (go_at_call 19; go_must (refine (codeSet_any false _).mono ?_; rintro e w5 ⟨rfl, rfl⟩)))
    go_ret
    exact ⟨rfl, hB2⟩
  · have HR := Lib.hid hr
    have HM := Lib.hid hm
    have hn0 : decide (0 < 3 + 2 * n) = true := by simp; omega
    clear hr hm
    go_wp2_with (first
      | (go_at_call 14; go_must (refine (refRoom_any n _).mono ?_; rintro e w3 ⟨rfl, rfl⟩; rw [HR.out]))
      | (go_at_call 24; go_must (refine (May_any n op a b x y _).mono ?_; rintro e w4 ⟨rfl, hb4⟩; rw [HM.out]))
      | (go_at_call 19; go_must (refine (codeSet_any false _).mono ?_; rintro e w5 ⟨rfl, rfl⟩)))
    go_ret
    exact ⟨rfl, hB2.trans (hb4.mono hB2.size)⟩
  · have HR := Lib.hid hr
    have HM := Lib.hid hm
    have hn0 : decide (0 < 3 + 2 * n) = true := by simp; omega
    have d1 : decide (0 ≤ base) = false := by simp; omega
    clear hr hm
    go_wp2_with (first
      | (go_at_call 14; go_must (refine (refRoom_any n _).mono ?_; rintro e w3 ⟨rfl, rfl⟩; rw [HR.out]))
      | (go_at_call 24; go_must (refine (May_any n op a b x y _).mono ?_; rintro e w4 ⟨rfl, hb4⟩; rw [HM.out]))
      | (go_at_call 19; go_must (refine (codeSet_any false _).mono ?_; rintro e w5 ⟨rfl, rfl⟩)))
    go_ret
    exact ⟨rfl, hB2.trans (hb4.mono hB2.size)⟩
  · have HR := Lib.hid hr
    have HM := Lib.hid hm
    have hn0 : decide (0 < 3 + 2 * n) = true := by simp; omega
    have d1 : decide (0 ≤ base) = true := by simp; omega
    have d2 : decide (base ≤ 256 - (3 + 2 * n)) = false := by simp; omega
    clear hr hm
    go_wp2_with (first
      | (go_at_call 14; go_must (refine (refRoom_any n _).mono ?_; rintro e w3 ⟨rfl, rfl⟩; rw [HR.out]))
      | (go_at_call 24; go_must (refine (May_any n op a b x y _).mono ?_; rintro e w4 ⟨rfl, hb4⟩; rw [HM.out]))
      | (go_at_call 19; go_must (refine (codeSet_any false _).mono ?_; rintro e w5 ⟨rfl, rfl⟩)))
    go_ret
    exact ⟨rfl, hB2.trans (hb4.mono hB2.size)⟩
theorem SetCodes_any (base n op a b x y : Int) (w : World) (he : Env w) (hlim : base ≤ 9223372036854775807) (hx1 : -9223372036854775808 ≤ x) (hx2 : x ≤ 9223372036854775807) :
    Calls Tryz.prog 8 #[.int .i64 base, .int .i64 n, .agg #[.int .i64 op, .int .i64 a, .int .i64 b, .int .i64 x, .int .i64 y]] w fun e w' => e = .returned (.bool true) ∧ Below w.heap.size w w' := by
  cases h : codeOkD base n op a b x y with
  | true => exact SetCodes_yes base n op a b x y w he hx1 hx2 h
  | false => exact SetCodes_no base n op a b x y w he hlim h
end Go.Proofs.YtkioddgolmaaeaaGreatDoor
