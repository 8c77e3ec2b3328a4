/-
  quash/quashlaw17.awake answers true. Condition: the library's variables (Env).
-/
import Derived.Test.YtcobmefgefkdmaaGreatDoorBankCode
namespace Go.Proofs.YtcobmefgefkdmaaGreatDoor
open Go.RowKit
set_option maxRecDepth 100000

theorem below_cellK {w w' : World} {b o : Nat} {v : Value} {B : Nat} (h : Below B w w') (hb : b < B) (hc : w.cell? ⟨b, o, none⟩ = some v) : w'.cell? ⟨b, o, none⟩ = some v := (h.cell (p := ⟨b, o, none⟩) hb).trans hc
theorem awake_do1 (nb : Nat) (w : World) (h : w.heap[nb]? = some (.cells #[.int .i64 5, .int .i64 7, .int .i64 0] 2)) :
    Calls Tryz.prog 9 #[.slice (some ⟨nb, 0, none⟩) 3 3, .int .i64 3, .agg #[.int .i64 3, .int .i64 0, .int .i64 2, .int .i64 5, .int .i64 0]] w fun e w' =>
      ∃ g cap h, e = .returned (.tuple #[.slice (some ⟨g, 0, none⟩) 3 cap, .slice (some ⟨h, 0, none⟩) 1 1, .int .i64 0]) ∧ w'.cell? ⟨g, 0, none⟩ = some (.int .i64 0) ∧ w'.cell? ⟨g, 1, none⟩ = some (.int .i64 7) ∧ w'.cell? ⟨g, 2, none⟩ = some (.int .i64 5) ∧ w'.cell? ⟨h, 0, none⟩ = some (.int .i64 1) ∧ g < w'.heap.size ∧ h < w'.heap.size ∧ Below w.heap.size w w' := by
  have h0 : w.cell? ⟨nb, 0, none⟩ = some (.int .i64 5) := cell_of_row _ _ 0 _ _ _ h
  have h1 : w.cell? ⟨nb, 1, none⟩ = some (.int .i64 7) := cell_of_row _ _ 1 _ _ _ h
  have h2 : w.cell? ⟨nb, 2, none⟩ = some (.int .i64 0) := cell_of_row _ _ 2 _ _ _ h
  refine (Do_any nb 0 3 [5, 7, 0] 3 3 0 2 5 0 w (by decide) (lt_of_block h) (fun j hj => ?_)).mono fun e w' hd => ?_
  · match j, hj with
    | 0, _ => exact h0
    | 1, _ => exact h1
    | 2, _ => exact h2
    | n + 3, hj => exact absurd hj (by simp)
  · unfold DoDoes at hd
    rw [if_pos (by kernel_rfl)] at hd
    obtain ⟨g, cap, hh, rfl, hb, hc, _, _, hB⟩ := hd
    have e1 : deedS [5, 7, 0] 3 0 2 5 = ([0, 7, 5], 1) := by kernel_rfl
    rw [e1] at hb hc
    exact ⟨g, cap, hh, by rw [e1]; rfl, hb.cell 0 rfl, hb.cell 1 rfl, hb.cell 2 rfl, cell_of_row _ _ 0 _ _ _ hc, hb.lt.1, lt_of_block hc, hB⟩
theorem awake_do2 (nb : Nat) (w : World) (h : w.heap[nb]? = some (.cells #[.int .i64 5, .int .i64 7, .int .i64 0] 2)) :
    Calls Tryz.prog 9 #[.slice (some ⟨nb, 0, none⟩) 3 3, .int .i64 3, .agg #[.int .i64 4, .int .i64 0, .int .i64 0, .int .i64 1, .int .i64 0]] w fun e w' =>
      e = .returned (.tuple #[.slice none 0 0, .slice none 0 0, .int .i64 170]) ∧ Below w.heap.size w w' := by
  have h0 : w.cell? ⟨nb, 0, none⟩ = some (.int .i64 5) := cell_of_row _ _ 0 _ _ _ h
  have h1 : w.cell? ⟨nb, 1, none⟩ = some (.int .i64 7) := cell_of_row _ _ 1 _ _ _ h
  have h2 : w.cell? ⟨nb, 2, none⟩ = some (.int .i64 0) := cell_of_row _ _ 2 _ _ _ h
  refine (Do_any nb 0 3 [5, 7, 0] 3 4 0 0 1 0 w (by decide) (lt_of_block h) (fun j hj => ?_)).mono fun e w' hd => ?_
  · match j, hj with
    | 0, _ => exact h0
    | 1, _ => exact h1
    | 2, _ => exact h2
    | n + 3, hj => exact absurd hj (by simp)
  · unfold DoDoes at hd
    rw [if_neg (by rw [show doOk [5, 7, 0] 3 4 0 0 1 0 = false by kernel_rfl]; decide)] at hd
    exact hd
theorem awake_code1 (w : World) (he : Env w) : Calls Tryz.prog 17 #[.int .i64 253, .int .i64 3, .agg #[.int .i64 5, .int .i64 0, .int .i64 0, .int .i64 0, .int .i64 0]] w fun e w' =>
      ∃ a cap, e = .returned (.tuple #[.slice a 22 cap, .int .i64 0]) ∧ Below w.heap.size w w' := by
  refine (Code_any 253 3 5 0 0 0 0 w he (by decide)).mono fun e w' hd => ?_
  unfold CodeDoes at hd
  rw [if_pos (by kernel_rfl)] at hd
  obtain ⟨v, rfl, ho, hB⟩ := hd
  have hl : (progL (5 : Int).toNat 253 3 0 0 0).length = 22 := by kernel_rfl
  rw [hl] at ho
  obtain ⟨g, cap, rfl⟩ := Joins.ownsRow_form ho (by decide)
  exact ⟨_, cap, rfl, hB⟩
theorem awake_code2 (w : World) (he : Env w) : Calls Tryz.prog 17 #[.int .i64 254, .int .i64 3, .agg #[.int .i64 5, .int .i64 0, .int .i64 0, .int .i64 0, .int .i64 0]] w fun e w' =>
      e = .returned (.tuple #[.slice none 0 0, .int .i64 170]) ∧ Below w.heap.size w w' := by
  refine (Code_any 254 3 5 0 0 0 0 w he (by decide)).mono fun e w' hd => ?_
  unfold CodeDoes at hd
  rw [if_neg (by rw [show codeOk 254 3 5 0 0 0 0 = false by kernel_rfl]; decide)] at hd
  exact hd
set_option maxHeartbeats 2000000 in
theorem awake_any (w : World) (he : Env w) : Calls Tryz.prog 8 #[] w fun e w' => e = .returned (.bool true) ∧ Below w.heap.size w w' := by
  have HE := Lib.hid (fun W (hb : Below w.heap.size w W) => he.below hb)
  have HR := Lib.hid (show roomI 3 = 3 by decide)
  clear he
  go_enter Tryz.func8, Tryz.ntmps8
  go_wp2_with fail
  refine (awake_do1 _ _ (heap_new _ _ _ rfl)).mono ?_
  rintro e w1 ⟨g, cap, h, rfl, c0, c1, c2, d0, hg, hh, hb1⟩
  have hB1 : Below w.heap.size w w1 := ((Below.refl _ _).alloc (Nat.le_refl _) _).trans (hb1.mono (by simp))
  go_wp2_with fail
  refine (awake_do2 _ _ (heap_new _ _ _ rfl)).mono ?_
  rintro e w2 ⟨rfl, hb2⟩
  have hB2 : Below w.heap.size w w2 := (hB1.alloc hB1.size _).trans (hb2.mono (by have := hB1.size; simp; omega))
  have hW2 : Below w1.heap.size w1 w2 := ((Below.refl _ _).alloc (Nat.le_refl _) _).trans (hb2.mono (by simp))
  go_wp2_with fail
  refine (awake_code1 _ (HE.out _ hB2)).mono ?_
  rintro e w3 ⟨a, cp, rfl, hb3⟩
  have hB3 := hB2.trans (hb3.mono hB2.size)
  have hW3 := hW2.trans (hb3.mono hW2.size)
  go_wp2_with fail
  refine (awake_code2 _ (HE.out _ hB3)).mono ?_
  rintro e w4 ⟨rfl, hb4⟩
  have hB4 := hB3.trans (hb4.mono hB3.size)
  have hW4 := hW3.trans (hb4.mono hW3.size)
  have c0 := below_cellK hW4 hg c0
  have c1 := below_cellK hW4 hg c1
  have c2 := below_cellK hW4 hg c2
  have d0 := below_cellK hW4 hh d0
  clear hb1 hb2 hb3 hb4 hB1 hB2 hB3 hW2 hW3 hW4
  go_wp2_with (go_at_call 13; go_must (refine (Room_any 3 _).mono ?_; rintro e w5 ⟨rfl, rfl⟩; rw [HR.out]))
  go_ret
  exact ⟨rfl, hB4⟩
end Go.Proofs.YtcobmefgefkdmaaGreatDoor
