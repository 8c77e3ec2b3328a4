/-
  quash/quashlaw18.awake answers true. Condition: the library's variables (Env).
-/
import Derived.Test.YtkioddgolmaaeaaGreatDoorSetProg
import Derived.Test.YtkioddgolmaaeaaGreatDoorSetRead2
namespace Go.Proofs.YtkioddgolmaaeaaGreatDoor
open Go.RowKit
set_option maxRecDepth 100000

theorem below_cellK {w w' : World} {b o : Nat} {v : Value} {B : Nat} (h : Below B w w') (hb : b < B) (hc : w.cell? ⟨b, o, none⟩ = some v) : w'.cell? ⟨b, o, none⟩ = some v := (h.cell (p := ⟨b, o, none⟩) hb).trans hc
theorem flat_some (g n : Nat) : Flat (some ⟨g, 0, none⟩) n n := ⟨fun h => (by cases h), Nat.le_refl _⟩
theorem own_some {w : World} {B : Nat} {v : Value} {zs : List Int} {n : Nat} (h : Own w B v zs) (hl : zs.length = n) (h0 : 0 < n) : ∃ g c, v = .slice (some ⟨g, 0, none⟩) n c ∧ Bal w B g c zs := by
  subst hl
  rcases h.form with ⟨_, rfl⟩ | ⟨g, c, h1, h2⟩
  · simp at h0
  · exact ⟨g, c, h1, h2⟩
theorem awake_do1 (nb : Nat) (w : World) (h : w.heap[nb]? = some (.cells #[.int .i64 2, .int .i64 5] 2)) :
    Calls Tryz.prog 17 #[.slice (some ⟨nb, 0, none⟩) 2 2, .int .i64 3, .agg #[.int .i64 1, .int .i64 0, .int .i64 0, .int .i64 3, .int .i64 0]] w fun e w' =>
      ∃ g c h k, e = .returned (.tuple #[.slice (some ⟨g, 0, none⟩) 3 c, .slice (some ⟨h, 0, none⟩) 1 k, .int .i64 0]) ∧ Bal w' w.heap.size g c [2, 3, 5] ∧ Bal w' w.heap.size h k [1] ∧ Below w.heap.size w w' := by
  refine (Do_any _ 2 2 [2, 5] 3 1 0 0 3 0 w rfl (by decide) (flat_some nb 2) (sees_two h)).mono fun e w' hd => ?_
  have e1 : doS [2, 5] 3 1 0 0 3 0 = ([2, 3, 5], [1], true) := by decide
  rw [e1] at hd
  obtain ⟨v, t, rfl, hv, ht, _, hB⟩ := hd
  obtain ⟨g, c, rfl, hg⟩ := own_some hv rfl (by decide)
  obtain ⟨h, k, rfl, hh⟩ := own_some ht rfl (by decide)
  exact ⟨g, c, h, k, rfl, hg, hh, hB⟩
theorem awake_do2 (nb : Nat) (w : World) (h : w.heap[nb]? = some (.cells #[.int .i64 2, .int .i64 1] 2)) :
    Calls Tryz.prog 17 #[.slice (some ⟨nb, 0, none⟩) 2 2, .int .i64 3, .agg #[.int .i64 5, .int .i64 0, .int .i64 0, .int .i64 0, .int .i64 0]] w fun e w' =>
      ∃ v t, e = .returned (.tuple #[v, t, .int .i64 180]) ∧ Below w.heap.size w w' := by
  refine (Do_any _ 2 2 [2, 1] 3 5 0 0 0 0 w rfl (by decide) (flat_some nb 2) (sees_two h)).mono fun e w' hd => ?_
  have e1 : doS [2, 1] 3 5 0 0 0 0 = ([], [], false) := by decide
  rw [e1] at hd
  obtain ⟨v, t, rfl, hv, ht, _, hB⟩ := hd
  exact ⟨v, t, rfl, hB⟩
theorem sees_list {w : World} {g : Nat} {l : List Int} {t : TypeId} (h : w.heap[g]? = some (.cells (l.map (Value.int .i64)).toArray t)) : Sees w (some ⟨g, 0, none⟩) l := Sees.cells fun j hj => by
  rw [Nat.zero_add, cell_of_row _ _ j _ _ _ h]
  simp [List.getD_eq_getElem?_getD, List.getElem?_eq_getElem hj]
theorem awake_read1 (nb : Nat) (w : World) (h : w.heap[nb]? = some (.cells #[.int .i64 2, .int .i64 1, .int .i64 1, .int .i64 9, .int .i64 3, .int .i64 4, .int .i64 0, .int .i64 0, .int .i64 0] 2)) :
    Calls Tryz.prog 11 #[.slice (some ⟨nb, 0, none⟩) 9 9, .int .i64 0, .int .i64 3] w fun e w' =>
      ∃ g c, e = .returned (.tuple #[.slice (some ⟨g, 0, none⟩) 1 c, .int .i64 0]) ∧ Bal w' w.heap.size g c [4] ∧ Below w.heap.size w w' := by
  refine (Read_any nb 0 9 9 [2, 1, 1, 9, 3, 4, 0, 0, 0] 0 3 w rfl (by decide) (by decide) (by decide) (sees_list h)).mono fun e w' hd => ?_
  have e1 : setS [2, 1, 1, 9, 3, 4, 0, 0, 0] 0 3 = ([4], 0) := by decide
  rw [e1] at hd
  obtain ⟨v, rfl, hv, hB⟩ := hd
  obtain ⟨g, c, rfl, hg⟩ := own_some hv rfl (by decide)
  exact ⟨g, c, rfl, hg, hB⟩
theorem awake_read2 (nb : Nat) (w : World) (h : w.heap[nb]? = some (.cells #[.int .i64 0, .int .i64 1, .int .i64 1, .int .i64 0, .int .i64 2, .int .i64 0, .int .i64 3, .int .i64 0, .int .i64 0] 2)) :
    Calls Tryz.prog 11 #[.slice (some ⟨nb, 0, none⟩) 9 9, .int .i64 0, .int .i64 3] w fun e w' =>
      ∃ v, e = .returned (.tuple #[v, .int .i64 181]) ∧ Below w.heap.size w w' := by
  refine (Read_any nb 0 9 9 [0, 1, 1, 0, 2, 0, 3, 0, 0] 0 3 w rfl (by decide) (by decide) (by decide) (sees_list h)).mono fun e w' hd => ?_
  have e1 : setS [0, 1, 1, 0, 2, 0, 3, 0, 0] 0 3 = ([], 181) := by decide
  rw [e1] at hd
  obtain ⟨v, rfl, hv, hB⟩ := hd
  exact ⟨v, rfl, hB⟩
theorem awake_code (w : World) (he : Env w) : Calls Tryz.prog 23 #[.int .i64 0, .int .i64 3, .agg #[.int .i64 5, .int .i64 0, .int .i64 0, .int .i64 0, .int .i64 0]] w fun e w' =>
      ∃ a cap, e = .returned (.tuple #[.slice a 5 cap, .int .i64 0]) ∧ Below w.heap.size w w' := by
  refine (Code5_any 0 3 w he (by decide) (by decide) (by decide) (by decide)).mono fun e w' hd => ?_
  obtain ⟨v, rfl, ho, hB⟩ := hd
  obtain ⟨g, cap, rfl⟩ := Joins.ownsRow_form ho (by decide)
  exact ⟨_, cap, rfl, hB⟩
set_option maxHeartbeats 2000000 in
theorem awake_any (w : World) (he : Env w) : Calls Tryz.prog 9 #[] w fun e w' => e = .returned (.bool true) ∧ Below w.heap.size w w' := by
  have HE := Lib.hid (fun W (hb : Below w.heap.size w W) => he.below hb)
  clear he
  go_enter Tryz.func9, Tryz.ntmps9
  go_wp2_with fail
  refine (awake_do1 _ _ (heap_new _ _ _ rfl)).mono ?_
  rintro e w1 ⟨g1, k1, h1, j1, rfl, hg1, hh1, hb1⟩
  have hB1 : Below w.heap.size w w1 := ((Below.refl _ _).alloc (Nat.le_refl _) _).trans (hb1.mono (by simp))
  go_wp2_with fail
  refine (awake_do2 _ _ (heap_new _ _ _ rfl)).mono ?_
  rintro e w2 ⟨v2, t2, rfl, hb2⟩
  have hW2 : Below w1.heap.size w1 w2 := ((Below.refl _ _).alloc (Nat.le_refl _) _).trans (hb2.mono (by simp))
  have hB2 := hB1.trans (hW2.mono hB1.size)
  have hg1 := hg1.below hW2
  have hh1 := hh1.below hW2
  clear hb1 hb2 hW2
  go_wp2_with fail
  refine (awake_read1 _ _ (heap_new _ _ _ rfl)).mono ?_
  rintro e w3 ⟨g3, k3, rfl, hg3, hb3⟩
  have hW3 : Below w2.heap.size w2 w3 := ((Below.refl _ _).alloc (Nat.le_refl _) _).trans (hb3.mono (by simp))
  have hB3 := hB2.trans (hW3.mono hB2.size)
  have hg1 := hg1.below hW3
  have hh1 := hh1.below hW3
  clear hb3 hW3
  go_wp2_with fail
  refine (awake_read2 _ _ (heap_new _ _ _ rfl)).mono ?_
  rintro e w4 ⟨v4, rfl, hb4⟩
  have hW4 : Below w3.heap.size w3 w4 := ((Below.refl _ _).alloc (Nat.le_refl _) _).trans (hb4.mono (by simp))
  have hB4 := hB3.trans (hW4.mono hB3.size)
  have hg1 := hg1.below hW4
  have hh1 := hh1.below hW4
  have hg3 := hg3.below hW4
  clear hb4 hW4
  go_wp2_with fail
  refine (awake_code _ (HE.out _ hB4)).mono ?_
  rintro e w5 ⟨a, cp, rfl, hb5⟩
  have hB5 := hB4.trans (hb5.mono hB4.size)
  have hg1 := hg1.below hb5
  have hh1 := hh1.below hb5
  have hg3 := hg3.below hb5
  have a0 := hg1.cell 0 rfl
  have a1 := hg1.cell 1 rfl
  have a2 := hg1.cell 2 rfl
  have b0 := hh1.cell 0 rfl
  have d0 := hg3.cell 0 rfl
  clear hb5 hB1 hB2 hB3 hB4 hg1 hh1 hg3
  go_wp2
  go_ret
  exact ⟨rfl, hB5⟩
end Go.Proofs.YtkioddgolmaaeaaGreatDoor
