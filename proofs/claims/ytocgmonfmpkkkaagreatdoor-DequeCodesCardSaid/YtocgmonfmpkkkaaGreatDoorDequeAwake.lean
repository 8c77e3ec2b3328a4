/-
  quash/quashlaw20.awake answers true. Condition: the library's variables (Env).
-/
import Derived.Test.YtocgmonfmpkkkaaGreatDoorDequeProg
import Derived.Test.YtocgmonfmpkkkaaGreatDoorDequeRead
namespace Go.Proofs.YtocgmonfmpkkkaaGreatDoor
open Go.RowKit
set_option maxRecDepth 100000

theorem below_cellK {w w' : World} {b o : Nat} {v : Value} {B : Nat} (h : Below B w w') (hb : b < B) (hc : w.cell? ⟨b, o, none⟩ = some v) : w'.cell? ⟨b, o, none⟩ = some v := (h.cell (p := ⟨b, o, none⟩) hb).trans hc
theorem flat_some (g n : Nat) : Flat (some ⟨g, 0, none⟩) n n := ⟨fun h => (by cases h), fun a h => ⟨g, 0, by injection h with h; exact h.symm⟩, Nat.le_refl _⟩
theorem own_some {w : World} {B : Nat} {v : Value} {zs : List Int} {n : Nat} (h : Own w B v zs) (hl : zs.length = n) (h0 : 0 < n) : ∃ g c, v = .slice (some ⟨g, 0, none⟩) n c ∧ Bal w B g c zs := by
  subst hl
  rcases h.form with ⟨_, rfl⟩ | ⟨g, c, h1, h2⟩
  · simp at h0
  · exact ⟨g, c, h1, h2⟩
theorem awake_do1 (nb : Nat) (w : World) (h : w.heap[nb]? = some (.cells #[.int .i64 7, .int .i64 5] 2)) :
    Calls Tryz.prog 17 #[.slice (some ⟨nb, 0, none⟩) 2 2, .int .i64 3, .agg #[.int .i64 2, .int .i64 0, .int .i64 0, .int .i64 1, .int .i64 0]] w fun e w' =>
      ∃ g c h k, e = .returned (.tuple #[.slice (some ⟨g, 0, none⟩) 3 c, .slice (some ⟨h, 0, none⟩) 1 k, .int .i64 0]) ∧ Bal w' w.heap.size g c [1, 7, 5] ∧ Bal w' w.heap.size h k [1] ∧ Below w.heap.size w w' := by
  refine (Do_any _ 2 2 [7, 5] 3 2 0 0 1 0 w rfl (flat_some nb 2) (sees_two h)).mono fun e w' hd => ?_
  have e1 : doS [7, 5] 3 2 0 0 1 0 = ([1, 7, 5], [1], true) := by kernel_rfl
  rw [e1] at hd
  obtain ⟨v, t, rfl, hv, ht, _, hB⟩ := hd
  obtain ⟨g, c, rfl, hg⟩ := own_some hv rfl (by decide)
  obtain ⟨h, k, rfl, hh⟩ := own_some ht rfl (by decide)
  exact ⟨g, c, h, k, rfl, hg, hh, hB⟩
theorem awake_do2 (nb : Nat) (w : World) (h : w.heap[nb]? = some (.cells #[.int .i64 7, .int .i64 5] 2)) :
    Calls Tryz.prog 17 #[.slice (some ⟨nb, 0, none⟩) 2 2, .int .i64 3, .agg #[.int .i64 3, .int .i64 0, .int .i64 0, .int .i64 0, .int .i64 0]] w fun e w' =>
      ∃ g c h k, e = .returned (.tuple #[.slice (some ⟨g, 0, none⟩) 1 c, .slice (some ⟨h, 0, none⟩) 2 k, .int .i64 0]) ∧ Bal w' w.heap.size h k [1, 5] ∧ Below w.heap.size w w' := by
  refine (Do_any _ 2 2 [7, 5] 3 3 0 0 0 0 w rfl (flat_some nb 2) (sees_two h)).mono fun e w' hd => ?_
  have e1 : doS [7, 5] 3 3 0 0 0 0 = ([7], [1, 5], true) := by kernel_rfl
  rw [e1] at hd
  obtain ⟨v, t, rfl, hv, ht, _, hB⟩ := hd
  obtain ⟨g, c, rfl, hg⟩ := own_some hv rfl (by decide)
  obtain ⟨h, k, rfl, hh⟩ := own_some ht rfl (by decide)
  exact ⟨g, c, h, k, rfl, hh, hB⟩
theorem sees_five {w : World} {g : Nat} {a b c d e : Int} {t : TypeId} (h : w.heap[g]? = some (.cells #[.int .i64 a, .int .i64 b, .int .i64 c, .int .i64 d, .int .i64 e] t)) : Sees w (some ⟨g, 0, none⟩) [a, b, c, d, e] := Sees.cells fun j hj => by
  match j, hj with
  | 0, _ => exact cell_of_row _ _ 0 _ _ _ h
  | 1, _ => exact cell_of_row _ _ 1 _ _ _ h
  | 2, _ => exact cell_of_row _ _ 2 _ _ _ h
  | 3, _ => exact cell_of_row _ _ 3 _ _ _ h
  | 4, _ => exact cell_of_row _ _ 4 _ _ _ h
  | j + 5, hj => exact absurd hj (by simp)
theorem awake_read1 (nb : Nat) (w : World) (h : w.heap[nb]? = some (.cells #[.int .i64 2, .int .i64 2, .int .i64 5, .int .i64 6, .int .i64 7] 2)) :
    Calls Tryz.prog 11 #[.slice (some ⟨nb, 0, none⟩) 5 5, .int .i64 0, .int .i64 3] w fun e w' =>
      ∃ g c, e = .returned (.tuple #[.slice (some ⟨g, 0, none⟩) 2 c, .int .i64 0]) ∧ Bal w' w.heap.size g c [7, 5] ∧ Below w.heap.size w w' := by
  refine (Read_any nb 0 5 5 [2, 2, 5, 6, 7] 0 3 w rfl (by decide) (by decide) (by decide) (sees_five h)).mono fun e w' hd => ?_
  have e1 : ringS [2, 2, 5, 6, 7] 0 3 = ([7, 5], 0) := by kernel_rfl
  rw [e1] at hd
  obtain ⟨v, rfl, hv, hB⟩ := hd
  obtain ⟨g, c, rfl, hg⟩ := own_some hv rfl (by decide)
  exact ⟨g, c, rfl, hg, hB⟩
theorem awake_read2 (nb : Nat) (w : World) (h : w.heap[nb]? = some (.cells #[.int .i64 3, .int .i64 0, .int .i64 0, .int .i64 0, .int .i64 0] 2)) :
    Calls Tryz.prog 11 #[.slice (some ⟨nb, 0, none⟩) 5 5, .int .i64 0, .int .i64 3] w fun e w' =>
      ∃ v, e = .returned (.tuple #[v, .int .i64 201]) ∧ Below w.heap.size w w' := by
  refine (Read_any nb 0 5 5 [3, 0, 0, 0, 0] 0 3 w rfl (by decide) (by decide) (by decide) (sees_five h)).mono fun e w' hd => ?_
  have e1 : ringS [3, 0, 0, 0, 0] 0 3 = ([], 201) := by kernel_rfl
  rw [e1] at hd
  obtain ⟨v, rfl, hv, hB⟩ := hd
  exact ⟨v, rfl, hB⟩
theorem awake_code (w : World) (he : Env w) : Calls Tryz.prog 23 #[.int .i64 0, .int .i64 3, .agg #[.int .i64 5, .int .i64 0, .int .i64 0, .int .i64 0, .int .i64 0]] w fun e w' =>
      ∃ a cap, e = .returned (.tuple #[.slice a 5 cap, .int .i64 0]) ∧ Below w.heap.size w w' := by
  refine (Code5_any 0 3 w he (by decide) (by decide) (by decide) (by decide)).mono fun e w' hd => ?_
  obtain ⟨v, rfl, ho, hB⟩ := hd
  obtain ⟨g, cap, rfl⟩ := Joins.ownsRow_form ho (by decide)
  exact ⟨_, cap, rfl, hB⟩
set_option maxHeartbeats 2000000 in
theorem awake_any (w : World) (he : Env w) : Calls Tryz.prog 9 #[] w fun e w' => e = .returned (.bool true) ∧ Below w.heap.size w w' := by
  have HE := Lib.hid (fun W (hb : Below w.heap.size w W) => he.below hb)
  clear he
  go_enter Tryz.func9, Tryz.ntmps9
  go_wp2_with fail
  refine (awake_do1 _ _ (heap_new _ _ _ rfl)).mono ?_
  rintro e w1 ⟨g1, k1, h1, j1, rfl, hg1, hh1, hb1⟩
  have hB1 : Below w.heap.size w w1 := ((Below.refl _ _).alloc (Nat.le_refl _) _).trans (hb1.mono (by simp))
  go_wp2_with fail
  refine (awake_do2 _ _ (heap_new _ _ _ rfl)).mono ?_
  rintro e w2 ⟨g2, k2, h2, j2, rfl, hh2, hb2⟩
  have hW2 : Below w1.heap.size w1 w2 := ((Below.refl _ _).alloc (Nat.le_refl _) _).trans (hb2.mono (by simp))
  have hB2 := hB1.trans (hW2.mono hB1.size)
  have hg1 := hg1.below hW2
  have hh1 := hh1.below hW2
  clear hb1 hb2 hW2
  go_wp2_with fail
  refine (awake_read1 _ _ (heap_new _ _ _ rfl)).mono ?_
  rintro e w3 ⟨g3, k3, rfl, hg3, hb3⟩
  have hW3 : Below w2.heap.size w2 w3 := ((Below.refl _ _).alloc (Nat.le_refl _) _).trans (hb3.mono (by simp))
  have hB3 := hB2.trans (hW3.mono hB2.size)
  have hg1 := hg1.below hW3
  have hh1 := hh1.below hW3
  have hh2 := hh2.below hW3
  clear hb3 hW3
  go_wp2_with fail
  refine (awake_read2 _ _ (heap_new _ _ _ rfl)).mono ?_
  rintro e w4 ⟨v4, rfl, hb4⟩
  have hW4 : Below w3.heap.size w3 w4 := ((Below.refl _ _).alloc (Nat.le_refl _) _).trans (hb4.mono (by simp))
  have hB4 := hB3.trans (hW4.mono hB3.size)
  have hg1 := hg1.below hW4
  have hh1 := hh1.below hW4
  have hh2 := hh2.below hW4
  have hg3 := hg3.below hW4
  clear hb4 hW4
  go_wp2_with fail
  refine (awake_code _ (HE.out _ hB4)).mono ?_
  rintro e w5 ⟨a, cp, rfl, hb5⟩
  have hB5 := hB4.trans (hb5.mono hB4.size)
  have hg1 := hg1.below hb5
  have hh1 := hh1.below hb5
  have hh2 := hh2.below hb5
  have hg3 := hg3.below hb5
  have a0 := hg1.cell 0 rfl
  have a1 := hg1.cell 1 rfl
  have b0 := hh1.cell 0 rfl
  have c0 := hh2.cell 0 rfl
  have c1 := hh2.cell 1 rfl
  have d0 := hg3.cell 0 rfl
  have d1 := hg3.cell 1 rfl
  clear hb5 hB1 hB2 hB3 hB4 hg1 hh1 hh2 hg3
  go_wp2
  go_ret
  exact ⟨rfl, hB5⟩
end Go.Proofs.YtocgmonfmpkkkaaGreatDoor
