/-
  quash/quashlaw19.awake answers true. Condition: the library's variables (Env).
-/
import Derived.Test.YtochpdailleilaaGreatDoorDictProg
import Derived.Test.YtochpdailleilaaGreatDoorDictRead2
namespace Go.Proofs.YtochpdailleilaaGreatDoor
open Go.RowKit
set_option maxRecDepth 100000

theorem below_cellK {w w' : World} {b o : Nat} {v : Value} {B : Nat} (h : Below B w w') (hb : b < B) (hc : w.cell? ⟨b, o, none⟩ = some v) : w'.cell? ⟨b, o, none⟩ = some v := (h.cell (p := ⟨b, o, none⟩) hb).trans hc
theorem flat_some (g n : Nat) : Flat (some ⟨g, 0, none⟩) n n := ⟨fun h => (by cases h), Nat.le_refl _⟩
theorem own_some {w : World} {B : Nat} {v : Value} {zs : List Int} {n : Nat} (h : Own w B v zs) (hl : zs.length = n) (h0 : 0 < n) : ∃ g c, v = .slice (some ⟨g, 0, none⟩) n c ∧ Bal w B g c zs := by
  subst hl
  rcases h.form with ⟨_, rfl⟩ | ⟨g, c, h1, h2⟩
  · simp at h0
  · exact ⟨g, c, h1, h2⟩
theorem ownE_some {w : World} {B : Nat} {v : Value} {zs : List (Int × Int)} {n : Nat} (h : OwnE w B v zs) (hl : zs.length = n) (h0 : 0 < n) : ∃ g c, v = .slice (some ⟨g, 0, none⟩) n c ∧ BalE w B g c zs := by
  subst hl
  rcases h.form with ⟨_, rfl⟩ | ⟨g, c, h1, h2⟩
  · simp at h0
  · exact ⟨g, c, h1, h2⟩
theorem seesP_two {w : World} {g : Nat} {a b c d : Int} {t : TypeId} (h : w.heap[g]? = some (.cells #[.int .i64 a, .int .i64 b, .int .i64 c, .int .i64 d] t)) : SeesP w (some ⟨g, 0, none⟩) [(a, b), (c, d)] := seesP_arr (l := [(a, b), (c, d)]) h
theorem awake_do1 (nb : Nat) (w : World) (h : w.heap[nb]? = some (.cells #[.int .i64 1, .int .i64 8, .int .i64 4, .int .i64 7] 36)) :
    Calls Tryz.prog 18 #[.slice (some ⟨nb, 0, none⟩) 2 2, .int .i64 3, .agg #[.int .i64 1, .int .i64 0, .int .i64 0, .int .i64 2, .int .i64 9]] w fun e w' =>
      ∃ g c h k, e = .returned (.tuple #[.slice (some ⟨g, 0, none⟩) 3 c, .slice (some ⟨h, 0, none⟩) 1 k, .int .i64 0]) ∧ BalE w' w.heap.size g c [(1, 8), (2, 9), (4, 7)] ∧ Bal w' w.heap.size h k [1] ∧ Below w.heap.size w w' := by
  refine (Do_any _ 2 2 [(1, 8), (4, 7)] 3 1 0 0 2 9 w rfl (by decide) (flat_some nb 2) (seesP_two h)).mono fun e w' hd => ?_
  have e1 : doE [(1, 8), (4, 7)] 3 1 0 0 2 9 = ([(1, 8), (2, 9), (4, 7)], [1], true) := by decide +kernel
  rw [e1] at hd
  obtain ⟨v, t, rfl, hv, ht, _, hB⟩ := hd
  obtain ⟨g, c, rfl, hg⟩ := ownE_some hv rfl (by decide)
  obtain ⟨h, k, rfl, hh⟩ := own_some ht rfl (by decide)
  exact ⟨g, c, h, k, rfl, hg, hh, hB⟩
theorem awake_do2 (nb : Nat) (w : World) (h : w.heap[nb]? = some (.cells #[.int .i64 1, .int .i64 8, .int .i64 4, .int .i64 7] 36)) :
    Calls Tryz.prog 18 #[.slice (some ⟨nb, 0, none⟩) 2 2, .int .i64 3, .agg #[.int .i64 4, .int .i64 0, .int .i64 0, .int .i64 1, .int .i64 (-3)]] w fun e w' =>
      ∃ v h k, e = .returned (.tuple #[v, .slice (some ⟨h, 0, none⟩) 2 k, .int .i64 0]) ∧ Bal w' w.heap.size h k [1, 5] ∧ Below w.heap.size w w' := by
  refine (Do_any _ 2 2 [(1, 8), (4, 7)] 3 4 0 0 1 (-3) w rfl (by decide) (flat_some nb 2) (seesP_two h)).mono fun e w' hd => ?_
  have e1 : doE [(1, 8), (4, 7)] 3 4 0 0 1 (-3) = ([(1, 5), (4, 7)], [1, 5], true) := by decide +kernel
  rw [e1] at hd
  obtain ⟨v, t, rfl, hv, ht, _, hB⟩ := hd
  obtain ⟨h, k, rfl, hh⟩ := own_some ht rfl (by decide)
  exact ⟨v, h, k, rfl, hh, hB⟩
theorem sees_list {w : World} {g : Nat} {l : List Int} {t : TypeId} (h : w.heap[g]? = some (.cells (l.map (Value.int .i64)).toArray t)) : Sees w (some ⟨g, 0, none⟩) l := Sees.cells fun j hj => by
  rw [Nat.zero_add, cell_of_row _ _ j _ _ _ h]
  simp [List.getD_eq_getElem?_getD, List.getElem?_eq_getElem hj]
theorem awake_read1 (nb : Nat) (w : World) (h : w.heap[nb]? = some (.cells #[.int .i64 2, .int .i64 0, .int .i64 0, .int .i64 0, .int .i64 1, .int .i64 4, .int .i64 7, .int .i64 1, .int .i64 1, .int .i64 8] 2)) :
    Calls Tryz.prog 11 #[.slice (some ⟨nb, 0, none⟩) 10 10, .int .i64 0, .int .i64 3] w fun e w' =>
      ∃ g c, e = .returned (.tuple #[.slice (some ⟨g, 0, none⟩) 2 c, .int .i64 0]) ∧ BalE w' w.heap.size g c [(1, 8), (4, 7)] ∧ Below w.heap.size w w' := by
  refine (Read_any nb 0 10 10 [2, 0, 0, 0, 1, 4, 7, 1, 1, 8] 0 3 w rfl (by decide) (by decide) (by decide) (by decide +kernel) (sees_list h)).mono fun e w' hd => ?_
  have e1 : dictS [2, 0, 0, 0, 1, 4, 7, 1, 1, 8] 0 3 = ([(1, 8), (4, 7)], 0) := by decide +kernel
  rw [e1] at hd
  obtain ⟨v, rfl, hv, hB⟩ := hd
  obtain ⟨g, c, rfl, hg⟩ := ownE_some hv rfl (by decide)
  exact ⟨g, c, rfl, hg, hB⟩
theorem awake_read2 (nb : Nat) (w : World) (h : w.heap[nb]? = some (.cells #[.int .i64 1, .int .i64 0, .int .i64 0, .int .i64 0, .int .i64 0, .int .i64 9, .int .i64 9, .int .i64 1, .int .i64 1, .int .i64 8] 2)) :
    Calls Tryz.prog 11 #[.slice (some ⟨nb, 0, none⟩) 10 10, .int .i64 0, .int .i64 3] w fun e w' =>
      ∃ v, e = .returned (.tuple #[v, .int .i64 191]) ∧ Below w.heap.size w w' := by
  refine (Read_any nb 0 10 10 [1, 0, 0, 0, 0, 9, 9, 1, 1, 8] 0 3 w rfl (by decide) (by decide) (by decide) (by decide +kernel) (sees_list h)).mono fun e w' hd => ?_
  have e1 : dictS [1, 0, 0, 0, 0, 9, 9, 1, 1, 8] 0 3 = ([], 191) := by decide +kernel
  rw [e1] at hd
  obtain ⟨v, rfl, hv, hB⟩ := hd
  exact ⟨v, rfl, hB⟩
theorem awake_code (w : World) (he : Env w) : Calls Tryz.prog 24 #[.int .i64 0, .int .i64 3, .agg #[.int .i64 5, .int .i64 0, .int .i64 0, .int .i64 0, .int .i64 0]] w fun e w' =>
      ∃ a cap, e = .returned (.tuple #[.slice a 5 cap, .int .i64 0]) ∧ Below w.heap.size w w' := by
  refine (Code5_any 0 3 w he (by decide) (by decide) (by decide) (by decide)).mono fun e w' hd => ?_
  obtain ⟨v, rfl, ho, hB⟩ := hd
  obtain ⟨g, cap, rfl⟩ := Joins.ownsRow_form ho (by decide)
  exact ⟨_, cap, rfl, hB⟩
set_option maxHeartbeats 2000000 in
theorem awake_any (w : World) (he : Env w) : Calls Tryz.prog 9 #[] w fun e w' => e = .returned (.bool true) ∧ Below w.heap.size w w' := by
  have HE := Lib.hid (fun W (hb : Below w.heap.size w W) => he.below hb)
  clear he
  go_enter Tryz.func9, Tryz.ntmps9
  go_wp2_with fail
  refine (awake_do1 _ _ (heap_new _ _ _ rfl)).mono ?_
  rintro e w1 ⟨g1, k1, h1, j1, rfl, hg1, hh1, hb1⟩
  have ht1 : w1.heap[w.heap.size]? = some (.cells #[.int .i64 1, .int .i64 8, .int .i64 4, .int .i64 7] 36) := (hb1.block _ (by simp)).trans (heap_new _ _ _ rfl)
  have hB1 : Below w.heap.size w w1 := ((Below.refl _ _).alloc (Nat.le_refl _) _).trans (hb1.mono (by simp))
  go_wp2_with fail
  refine (awake_do2 _ _ ht1).mono ?_
  rintro e w2 ⟨v2, t2, k2, rfl, hh2, hb2⟩
  have ht2 := (hb2.block _ (lt_of_block ht1)).trans ht1
  have hB2 := hB1.trans (hb2.mono hB1.size)
  have hg1 := hg1.below hb2
  have hh1 := hh1.below hb2
  clear hb1 hb2 ht1
  go_wp2_with fail
  refine (awake_read1 _ _ (heap_new _ _ _ rfl)).mono ?_
  rintro e w3 ⟨g3, k3, rfl, hg3, hb3⟩
  have hW3 : Below w2.heap.size w2 w3 := ((Below.refl _ _).alloc (Nat.le_refl _) _).trans (hb3.mono (by simp))
  have hB3 := hB2.trans (hW3.mono hB2.size)
  have ht3 := (hW3.block _ (lt_of_block ht2)).trans ht2
  have hg1 := hg1.below hW3
  have hh1 := hh1.below hW3
  have hh2 := hh2.below hW3
  clear hb3 hW3 ht2
  go_wp2_with fail
  refine (awake_read2 _ _ (heap_new _ _ _ rfl)).mono ?_
  rintro e w4 ⟨v4, rfl, hb4⟩
  have hW4 : Below w3.heap.size w3 w4 := ((Below.refl _ _).alloc (Nat.le_refl _) _).trans (hb4.mono (by simp))
  have hB4 := hB3.trans (hW4.mono hB3.size)
  have ht4 := (hW4.block _ (lt_of_block ht3)).trans ht3
  have hg1 := hg1.below hW4
  have hh1 := hh1.below hW4
  have hh2 := hh2.below hW4
  have hg3 := hg3.below hW4
  clear hb4 hW4 ht3
  go_wp2_with fail
  refine (awake_code _ (HE.out _ hB4)).mono ?_
  rintro e w5 ⟨a, cp, rfl, hb5⟩
  have hB5 := hB4.trans (hb5.mono hB4.size)
  have ht5 := (hb5.block _ (lt_of_block ht4)).trans ht4
  have hg1 := hg1.below hb5
  have hh1 := hh1.below hb5
  have hh2 := hh2.below hb5
  have hg3 := hg3.below hb5
  have a1 := (hg1.cell 1 rfl).1
  have a2 := (hg1.cell 1 rfl).2
  have b0 := hh1.cell 0 rfl
  have c0 := hh2.cell 0 rfl
  have c1 := hh2.cell 1 rfl
  have d0 := (hg3.cell 1 rfl).1
  have d1 := (hg3.cell 1 rfl).2
  have t2 := cell_of_row _ _ 2 _ _ _ ht5
  have t3 := cell_of_row _ _ 3 _ _ _ ht5
  simp only [Nat.one_mul] at a1 a2 d0 d1
  have hB5 := hB5
  clear hb5 hB1 hB2 hB3 hB4 hg1 hh1 hg3 hh2 ht4 ht5
  have HB5 := Lib.hid hB5
  clear hB5
  go_upto_region 9 with (fail)
  go_quiet (fail)
  go_wp2
  go_ret
  exact ⟨rfl, Below.drewK HB5.out _⟩
end Go.Proofs.YtochpdailleilaaGreatDoor
