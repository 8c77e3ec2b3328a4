/-
  The programs of a set's deeds: their texts and numbers. No condition.
-/
import Derived.Test.YtkioddgolmaaeaaGreatDoorSetProg
import Derived.Test.YtkioddgolmaaeaaGreatDoorSetAwake
namespace Go.Proofs.YtkioddgolmaaeaaGreatDoor
open Go.RowKit
set_option maxRecDepth 100000

theorem own_quad (w : World) (A C : Obj) (l : List Int) (hl : l.length = 4) : Own (((w.alloc A).alloc (.cells (l.map (Value.int .i64)).toArray 2)).alloc C) w.heap.size (.slice (some ⟨w.heap.size + 1, 0, none⟩) 4 4) l := by
  have h : ((w.alloc A).alloc (.cells (l.map (Value.int .i64)).toArray 2)).heap[w.heap.size + 1]? = some (.cells (l.map (Value.int .i64)).toArray 2) := heap_new _ _ _ (by simp)
  have := Bal.of_block (B := w.heap.size) (zs := l) (cap := 4) (w := ((w.alloc A).alloc (.cells (l.map (Value.int .i64)).toArray 2)).alloc C) (g := w.heap.size + 1) (by omega) ((Below.heap_alloc _ _ _ (lt_of_block h)).trans h) (by simp [hl]) (by omega) (by decide) (by rw [List.take_of_length_le (by simp)]; simp [i64s])
  have h2 := this.own
  rw [hl] at h2
  exact h2
theorem size3 (w : World) (A B C : Obj) : w.heap.size ≤ (((w.alloc A).alloc B).alloc C).heap.size := by simp; omega
theorem sees_arr {w : World} {g : Nat} {l : List Int} {t : TypeId} (h : w.heap[g]? = some (.cells (l.map (Value.int .i64)).toArray t)) : Sees w (some ⟨g, 0, none⟩) l := Sees.cells fun j hj => by
  rw [Nat.zero_add, cell_of_row _ _ j _ _ _ h]
  simp [List.getD_eq_getElem?_getD, List.getElem?_eq_getElem hj]

def progT1 : List UInt8 := [98, 101, 103, 105, 110, 10, 112, 117, 115, 104, 32, 35, 10, 115, 101, 116, 32, 48, 10, 110, 101, 120, 116, 58, 10, 103, 101, 116, 32, 48, 10, 108, 111, 97, 100, 10, 115, 101, 116, 32, 49, 10, 103, 101, 116, 32, 49, 10, 122, 101, 114, 111, 32, 110, 111, 110, 101, 10, 103, 101, 116, 32, 49, 10, 112, 117, 115, 104, 32, 50, 10, 109, 117, 108, 10, 112, 117, 115, 104, 32, 35, 10, 97, 100, 100, 10, 115, 101, 116, 32, 50, 10, 103, 101, 116, 32, 50, 10, 108, 111, 97, 100, 10, 115, 101, 116, 32, 51, 10, 103, 101, 116, 32, 51, 10, 112, 117, 115, 104, 32, 35, 10, 108, 101, 115, 115, 10, 122, 101, 114, 111, 32, 115, 116, 111, 112, 10, 103, 101, 116, 32, 50, 10, 112, 117, 115, 104, 32, 49, 10, 97, 100, 100, 10, 115, 101, 116, 32, 48, 10, 106, 117, 109, 112, 32, 110, 101, 120, 116, 10, 115, 116, 111, 112, 58, 10, 103, 101, 116, 32, 51, 10, 112, 117, 115, 104, 32, 35, 10, 115, 97, 109, 101, 10, 122, 101, 114, 111, 32, 110, 111, 110, 101, 10, 112, 117, 115, 104, 32, 48, 10, 116, 101, 108, 108, 10, 106, 117, 109, 112, 32, 111, 117, 116, 10, 110, 111, 110, 101, 58, 10, 112, 117, 115, 104, 32, 35, 10, 108, 111, 97, 100, 10, 115, 101, 116, 32, 52, 10, 103, 101, 116, 32, 52, 10, 122, 101, 114, 111, 32, 102, 117, 108, 108, 10, 103, 101, 116, 32, 52, 10, 112, 117, 115, 104, 32, 50, 10, 109, 117, 108, 10, 112, 117, 115, 104, 32, 35, 10, 97, 100, 100, 10, 115, 101, 116, 32, 50, 10, 112, 117, 115, 104, 32, 35, 10, 103, 101, 116, 32, 50, 10, 112, 117, 115, 104, 32, 49, 10, 97, 100, 100, 10, 108, 111, 97, 100, 10, 115, 116, 111, 114, 101, 10, 103, 101, 116, 32, 50, 10, 112, 117, 115, 104, 32, 35, 10, 115, 116, 111, 114, 101, 10, 103, 101, 116, 32, 50, 10, 112, 117, 115, 104, 32, 49, 10, 97, 100, 100, 10, 103, 101, 116, 32, 49, 10, 115, 116, 111, 114, 101, 10, 103, 101, 116, 32, 48, 10, 103, 101, 116, 32, 52, 10, 115, 116, 111, 114, 101, 10, 112, 117, 115, 104, 32, 35, 10, 112, 117, 115, 104, 32, 35, 10, 108, 111, 97, 100, 10, 112, 117, 115, 104, 32, 49, 10, 97, 100, 100, 10, 115, 116, 111, 114, 101, 10, 112, 117, 115, 104, 32, 49, 10, 116, 101, 108, 108, 10, 106, 117, 109, 112, 32, 111, 117, 116, 10, 102, 117, 108, 108, 58, 10, 112, 117, 115, 104, 32, 50, 10, 116, 101, 108, 108, 10, 111, 117, 116, 58, 10, 99, 111, 109, 109, 105, 116]
def progN1 (base x : Int) : List Int := [base, base + 1, x, x, base + 1, base + 1, base + 1, x, base + 2, base + 2]
set_option maxHeartbeats 2000000 in
theorem program1_any (base x : Int) (w : World) (h1 : 0 ≤ base) (h2 : base ≤ 256) :
    Calls Tryz.prog 34 #[.int .i64 base, .agg #[.int .i64 1, .int .i64 0, .int .i64 0, .int .i64 x, .int .i64 0]] w fun e w' => ∃ g c, e = .returned (.tuple #[.string (S progT1), .slice (some ⟨g, 0, none⟩) 10 c]) ∧ Bal w' w.heap.size g c (progN1 base x) ∧ Below w.heap.size w w' := by
  go_enter Tryz.func34, Tryz.ntmps34
  go_wp2_with (at_builtin; go_must (refine wpList_append64 (B := w.heap.size) (v := .slice (some ⟨w.heap.size + 1, 0, none⟩) 4 4) (xs := [base, base + 1, x, x]) (by exact own_quad _ _ _ [base, base + 1, x, x] rfl) (by exact size3 _ _ _ _) (some ⟨w.heap.size + 1 + 1, 0, none⟩) 6 6 ((progN1 base x).drop 4) rfl (by exact sees_arr (heap_new _ _ _ (by simp))) (fun h => by cases h) (by show (4 + _) * 8 ≤ _; simp [progN1]) rfl _ _ rfl rfl rfl ?_; intro v1 w1 ho1 hg1))
  go_ret2
  obtain ⟨g, c, rfl, hb⟩ := own_some ho1 (show _ = 10 from rfl) (by decide)
  exact ⟨g, c, rfl, hb, ((((Below.refl _ _).alloc (Nat.le_refl _) _).alloc (by simp) _).alloc (by simp; omega) _).grown hg1 (size3 _ _ _ _) (fun k e => by cases e; show w.heap.size ≤ w.heap.size + 1; omega)⟩
def progT2 : List UInt8 := [98, 101, 103, 105, 110, 10, 112, 117, 115, 104, 32, 35, 10, 115, 101, 116, 32, 48, 10, 110, 101, 120, 116, 58, 10, 103, 101, 116, 32, 48, 10, 108, 111, 97, 100, 10, 115, 101, 116, 32, 49, 10, 103, 101, 116, 32, 49, 10, 122, 101, 114, 111, 32, 110, 111, 110, 101, 10, 103, 101, 116, 32, 49, 10, 112, 117, 115, 104, 32, 50, 10, 109, 117, 108, 10, 112, 117, 115, 104, 32, 35, 10, 97, 100, 100, 10, 115, 101, 116, 32, 50, 10, 103, 101, 116, 32, 50, 10, 108, 111, 97, 100, 10, 115, 101, 116, 32, 51, 10, 103, 101, 116, 32, 51, 10, 112, 117, 115, 104, 32, 35, 10, 108, 101, 115, 115, 10, 122, 101, 114, 111, 32, 115, 116, 111, 112, 10, 103, 101, 116, 32, 50, 10, 112, 117, 115, 104, 32, 49, 10, 97, 100, 100, 10, 115, 101, 116, 32, 48, 10, 106, 117, 109, 112, 32, 110, 101, 120, 116, 10, 115, 116, 111, 112, 58, 10, 103, 101, 116, 32, 51, 10, 112, 117, 115, 104, 32, 35, 10, 115, 97, 109, 101, 10, 122, 101, 114, 111, 32, 110, 111, 110, 101, 10, 103, 101, 116, 32, 48, 10, 103, 101, 116, 32, 50, 10, 112, 117, 115, 104, 32, 49, 10, 97, 100, 100, 10, 108, 111, 97, 100, 10, 115, 116, 111, 114, 101, 10, 103, 101, 116, 32, 50, 10, 112, 117, 115, 104, 32, 49, 10, 97, 100, 100, 10, 112, 117, 115, 104, 32, 35, 10, 108, 111, 97, 100, 10, 115, 116, 111, 114, 101, 10, 112, 117, 115, 104, 32, 35, 10, 103, 101, 116, 32, 49, 10, 115, 116, 111, 114, 101, 10, 112, 117, 115, 104, 32, 35, 10, 112, 117, 115, 104, 32, 35, 10, 108, 111, 97, 100, 10, 112, 117, 115, 104, 32, 49, 10, 115, 117, 98, 10, 115, 116, 111, 114, 101, 10, 112, 117, 115, 104, 32, 49, 10, 116, 101, 108, 108, 10, 106, 117, 109, 112, 32, 111, 117, 116, 10, 110, 111, 110, 101, 58, 10, 112, 117, 115, 104, 32, 48, 10, 116, 101, 108, 108, 10, 111, 117, 116, 58, 10, 99, 111, 109, 109, 105, 116]
def progN2 (base x : Int) : List Int := [base, base + 1, x, x, base + 1, base + 1, base + 2, base + 2]
set_option maxHeartbeats 2000000 in
theorem program2_any (base x : Int) (w : World) (h1 : 0 ≤ base) (h2 : base ≤ 256) :
    Calls Tryz.prog 34 #[.int .i64 base, .agg #[.int .i64 2, .int .i64 0, .int .i64 0, .int .i64 x, .int .i64 0]] w fun e w' => ∃ g c, e = .returned (.tuple #[.string (S progT2), .slice (some ⟨g, 0, none⟩) 8 c]) ∧ Bal w' w.heap.size g c (progN2 base x) ∧ Below w.heap.size w w' := by
  go_enter Tryz.func34, Tryz.ntmps34
  go_wp2_with (at_builtin; go_must (refine wpList_append64 (B := w.heap.size) (v := .slice (some ⟨w.heap.size + 1, 0, none⟩) 4 4) (xs := [base, base + 1, x, x]) (by exact own_quad _ _ _ [base, base + 1, x, x] rfl) (by exact size3 _ _ _ _) (some ⟨w.heap.size + 1 + 1, 0, none⟩) 4 4 ((progN2 base x).drop 4) rfl (by exact sees_arr (heap_new _ _ _ (by simp))) (fun h => by cases h) (by show (4 + _) * 8 ≤ _; simp [progN2]) rfl _ _ rfl rfl rfl ?_; intro v1 w1 ho1 hg1))
  go_ret2
  obtain ⟨g, c, rfl, hb⟩ := own_some ho1 (show _ = 8 from rfl) (by decide)
  exact ⟨g, c, rfl, hb, ((((Below.refl _ _).alloc (Nat.le_refl _) _).alloc (by simp) _).alloc (by simp; omega) _).grown hg1 (size3 _ _ _ _) (fun k e => by cases e; show w.heap.size ≤ w.heap.size + 1; omega)⟩
def progT3 : List UInt8 := [98, 101, 103, 105, 110, 10, 112, 117, 115, 104, 32, 35, 10, 115, 101, 116, 32, 48, 10, 110, 101, 120, 116, 58, 10, 103, 101, 116, 32, 48, 10, 108, 111, 97, 100, 10, 115, 101, 116, 32, 49, 10, 103, 101, 116, 32, 49, 10, 122, 101, 114, 111, 32, 110, 111, 110, 101, 10, 103, 101, 116, 32, 49, 10, 112, 117, 115, 104, 32, 50, 10, 109, 117, 108, 10, 112, 117, 115, 104, 32, 35, 10, 97, 100, 100, 10, 115, 101, 116, 32, 50, 10, 103, 101, 116, 32, 50, 10, 108, 111, 97, 100, 10, 115, 101, 116, 32, 51, 10, 103, 101, 116, 32, 51, 10, 112, 117, 115, 104, 32, 35, 10, 108, 101, 115, 115, 10, 122, 101, 114, 111, 32, 115, 116, 111, 112, 10, 103, 101, 116, 32, 50, 10, 112, 117, 115, 104, 32, 49, 10, 97, 100, 100, 10, 115, 101, 116, 32, 48, 10, 106, 117, 109, 112, 32, 110, 101, 120, 116, 10, 110, 111, 110, 101, 58, 10, 112, 117, 115, 104, 32, 48, 10, 116, 101, 108, 108, 10, 106, 117, 109, 112, 32, 111, 117, 116, 10, 115, 116, 111, 112, 58, 10, 103, 101, 116, 32, 51, 10, 112, 117, 115, 104, 32, 35, 10, 115, 97, 109, 101, 10, 116, 101, 108, 108, 10, 111, 117, 116, 58, 10, 99, 111, 109, 109, 105, 116]
def progN3 (base x : Int) : List Int := [base, base + 1, x, x]
set_option maxHeartbeats 2000000 in
theorem program3_any (base x : Int) (w : World) (h1 : 0 ≤ base) (h2 : base ≤ 256) :
    Calls Tryz.prog 34 #[.int .i64 base, .agg #[.int .i64 3, .int .i64 0, .int .i64 0, .int .i64 x, .int .i64 0]] w fun e w' => ∃ g c, e = .returned (.tuple #[.string (S progT3), .slice (some ⟨g, 0, none⟩) 4 c]) ∧ Bal w' w.heap.size g c (progN3 base x) ∧ Below w.heap.size w w' := by
  go_enter Tryz.func34, Tryz.ntmps34
  go_wp2
  go_ret2
  exact ⟨_, _, rfl, Bal.of_block (zs := progN3 base x) (by omega) (heap_new _ _ _ (by simp)) rfl (Nat.le_refl _) (by decide) rfl, ((Below.refl _ _).alloc (Nat.le_refl _) _).alloc (by simp) _⟩
def progT4 : List UInt8 := [98, 101, 103, 105, 110, 10, 112, 117, 115, 104, 32, 35, 10, 108, 111, 97, 100, 10, 115, 101, 116, 32, 48, 10, 103, 101, 116, 32, 48, 10, 122, 101, 114, 111, 32, 110, 111, 110, 101, 10, 112, 117, 115, 104, 32, 49, 10, 116, 101, 108, 108, 10, 103, 101, 116, 32, 48, 10, 112, 117, 115, 104, 32, 50, 10, 109, 117, 108, 10, 112, 117, 115, 104, 32, 35, 10, 97, 100, 100, 10, 108, 111, 97, 100, 10, 116, 101, 108, 108, 10, 106, 117, 109, 112, 32, 111, 117, 116, 10, 110, 111, 110, 101, 58, 10, 112, 117, 115, 104, 32, 48, 10, 116, 101, 108, 108, 10, 111, 117, 116, 58, 10, 99, 111, 109, 109, 105, 116]
def progN4 (base _x : Int) : List Int := [base, base + 1]
set_option maxHeartbeats 2000000 in
theorem program4_any (base x : Int) (w : World) (h1 : 0 ≤ base) (h2 : base ≤ 256) :
    Calls Tryz.prog 34 #[.int .i64 base, .agg #[.int .i64 4, .int .i64 0, .int .i64 0, .int .i64 x, .int .i64 0]] w fun e w' => ∃ g c, e = .returned (.tuple #[.string (S progT4), .slice (some ⟨g, 0, none⟩) 2 c]) ∧ Bal w' w.heap.size g c (progN4 base x) ∧ Below w.heap.size w w' := by
  go_enter Tryz.func34, Tryz.ntmps34
  go_wp2
  go_ret2
  exact ⟨_, _, rfl, Bal.of_block (zs := progN4 base x) (by omega) (heap_new _ _ _ (by simp)) rfl (Nat.le_refl _) (by decide) rfl, (((Below.refl _ _).alloc (Nat.le_refl _) _).alloc (by simp) _).alloc (by simp; omega) _⟩
end Go.Proofs.YtkioddgolmaaeaaGreatDoor
