/-
  The programs of a deque's deeds that change it: their texts and numbers. No condition.
-/
import Derived.Test.YtocgmonfmpkkkaaGreatDoorDequeProg
import Derived.Test.YtocgmonfmpkkkaaGreatDoorDequeAwake
namespace Go.Proofs.YtocgmonfmpkkkaaGreatDoor
open Go.RowKit
set_option maxRecDepth 100000

theorem own_pair (w : World) (A C : Obj) (y z : Int) : Own (((w.alloc A).alloc (.cells #[.int .i64 y, .int .i64 z] 2)).alloc C) w.heap.size (.slice (some ⟨w.heap.size + 1, 0, none⟩) 2 2) [y, z] := by
  have h : ((w.alloc A).alloc (.cells #[.int .i64 y, .int .i64 z] 2)).heap[w.heap.size + 1]? = some (.cells #[.int .i64 y, .int .i64 z] 2) := heap_new _ _ _ (by simp)
  exact ⟨rfl, .inr ⟨w.heap.size + 1, 2, _, rfl, by omega, (Below.heap_alloc _ _ _ (lt_of_block h)).trans h, Nat.le_refl _, by unfold maxLen; omega, rfl, rfl⟩⟩
theorem size3 (w : World) (A B C : Obj) : w.heap.size ≤ (((w.alloc A).alloc B).alloc C).heap.size := by simp; omega
theorem sees_arr {w : World} {g : Nat} {l : List Int} {t : TypeId} (h : w.heap[g]? = some (.cells (l.map (Value.int .i64)).toArray t)) : Sees w (some ⟨g, 0, none⟩) l := Sees.cells fun j hj => by
  rw [Nat.zero_add, cell_of_row _ _ j _ _ _ h]
  simp [List.getD_eq_getElem?_getD, List.getElem?_eq_getElem hj]

def progT1 : List UInt8 := [98, 101, 103, 105, 110, 10, 112, 117, 115, 104, 32, 35, 10, 108, 111, 97, 100, 10, 115, 101, 116, 32, 48, 10, 112, 117, 115, 104, 32, 35, 10, 108, 111, 97, 100, 10, 115, 101, 116, 32, 49, 10, 103, 101, 116, 32, 49, 10, 112, 117, 115, 104, 32, 35, 10, 108, 101, 115, 115, 10, 122, 101, 114, 111, 32, 110, 111, 110, 101, 10, 103, 101, 116, 32, 48, 10, 103, 101, 116, 32, 49, 10, 97, 100, 100, 10, 112, 117, 115, 104, 32, 35, 10, 109, 111, 100, 10, 112, 117, 115, 104, 32, 35, 10, 97, 100, 100, 10, 112, 117, 115, 104, 32, 35, 10, 115, 116, 111, 114, 101, 10, 112, 117, 115, 104, 32, 35, 10, 103, 101, 116, 32, 49, 10, 112, 117, 115, 104, 32, 49, 10, 97, 100, 100, 10, 115, 116, 111, 114, 101, 10, 112, 117, 115, 104, 32, 49, 10, 116, 101, 108, 108, 10, 106, 117, 109, 112, 32, 111, 117, 116, 10, 110, 111, 110, 101, 58, 10, 112, 117, 115, 104, 32, 48, 10, 116, 101, 108, 108, 10, 111, 117, 116, 58, 10, 99, 111, 109, 109, 105, 116]
def progN1 (base n x : Int) : List Int := [base, base + 1, n, n, base + 2, x, base + 1]
set_option maxHeartbeats 2000000 in
theorem program1_any (base n x : Int) (w : World) (h1 : 0 ≤ base) (h2 : base ≤ 256) :
    Calls Tryz.prog 31 #[.int .i64 base, .int .i64 n, .agg #[.int .i64 1, .int .i64 0, .int .i64 0, .int .i64 x, .int .i64 0]] w fun e w' => ∃ g c, e = .returned (.tuple #[.string (S progT1), .slice (some ⟨g, 0, none⟩) 7 c]) ∧ Bal w' w.heap.size g c (progN1 base n x) ∧ Below w.heap.size w w' := by
  go_enter Tryz.func31, Tryz.ntmps31
  go_wp2_with (at_builtin; go_must (refine wpList_append64 (B := w.heap.size) (v := .slice (some ⟨w.heap.size + 1, 0, none⟩) 2 2) (xs := [base, base + 1]) (by exact own_pair _ _ _ _ _) (by exact size3 _ _ _ _) (some ⟨w.heap.size + 1 + 1, 0, none⟩) 5 5 (progN1 base n x).tail.tail rfl (by exact sees_arr (heap_new _ _ _ (by simp))) (fun h => by cases h) (by show (2 + _) * 8 ≤ _; simp [progN1]) rfl _ _ rfl rfl rfl ?_; intro v1 w1 ho1 hg1))
  go_ret2
  obtain ⟨g, c, rfl, hb⟩ := own_some ho1 (show _ = 7 from rfl) (by decide)
  exact ⟨g, c, rfl, hb, ((((Below.refl _ _).alloc (Nat.le_refl _) _).alloc (by simp) _).alloc (by simp; omega) _).grown hg1 (size3 _ _ _ _) (fun k e => by cases e; show w.heap.size ≤ w.heap.size + 1; omega)⟩
def progT2 : List UInt8 := [98, 101, 103, 105, 110, 10, 112, 117, 115, 104, 32, 35, 10, 108, 111, 97, 100, 10, 115, 101, 116, 32, 48, 10, 112, 117, 115, 104, 32, 35, 10, 108, 111, 97, 100, 10, 115, 101, 116, 32, 49, 10, 103, 101, 116, 32, 49, 10, 112, 117, 115, 104, 32, 35, 10, 108, 101, 115, 115, 10, 122, 101, 114, 111, 32, 110, 111, 110, 101, 10, 103, 101, 116, 32, 48, 10, 112, 117, 115, 104, 32, 49, 10, 115, 117, 98, 10, 112, 117, 115, 104, 32, 35, 10, 109, 111, 100, 10, 115, 101, 116, 32, 48, 10, 112, 117, 115, 104, 32, 35, 10, 103, 101, 116, 32, 48, 10, 115, 116, 111, 114, 101, 10, 103, 101, 116, 32, 48, 10, 112, 117, 115, 104, 32, 35, 10, 97, 100, 100, 10, 112, 117, 115, 104, 32, 35, 10, 115, 116, 111, 114, 101, 10, 112, 117, 115, 104, 32, 35, 10, 103, 101, 116, 32, 49, 10, 112, 117, 115, 104, 32, 49, 10, 97, 100, 100, 10, 115, 116, 111, 114, 101, 10, 112, 117, 115, 104, 32, 49, 10, 116, 101, 108, 108, 10, 106, 117, 109, 112, 32, 111, 117, 116, 10, 110, 111, 110, 101, 58, 10, 112, 117, 115, 104, 32, 48, 10, 116, 101, 108, 108, 10, 111, 117, 116, 58, 10, 99, 111, 109, 109, 105, 116]
def progN2 (base n x : Int) : List Int := [base, base + 1, n, n, base, base + 2, x, base + 1]
set_option maxHeartbeats 2000000 in
theorem program2_any (base n x : Int) (w : World) (h1 : 0 ≤ base) (h2 : base ≤ 256) :
    Calls Tryz.prog 31 #[.int .i64 base, .int .i64 n, .agg #[.int .i64 2, .int .i64 0, .int .i64 0, .int .i64 x, .int .i64 0]] w fun e w' => ∃ g c, e = .returned (.tuple #[.string (S progT2), .slice (some ⟨g, 0, none⟩) 8 c]) ∧ Bal w' w.heap.size g c (progN2 base n x) ∧ Below w.heap.size w w' := by
  go_enter Tryz.func31, Tryz.ntmps31
  go_wp2_with (at_builtin; go_must (refine wpList_append64 (B := w.heap.size) (v := .slice (some ⟨w.heap.size + 1, 0, none⟩) 2 2) (xs := [base, base + 1]) (by exact own_pair _ _ _ _ _) (by exact size3 _ _ _ _) (some ⟨w.heap.size + 1 + 1, 0, none⟩) 6 6 (progN2 base n x).tail.tail rfl (by exact sees_arr (heap_new _ _ _ (by simp))) (fun h => by cases h) (by show (2 + _) * 8 ≤ _; simp [progN2]) rfl _ _ rfl rfl rfl ?_; intro v1 w1 ho1 hg1))
  go_ret2
  obtain ⟨g, c, rfl, hb⟩ := own_some ho1 (show _ = 8 from rfl) (by decide)
  exact ⟨g, c, rfl, hb, ((((Below.refl _ _).alloc (Nat.le_refl _) _).alloc (by simp) _).alloc (by simp; omega) _).grown hg1 (size3 _ _ _ _) (fun k e => by cases e; show w.heap.size ≤ w.heap.size + 1; omega)⟩
def progT3 : List UInt8 := [98, 101, 103, 105, 110, 10, 112, 117, 115, 104, 32, 35, 10, 108, 111, 97, 100, 10, 115, 101, 116, 32, 48, 10, 112, 117, 115, 104, 32, 35, 10, 108, 111, 97, 100, 10, 115, 101, 116, 32, 49, 10, 103, 101, 116, 32, 49, 10, 122, 101, 114, 111, 32, 110, 111, 110, 101, 10, 103, 101, 116, 32, 49, 10, 112, 117, 115, 104, 32, 49, 10, 115, 117, 98, 10, 115, 101, 116, 32, 49, 10, 112, 117, 115, 104, 32, 35, 10, 103, 101, 116, 32, 49, 10, 115, 116, 111, 114, 101, 10, 112, 117, 115, 104, 32, 49, 10, 116, 101, 108, 108, 10, 103, 101, 116, 32, 48, 10, 103, 101, 116, 32, 49, 10, 97, 100, 100, 10, 112, 117, 115, 104, 32, 35, 10, 109, 111, 100, 10, 112, 117, 115, 104, 32, 35, 10, 97, 100, 100, 10, 108, 111, 97, 100, 10, 116, 101, 108, 108, 10, 106, 117, 109, 112, 32, 111, 117, 116, 10, 110, 111, 110, 101, 58, 10, 112, 117, 115, 104, 32, 48, 10, 116, 101, 108, 108, 10, 111, 117, 116, 58, 10, 99, 111, 109, 109, 105, 116]
def progN3 (base n _x : Int) : List Int := [base, base + 1, base + 1, n, base + 2]
set_option maxHeartbeats 2000000 in
theorem program3_any (base n x : Int) (w : World) (h1 : 0 ≤ base) (h2 : base ≤ 256) :
    Calls Tryz.prog 31 #[.int .i64 base, .int .i64 n, .agg #[.int .i64 3, .int .i64 0, .int .i64 0, .int .i64 x, .int .i64 0]] w fun e w' => ∃ g c, e = .returned (.tuple #[.string (S progT3), .slice (some ⟨g, 0, none⟩) 5 c]) ∧ Bal w' w.heap.size g c (progN3 base n x) ∧ Below w.heap.size w w' := by
  go_enter Tryz.func31, Tryz.ntmps31
  go_wp2_with (at_builtin; go_must (refine wpList_append64 (B := w.heap.size) (v := .slice (some ⟨w.heap.size + 1, 0, none⟩) 2 2) (xs := [base, base + 1]) (by exact own_pair _ _ _ _ _) (by exact size3 _ _ _ _) (some ⟨w.heap.size + 1 + 1, 0, none⟩) 3 3 (progN3 base n x).tail.tail rfl (by exact sees_arr (heap_new _ _ _ (by simp))) (fun h => by cases h) (by show (2 + _) * 8 ≤ _; simp [progN3]) rfl _ _ rfl rfl rfl ?_; intro v1 w1 ho1 hg1))
  go_ret2
  obtain ⟨g, c, rfl, hb⟩ := own_some ho1 (show _ = 5 from rfl) (by decide)
  exact ⟨g, c, rfl, hb, ((((Below.refl _ _).alloc (Nat.le_refl _) _).alloc (by simp) _).alloc (by simp; omega) _).grown hg1 (size3 _ _ _ _) (fun k e => by cases e; show w.heap.size ≤ w.heap.size + 1; omega)⟩
def progT4 : List UInt8 := [98, 101, 103, 105, 110, 10, 112, 117, 115, 104, 32, 35, 10, 108, 111, 97, 100, 10, 115, 101, 116, 32, 48, 10, 112, 117, 115, 104, 32, 35, 10, 108, 111, 97, 100, 10, 115, 101, 116, 32, 49, 10, 103, 101, 116, 32, 49, 10, 122, 101, 114, 111, 32, 110, 111, 110, 101, 10, 112, 117, 115, 104, 32, 35, 10, 103, 101, 116, 32, 49, 10, 112, 117, 115, 104, 32, 49, 10, 115, 117, 98, 10, 115, 116, 111, 114, 101, 10, 112, 117, 115, 104, 32, 49, 10, 116, 101, 108, 108, 10, 103, 101, 116, 32, 48, 10, 112, 117, 115, 104, 32, 35, 10, 97, 100, 100, 10, 108, 111, 97, 100, 10, 116, 101, 108, 108, 10, 112, 117, 115, 104, 32, 35, 10, 103, 101, 116, 32, 48, 10, 112, 117, 115, 104, 32, 49, 10, 97, 100, 100, 10, 112, 117, 115, 104, 32, 35, 10, 109, 111, 100, 10, 115, 116, 111, 114, 101, 10, 106, 117, 109, 112, 32, 111, 117, 116, 10, 110, 111, 110, 101, 58, 10, 112, 117, 115, 104, 32, 48, 10, 116, 101, 108, 108, 10, 111, 117, 116, 58, 10, 99, 111, 109, 109, 105, 116]
def progN4 (base n _x : Int) : List Int := [base, base + 1, base + 1, base + 2, base, n]
set_option maxHeartbeats 2000000 in
theorem program4_any (base n x : Int) (w : World) (h1 : 0 ≤ base) (h2 : base ≤ 256) :
    Calls Tryz.prog 31 #[.int .i64 base, .int .i64 n, .agg #[.int .i64 4, .int .i64 0, .int .i64 0, .int .i64 x, .int .i64 0]] w fun e w' => ∃ g c, e = .returned (.tuple #[.string (S progT4), .slice (some ⟨g, 0, none⟩) 6 c]) ∧ Bal w' w.heap.size g c (progN4 base n x) ∧ Below w.heap.size w w' := by
  go_enter Tryz.func31, Tryz.ntmps31
  go_wp2_with (at_builtin; go_must (refine wpList_append64 (B := w.heap.size) (v := .slice (some ⟨w.heap.size + 1, 0, none⟩) 2 2) (xs := [base, base + 1]) (by exact own_pair _ _ _ _ _) (by exact size3 _ _ _ _) (some ⟨w.heap.size + 1 + 1, 0, none⟩) 4 4 (progN4 base n x).tail.tail rfl (by exact sees_arr (heap_new _ _ _ (by simp))) (fun h => by cases h) (by show (2 + _) * 8 ≤ _; simp [progN4]) rfl _ _ rfl rfl rfl ?_; intro v1 w1 ho1 hg1))
  go_ret2
  obtain ⟨g, c, rfl, hb⟩ := own_some ho1 (show _ = 6 from rfl) (by decide)
  exact ⟨g, c, rfl, hb, ((((Below.refl _ _).alloc (Nat.le_refl _) _).alloc (by simp) _).alloc (by simp; omega) _).grown hg1 (size3 _ _ _ _) (fun k e => by cases e; show w.heap.size ≤ w.heap.size + 1; omega)⟩
end Go.Proofs.YtocgmonfmpkkkaaGreatDoor
