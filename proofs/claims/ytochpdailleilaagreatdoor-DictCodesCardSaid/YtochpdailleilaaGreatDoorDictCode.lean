/-
  quash/dict.Code: every call. Condition: the library's variables (Env).
  And: The programs of a dict's deeds: their texts and numbers. No condition.
-/
import Derived.Test.YtochpdailleilaaGreatDoorDictProg
import Derived.Test.YtochpdailleilaaGreatDoorDictAwake
namespace Go.Proofs.YtochpdailleilaaGreatDoor
open Go.RowKit
set_option maxRecDepth 100000

theorem sees_arr {w : World} {g : Nat} {l : List Int} {t : TypeId} (h : w.heap[g]? = some (.cells (l.map (Value.int .i64)).toArray t)) : Sees w (some ⟨g, 0, none⟩) l := Sees.cells fun j hj => by
  rw [Nat.zero_add, cell_of_row _ _ j _ _ _ h]
  simp [List.getD_eq_getElem?_getD, List.getElem?_eq_getElem hj]
def progT1 : List UInt8 := [98, 101, 103, 105, 110, 10, 112, 117, 115, 104, 32, 35, 10, 115, 101, 116, 32, 48, 10, 112, 117, 115, 104, 32, 48, 10, 115, 101, 116, 32, 49, 10, 112, 117, 115, 104, 32, 45, 49, 10, 115, 101, 116, 32, 50, 10, 110, 101, 120, 116, 58, 10, 103, 101, 116, 32, 49, 10, 112, 117, 115, 104, 32, 35, 10, 108, 101, 115, 115, 10, 122, 101, 114, 111, 32, 110, 111, 110, 101, 10, 103, 101, 116, 32, 48, 10, 112, 117, 115, 104, 32, 51, 10, 109, 117, 108, 10, 112, 117, 115, 104, 32, 35, 10, 97, 100, 100, 10, 115, 101, 116, 32, 52, 10, 103, 101, 116, 32, 52, 10, 108, 111, 97, 100, 10, 115, 101, 116, 32, 51, 10, 103, 101, 116, 32, 51, 10, 122, 101, 114, 111, 32, 102, 114, 101, 101, 10, 103, 101, 116, 32, 51, 10, 112, 117, 115, 104, 32, 49, 10, 115, 97, 109, 101, 10, 122, 101, 114, 111, 32, 103, 111, 110, 101, 10, 103, 101, 116, 32, 52, 10, 112, 117, 115, 104, 32, 49, 10, 97, 100, 100, 10, 108, 111, 97, 100, 10, 112, 117, 115, 104, 32, 35, 10, 115, 97, 109, 101, 10, 122, 101, 114, 111, 32, 111, 110, 10, 106, 117, 109, 112, 32, 102, 111, 117, 110, 100, 10, 103, 111, 110, 101, 58, 10, 103, 101, 116, 32, 50, 10, 112, 117, 115, 104, 32, 48, 10, 108, 101, 115, 115, 10, 122, 101, 114, 111, 32, 111, 110, 10, 103, 101, 116, 32, 52, 10, 115, 101, 116, 32, 50, 10, 111, 110, 58, 10, 103, 101, 116, 32, 48, 10, 112, 117, 115, 104, 32, 49, 10, 97, 100, 100, 10, 112, 117, 115, 104, 32, 35, 10, 109, 111, 100, 10, 115, 101, 116, 32, 48, 10, 103, 101, 116, 32, 49, 10, 112, 117, 115, 104, 32, 49, 10, 97, 100, 100, 10, 115, 101, 116, 32, 49, 10, 106, 117, 109, 112, 32, 110, 101, 120, 116, 10, 102, 114, 101, 101, 58, 10, 103, 101, 116, 32, 50, 10, 112, 117, 115, 104, 32, 48, 10, 108, 101, 115, 115, 10, 122, 101, 114, 111, 32, 110, 111, 110, 101, 10, 103, 101, 116, 32, 52, 10, 115, 101, 116, 32, 50, 10, 106, 117, 109, 112, 32, 110, 111, 110, 101, 10, 102, 111, 117, 110, 100, 58, 10, 103, 101, 116, 32, 52, 10, 112, 117, 115, 104, 32, 50, 10, 97, 100, 100, 10, 112, 117, 115, 104, 32, 35, 10, 115, 116, 111, 114, 101, 10, 112, 117, 115, 104, 32, 48, 10, 116, 101, 108, 108, 10, 106, 117, 109, 112, 32, 111, 117, 116, 10, 110, 111, 110, 101, 58, 10, 103, 101, 116, 32, 50, 10, 112, 117, 115, 104, 32, 48, 10, 108, 101, 115, 115, 10, 122, 101, 114, 111, 32, 112, 117, 116, 10, 112, 117, 115, 104, 32, 50, 10, 116, 101, 108, 108, 10, 106, 117, 109, 112, 32, 111, 117, 116, 10, 112, 117, 116, 58, 10, 103, 101, 116, 32, 50, 10, 112, 117, 115, 104, 32, 49, 10, 115, 116, 111, 114, 101, 10, 103, 101, 116, 32, 50, 10, 112, 117, 115, 104, 32, 49, 10, 97, 100, 100, 10, 112, 117, 115, 104, 32, 35, 10, 115, 116, 111, 114, 101, 10, 103, 101, 116, 32, 50, 10, 112, 117, 115, 104, 32, 50, 10, 97, 100, 100, 10, 112, 117, 115, 104, 32, 35, 10, 115, 116, 111, 114, 101, 10, 112, 117, 115, 104, 32, 35, 10, 112, 117, 115, 104, 32, 35, 10, 108, 111, 97, 100, 10, 112, 117, 115, 104, 32, 49, 10, 97, 100, 100, 10, 115, 116, 111, 114, 101, 10, 112, 117, 115, 104, 32, 49, 10, 116, 101, 108, 108, 10, 111, 117, 116, 58, 10, 99, 111, 109, 109, 105, 116]
def progN1 (hm n base x y : Int) : List Int := [hm, n, base + 1, x, n, y, x, y, base, base]
set_option maxHeartbeats 2000000 in
theorem program1_any (base x y : Int) (N : Nat) (w : World) (h1 : 0 ≤ base) (h2 : base ≤ 256) (hN1 : 1 ≤ N) (hN2 : N ≤ 60) :
    Calls Tryz.prog 38 #[.int .i64 base, .int .i64 N, .agg #[.int .i64 1, .int .i64 0, .int .i64 0, .int .i64 x, .int .i64 y]] w fun e w' => ∃ g c, e = .returned (.tuple #[.string (S progT1), .slice (some ⟨g, 0, none⟩) 10 c]) ∧ Bal w' w.heap.size g c (progN1 (homeN x N : Nat) N base x y) ∧ Below w.heap.size w w' := by
  have hw1 : IntKind.i64.wrap (base + 1) = base + 1 := IntWalk.i64_in _ (by omega)
  obtain ⟨hm, hhm⟩ : ∃ hm : Int, hm = (homeN x N : Nat) := ⟨_, rfl⟩
  have HH := Lib.hid hhm
  rw [← hhm]
  clear hhm
  go_enter Tryz.func38, Tryz.ntmps38
  go_upto_region 1 with (fail)
  go_region_held3 (fun w' => w'.cell? ⟨w.heap.size, 3, none⟩ = some (.int .i64 x) ∧ w'.cell? ⟨w.heap.size, 0, none⟩ = some (.int .i64 1)) (go_keep) (first | (go_at_call 43; refine (home_any x N hN1 hN2 _).mono ?_; rintro e w3 ⟨rfl, rfl⟩; rw [← HH.out]))
  go_upto_region 3 with (fail)
  refine wp_gen (fun W => Below w.heap.size w W ∧ W.heap[w.heap.size]? = some (.cells #[.int .i64 1, .int .i64 0, .int .i64 0, .int .i64 x, .int .i64 y] 40) ∧ Own W w.heap.size (.slice (some ⟨w.heap.size + 1, 0, none⟩) 5 5) [hm, (N : Int), base + 1, x, (N : Int)]) ⟨by repeat (first | exact Below.refl _ _ | apply below_drewed1 | (refine Below.alloc ?_ (by first | exact Nat.le_refl _ | simp) _)), by exact new2a _ _ _, by exact own_quint _ _ _ _ ⟨rfl, rfl⟩⟩ ?_
  rintro W ⟨hB, hd, hown⟩
  have d0 := cell_of_row _ _ 0 _ _ _ hd
  have d3 := cell_of_row _ _ 3 _ _ _ hd
  have d4 := cell_of_row _ _ 4 _ _ _ hd
  have HB := Lib.hid hB
  have HO := Lib.hid hown
  have hz := hB.size
  clear hB hown hd
  go_wp2_with (first | (at_builtin; go_must (refine wpList_append64 (B := w.heap.size) (xs := [hm, (N : Int), base + 1, x, (N : Int)]) (by exact HO.out.below ((Below.refl _ _).alloc (Nat.le_refl _) _)) (by simp <;> omega) (some ⟨W.heap.size, 0, none⟩) 5 5 [y, x, y, base, base] rfl (by exact sees_arr (heap_new _ _ _ rfl)) (fun h => by cases h) (by simp) rfl _ _ rfl rfl rfl ?_; intro v1 w1 ho1 hg1)))
  go_ret2
  obtain ⟨g, c, rfl, hb⟩ := own_some ho1 (show _ = 10 from rfl) (by decide)
  exact ⟨g, c, rfl, hb, (HB.out.alloc hz _).grown hg1 (by simp <;> omega) (fun k e => by cases e; show w.heap.size ≤ w.heap.size + 1; omega)⟩
def progT2 : List UInt8 := [98, 101, 103, 105, 110, 10, 112, 117, 115, 104, 32, 35, 10, 115, 101, 116, 32, 48, 10, 112, 117, 115, 104, 32, 48, 10, 115, 101, 116, 32, 49, 10, 112, 117, 115, 104, 32, 45, 49, 10, 115, 101, 116, 32, 50, 10, 110, 101, 120, 116, 58, 10, 103, 101, 116, 32, 49, 10, 112, 117, 115, 104, 32, 35, 10, 108, 101, 115, 115, 10, 122, 101, 114, 111, 32, 110, 111, 110, 101, 10, 103, 101, 116, 32, 48, 10, 112, 117, 115, 104, 32, 51, 10, 109, 117, 108, 10, 112, 117, 115, 104, 32, 35, 10, 97, 100, 100, 10, 115, 101, 116, 32, 52, 10, 103, 101, 116, 32, 52, 10, 108, 111, 97, 100, 10, 115, 101, 116, 32, 51, 10, 103, 101, 116, 32, 51, 10, 122, 101, 114, 111, 32, 102, 114, 101, 101, 10, 103, 101, 116, 32, 51, 10, 112, 117, 115, 104, 32, 49, 10, 115, 97, 109, 101, 10, 122, 101, 114, 111, 32, 103, 111, 110, 101, 10, 103, 101, 116, 32, 52, 10, 112, 117, 115, 104, 32, 49, 10, 97, 100, 100, 10, 108, 111, 97, 100, 10, 112, 117, 115, 104, 32, 35, 10, 115, 97, 109, 101, 10, 122, 101, 114, 111, 32, 111, 110, 10, 106, 117, 109, 112, 32, 102, 111, 117, 110, 100, 10, 103, 111, 110, 101, 58, 10, 103, 101, 116, 32, 50, 10, 112, 117, 115, 104, 32, 48, 10, 108, 101, 115, 115, 10, 122, 101, 114, 111, 32, 111, 110, 10, 103, 101, 116, 32, 52, 10, 115, 101, 116, 32, 50, 10, 111, 110, 58, 10, 103, 101, 116, 32, 48, 10, 112, 117, 115, 104, 32, 49, 10, 97, 100, 100, 10, 112, 117, 115, 104, 32, 35, 10, 109, 111, 100, 10, 115, 101, 116, 32, 48, 10, 103, 101, 116, 32, 49, 10, 112, 117, 115, 104, 32, 49, 10, 97, 100, 100, 10, 115, 101, 116, 32, 49, 10, 106, 117, 109, 112, 32, 110, 101, 120, 116, 10, 102, 114, 101, 101, 58, 10, 103, 101, 116, 32, 50, 10, 112, 117, 115, 104, 32, 48, 10, 108, 101, 115, 115, 10, 122, 101, 114, 111, 32, 110, 111, 110, 101, 10, 103, 101, 116, 32, 52, 10, 115, 101, 116, 32, 50, 10, 106, 117, 109, 112, 32, 110, 111, 110, 101, 10, 102, 111, 117, 110, 100, 58, 10, 112, 117, 115, 104, 32, 49, 10, 116, 101, 108, 108, 10, 103, 101, 116, 32, 52, 10, 112, 117, 115, 104, 32, 50, 10, 97, 100, 100, 10, 108, 111, 97, 100, 10, 116, 101, 108, 108, 10, 106, 117, 109, 112, 32, 111, 117, 116, 10, 110, 111, 110, 101, 58, 10, 112, 117, 115, 104, 32, 48, 10, 116, 101, 108, 108, 10, 111, 117, 116, 58, 10, 99, 111, 109, 109, 105, 116]
def progN2 (hm n base x _y : Int) : List Int := [hm, n, base + 1, x, n]
set_option maxHeartbeats 2000000 in
theorem program2_any (base x y : Int) (N : Nat) (w : World) (h1 : 0 ≤ base) (h2 : base ≤ 256) (hN1 : 1 ≤ N) (hN2 : N ≤ 60) :
    Calls Tryz.prog 38 #[.int .i64 base, .int .i64 N, .agg #[.int .i64 2, .int .i64 0, .int .i64 0, .int .i64 x, .int .i64 y]] w fun e w' => ∃ g c, e = .returned (.tuple #[.string (S progT2), .slice (some ⟨g, 0, none⟩) 5 c]) ∧ Bal w' w.heap.size g c (progN2 (homeN x N : Nat) N base x y) ∧ Below w.heap.size w w' := by
  have hw1 : IntKind.i64.wrap (base + 1) = base + 1 := IntWalk.i64_in _ (by omega)
  obtain ⟨hm, hhm⟩ : ∃ hm : Int, hm = (homeN x N : Nat) := ⟨_, rfl⟩
  have HH := Lib.hid hhm
  rw [← hhm]
  clear hhm
  go_enter Tryz.func38, Tryz.ntmps38
  go_upto_region 1 with (fail)
  go_region_held3 (fun w' => w'.cell? ⟨w.heap.size, 3, none⟩ = some (.int .i64 x) ∧ w'.cell? ⟨w.heap.size, 0, none⟩ = some (.int .i64 2)) (go_keep) (first | (go_at_call 43; refine (home_any x N hN1 hN2 _).mono ?_; rintro e w3 ⟨rfl, rfl⟩; rw [← HH.out]))
  go_upto_region 3 with (fail)
  refine wp_gen (fun W => Below w.heap.size w W ∧ W.heap[w.heap.size]? = some (.cells #[.int .i64 2, .int .i64 0, .int .i64 0, .int .i64 x, .int .i64 y] 40) ∧ Own W w.heap.size (.slice (some ⟨w.heap.size + 1, 0, none⟩) 5 5) [hm, (N : Int), base + 1, x, (N : Int)]) ⟨by repeat (first | exact Below.refl _ _ | apply below_drewed1 | (refine Below.alloc ?_ (by first | exact Nat.le_refl _ | simp) _)), by exact new2a _ _ _, by exact own_quint _ _ _ _ ⟨rfl, rfl⟩⟩ ?_
  rintro W ⟨hB, hd, hown⟩
  have d0 := cell_of_row _ _ 0 _ _ _ hd
  have d3 := cell_of_row _ _ 3 _ _ _ hd
  have d4 := cell_of_row _ _ 4 _ _ _ hd
  have HB := Lib.hid hB
  have HO := Lib.hid hown
  have hz := hB.size
  clear hB hown hd
  go_wp2_with (first | (refine wpList_runs (o := ⟨some 39, _, _, _, _, _⟩) rfl (.string (S progT2)) _ (by kernel_rfl) ?_))
  go_ret2
  obtain ⟨g, c, e1, hb⟩ := own_some HO.out (show _ = 5 from rfl) (by decide)
  injection e1 with e2 _ e3
  injection e2 with e2
  injection e2 with e2
  subst e2; subst e3
  exact ⟨_, _, rfl, hb, HB.out⟩
def progT3 : List UInt8 := [98, 101, 103, 105, 110, 10, 112, 117, 115, 104, 32, 35, 10, 115, 101, 116, 32, 48, 10, 112, 117, 115, 104, 32, 48, 10, 115, 101, 116, 32, 49, 10, 112, 117, 115, 104, 32, 45, 49, 10, 115, 101, 116, 32, 50, 10, 110, 101, 120, 116, 58, 10, 103, 101, 116, 32, 49, 10, 112, 117, 115, 104, 32, 35, 10, 108, 101, 115, 115, 10, 122, 101, 114, 111, 32, 110, 111, 110, 101, 10, 103, 101, 116, 32, 48, 10, 112, 117, 115, 104, 32, 51, 10, 109, 117, 108, 10, 112, 117, 115, 104, 32, 35, 10, 97, 100, 100, 10, 115, 101, 116, 32, 52, 10, 103, 101, 116, 32, 52, 10, 108, 111, 97, 100, 10, 115, 101, 116, 32, 51, 10, 103, 101, 116, 32, 51, 10, 122, 101, 114, 111, 32, 102, 114, 101, 101, 10, 103, 101, 116, 32, 51, 10, 112, 117, 115, 104, 32, 49, 10, 115, 97, 109, 101, 10, 122, 101, 114, 111, 32, 103, 111, 110, 101, 10, 103, 101, 116, 32, 52, 10, 112, 117, 115, 104, 32, 49, 10, 97, 100, 100, 10, 108, 111, 97, 100, 10, 112, 117, 115, 104, 32, 35, 10, 115, 97, 109, 101, 10, 122, 101, 114, 111, 32, 111, 110, 10, 106, 117, 109, 112, 32, 102, 111, 117, 110, 100, 10, 103, 111, 110, 101, 58, 10, 103, 101, 116, 32, 50, 10, 112, 117, 115, 104, 32, 48, 10, 108, 101, 115, 115, 10, 122, 101, 114, 111, 32, 111, 110, 10, 103, 101, 116, 32, 52, 10, 115, 101, 116, 32, 50, 10, 111, 110, 58, 10, 103, 101, 116, 32, 48, 10, 112, 117, 115, 104, 32, 49, 10, 97, 100, 100, 10, 112, 117, 115, 104, 32, 35, 10, 109, 111, 100, 10, 115, 101, 116, 32, 48, 10, 103, 101, 116, 32, 49, 10, 112, 117, 115, 104, 32, 49, 10, 97, 100, 100, 10, 115, 101, 116, 32, 49, 10, 106, 117, 109, 112, 32, 110, 101, 120, 116, 10, 102, 114, 101, 101, 58, 10, 103, 101, 116, 32, 50, 10, 112, 117, 115, 104, 32, 48, 10, 108, 101, 115, 115, 10, 122, 101, 114, 111, 32, 110, 111, 110, 101, 10, 103, 101, 116, 32, 52, 10, 115, 101, 116, 32, 50, 10, 106, 117, 109, 112, 32, 110, 111, 110, 101, 10, 102, 111, 117, 110, 100, 58, 10, 103, 101, 116, 32, 52, 10, 112, 117, 115, 104, 32, 50, 10, 115, 116, 111, 114, 101, 10, 112, 117, 115, 104, 32, 35, 10, 112, 117, 115, 104, 32, 35, 10, 108, 111, 97, 100, 10, 112, 117, 115, 104, 32, 49, 10, 115, 117, 98, 10, 115, 116, 111, 114, 101, 10, 112, 117, 115, 104, 32, 49, 10, 116, 101, 108, 108, 10, 106, 117, 109, 112, 32, 111, 117, 116, 10, 110, 111, 110, 101, 58, 10, 112, 117, 115, 104, 32, 48, 10, 116, 101, 108, 108, 10, 111, 117, 116, 58, 10, 99, 111, 109, 109, 105, 116]
def progN3 (hm n base x _y : Int) : List Int := [hm, n, base + 1, x, n, base, base]
set_option maxHeartbeats 2000000 in
theorem program3_any (base x y : Int) (N : Nat) (w : World) (h1 : 0 ≤ base) (h2 : base ≤ 256) (hN1 : 1 ≤ N) (hN2 : N ≤ 60) :
    Calls Tryz.prog 38 #[.int .i64 base, .int .i64 N, .agg #[.int .i64 3, .int .i64 0, .int .i64 0, .int .i64 x, .int .i64 y]] w fun e w' => ∃ g c, e = .returned (.tuple #[.string (S progT3), .slice (some ⟨g, 0, none⟩) 7 c]) ∧ Bal w' w.heap.size g c (progN3 (homeN x N : Nat) N base x y) ∧ Below w.heap.size w w' := by
  have hw1 : IntKind.i64.wrap (base + 1) = base + 1 := IntWalk.i64_in _ (by omega)
  obtain ⟨hm, hhm⟩ : ∃ hm : Int, hm = (homeN x N : Nat) := ⟨_, rfl⟩
  have HH := Lib.hid hhm
  rw [← hhm]
  clear hhm
  go_enter Tryz.func38, Tryz.ntmps38
  go_upto_region 1 with (fail)
  go_region_held3 (fun w' => w'.cell? ⟨w.heap.size, 3, none⟩ = some (.int .i64 x) ∧ w'.cell? ⟨w.heap.size, 0, none⟩ = some (.int .i64 3)) (go_keep) (first | (go_at_call 43; refine (home_any x N hN1 hN2 _).mono ?_; rintro e w3 ⟨rfl, rfl⟩; rw [← HH.out]))
  go_upto_region 3 with (fail)
  refine wp_gen (fun W => Below w.heap.size w W ∧ W.heap[w.heap.size]? = some (.cells #[.int .i64 3, .int .i64 0, .int .i64 0, .int .i64 x, .int .i64 y] 40) ∧ Own W w.heap.size (.slice (some ⟨w.heap.size + 1, 0, none⟩) 5 5) [hm, (N : Int), base + 1, x, (N : Int)]) ⟨by repeat (first | exact Below.refl _ _ | apply below_drewed1 | (refine Below.alloc ?_ (by first | exact Nat.le_refl _ | simp) _)), by exact new2a _ _ _, by exact own_quint _ _ _ _ ⟨rfl, rfl⟩⟩ ?_
  rintro W ⟨hB, hd, hown⟩
  have d0 := cell_of_row _ _ 0 _ _ _ hd
  have d3 := cell_of_row _ _ 3 _ _ _ hd
  have d4 := cell_of_row _ _ 4 _ _ _ hd
  have HB := Lib.hid hB
  have HO := Lib.hid hown
  have hz := hB.size
  clear hB hown hd
  go_wp2_with (first | (refine wpList_runs (o := ⟨some 44, _, _, _, _, _⟩) rfl (.string (S progT3)) _ (by kernel_rfl) ?_) | (at_builtin; go_must (refine wpList_append64 (B := w.heap.size) (xs := [hm, (N : Int), base + 1, x, (N : Int)]) (by exact HO.out.below ((Below.refl _ _).alloc (Nat.le_refl _) _)) (by simp <;> omega) (some ⟨W.heap.size, 0, none⟩) 2 2 [base, base] rfl (by exact sees_arr (heap_new _ _ _ rfl)) (fun h => by cases h) (by simp) rfl _ _ rfl rfl rfl ?_; intro v1 w1 ho1 hg1)))
  go_ret2
  obtain ⟨g, c, rfl, hb⟩ := own_some ho1 (show _ = 7 from rfl) (by decide)
  exact ⟨g, c, rfl, hb, (HB.out.alloc hz _).grown hg1 (by simp <;> omega) (fun k e => by cases e; show w.heap.size ≤ w.heap.size + 1; omega)⟩
def progT4 : List UInt8 := [98, 101, 103, 105, 110, 10, 112, 117, 115, 104, 32, 35, 10, 115, 101, 116, 32, 48, 10, 112, 117, 115, 104, 32, 48, 10, 115, 101, 116, 32, 49, 10, 112, 117, 115, 104, 32, 45, 49, 10, 115, 101, 116, 32, 50, 10, 110, 101, 120, 116, 58, 10, 103, 101, 116, 32, 49, 10, 112, 117, 115, 104, 32, 35, 10, 108, 101, 115, 115, 10, 122, 101, 114, 111, 32, 110, 111, 110, 101, 10, 103, 101, 116, 32, 48, 10, 112, 117, 115, 104, 32, 51, 10, 109, 117, 108, 10, 112, 117, 115, 104, 32, 35, 10, 97, 100, 100, 10, 115, 101, 116, 32, 52, 10, 103, 101, 116, 32, 52, 10, 108, 111, 97, 100, 10, 115, 101, 116, 32, 51, 10, 103, 101, 116, 32, 51, 10, 122, 101, 114, 111, 32, 102, 114, 101, 101, 10, 103, 101, 116, 32, 51, 10, 112, 117, 115, 104, 32, 49, 10, 115, 97, 109, 101, 10, 122, 101, 114, 111, 32, 103, 111, 110, 101, 10, 103, 101, 116, 32, 52, 10, 112, 117, 115, 104, 32, 49, 10, 97, 100, 100, 10, 108, 111, 97, 100, 10, 112, 117, 115, 104, 32, 35, 10, 115, 97, 109, 101, 10, 122, 101, 114, 111, 32, 111, 110, 10, 106, 117, 109, 112, 32, 102, 111, 117, 110, 100, 10, 103, 111, 110, 101, 58, 10, 103, 101, 116, 32, 50, 10, 112, 117, 115, 104, 32, 48, 10, 108, 101, 115, 115, 10, 122, 101, 114, 111, 32, 111, 110, 10, 103, 101, 116, 32, 52, 10, 115, 101, 116, 32, 50, 10, 111, 110, 58, 10, 103, 101, 116, 32, 48, 10, 112, 117, 115, 104, 32, 49, 10, 97, 100, 100, 10, 112, 117, 115, 104, 32, 35, 10, 109, 111, 100, 10, 115, 101, 116, 32, 48, 10, 103, 101, 116, 32, 49, 10, 112, 117, 115, 104, 32, 49, 10, 97, 100, 100, 10, 115, 101, 116, 32, 49, 10, 106, 117, 109, 112, 32, 110, 101, 120, 116, 10, 102, 114, 101, 101, 58, 10, 103, 101, 116, 32, 50, 10, 112, 117, 115, 104, 32, 48, 10, 108, 101, 115, 115, 10, 122, 101, 114, 111, 32, 110, 111, 110, 101, 10, 103, 101, 116, 32, 52, 10, 115, 101, 116, 32, 50, 10, 106, 117, 109, 112, 32, 110, 111, 110, 101, 10, 102, 111, 117, 110, 100, 58, 10, 112, 117, 115, 104, 32, 49, 10, 116, 101, 108, 108, 10, 103, 101, 116, 32, 52, 10, 112, 117, 115, 104, 32, 50, 10, 97, 100, 100, 10, 103, 101, 116, 32, 52, 10, 112, 117, 115, 104, 32, 50, 10, 97, 100, 100, 10, 108, 111, 97, 100, 10, 112, 117, 115, 104, 32, 35, 10, 97, 100, 100, 10, 100, 117, 112, 10, 116, 101, 108, 108, 10, 115, 116, 111, 114, 101, 10, 106, 117, 109, 112, 32, 111, 117, 116, 10, 110, 111, 110, 101, 58, 10, 112, 117, 115, 104, 32, 48, 10, 116, 101, 108, 108, 10, 111, 117, 116, 58, 10, 99, 111, 109, 109, 105, 116]
def progN4 (hm n base x y : Int) : List Int := [hm, n, base + 1, x, n, y]
set_option maxHeartbeats 2000000 in
theorem program4_any (base x y : Int) (N : Nat) (w : World) (h1 : 0 ≤ base) (h2 : base ≤ 256) (hN1 : 1 ≤ N) (hN2 : N ≤ 60) :
    Calls Tryz.prog 38 #[.int .i64 base, .int .i64 N, .agg #[.int .i64 4, .int .i64 0, .int .i64 0, .int .i64 x, .int .i64 y]] w fun e w' => ∃ g c, e = .returned (.tuple #[.string (S progT4), .slice (some ⟨g, 0, none⟩) 6 c]) ∧ Bal w' w.heap.size g c (progN4 (homeN x N : Nat) N base x y) ∧ Below w.heap.size w w' := by
  have hw1 : IntKind.i64.wrap (base + 1) = base + 1 := IntWalk.i64_in _ (by omega)
  obtain ⟨hm, hhm⟩ : ∃ hm : Int, hm = (homeN x N : Nat) := ⟨_, rfl⟩
  have HH := Lib.hid hhm
  rw [← hhm]
  clear hhm
  go_enter Tryz.func38, Tryz.ntmps38
  go_upto_region 1 with (fail)
  go_region_held3 (fun w' => w'.cell? ⟨w.heap.size, 3, none⟩ = some (.int .i64 x) ∧ w'.cell? ⟨w.heap.size, 0, none⟩ = some (.int .i64 4)) (go_keep) (first | (go_at_call 43; refine (home_any x N hN1 hN2 _).mono ?_; rintro e w3 ⟨rfl, rfl⟩; rw [← HH.out]))
  go_upto_region 3 with (fail)
  refine wp_gen (fun W => Below w.heap.size w W ∧ W.heap[w.heap.size]? = some (.cells #[.int .i64 4, .int .i64 0, .int .i64 0, .int .i64 x, .int .i64 y] 40) ∧ Own W w.heap.size (.slice (some ⟨w.heap.size + 1, 0, none⟩) 5 5) [hm, (N : Int), base + 1, x, (N : Int)]) ⟨by repeat (first | exact Below.refl _ _ | apply below_drewed1 | (refine Below.alloc ?_ (by first | exact Nat.le_refl _ | simp) _)), by exact new2a _ _ _, by exact own_quint _ _ _ _ ⟨rfl, rfl⟩⟩ ?_
  rintro W ⟨hB, hd, hown⟩
  have d0 := cell_of_row _ _ 0 _ _ _ hd
  have d3 := cell_of_row _ _ 3 _ _ _ hd
  have d4 := cell_of_row _ _ 4 _ _ _ hd
  have HB := Lib.hid hB
  have HO := Lib.hid hown
  have hz := hB.size
  clear hB hown hd
  go_wp2_with (first | (refine wpList_runs (o := ⟨some 53, _, _, _, _, _⟩) rfl (.string (S progT4)) _ (by kernel_rfl) ?_) | (at_builtin; go_must (refine wpList_append64 (B := w.heap.size) (xs := [hm, (N : Int), base + 1, x, (N : Int)]) (by exact HO.out.below ((Below.refl _ _).alloc (Nat.le_refl _) _)) (by simp <;> omega) (some ⟨W.heap.size, 0, none⟩) 1 1 [y] rfl (by exact sees_arr (heap_new _ _ _ rfl)) (fun h => by cases h) (by simp) rfl _ _ rfl rfl rfl ?_; intro v1 w1 ho1 hg1)))
  go_ret2
  obtain ⟨g, c, rfl, hb⟩ := own_some ho1 (show _ = 6 from rfl) (by decide)
  exact ⟨g, c, rfl, hb, (HB.out.alloc hz _).grown hg1 (by simp <;> omega) (fun k e => by cases e; show w.heap.size ≤ w.heap.size + 1; omega)⟩
end Go.Proofs.YtochpdailleilaaGreatDoor
namespace Go.Proofs.YtochpdailleilaaGreatDoor
open Go.RowKit
set_option maxRecDepth 100000

def progL1 (hm n base x y : Int) : List (Int × Int) := [(16, 0), (1, hm), (6, 0), (1, 0), (6, 1), (1, -1), (6, 2), (5, 1), (1, n), (11, 0), (15, 66), (5, 0), (1, 3), (9, 0), (1, base + 1), (7, 0), (6, 4), (5, 4), (17, 0), (6, 3), (5, 3), (15, 51), (5, 3), (1, 1), (12, 0), (15, 34), (5, 4), (1, 1), (7, 0), (17, 0), (1, x), (12, 0), (15, 40), (14, 58), (5, 2), (1, 0), (11, 0), (15, 40), (5, 4), (6, 2), (5, 0), (1, 1), (7, 0), (1, n), (10, 0), (6, 0), (5, 1), (1, 1), (7, 0), (6, 1), (14, 7), (5, 2), (1, 0), (11, 0), (15, 66), (5, 4), (6, 2), (14, 66), (5, 4), (1, 2), (7, 0), (1, y), (18, 0), (1, 0), (21, 0), (14, 94), (5, 2), (1, 0), (11, 0), (15, 73), (1, 2), (21, 0), (14, 94), (5, 2), (1, 1), (18, 0), (5, 2), (1, 1), (7, 0), (1, x), (18, 0), (5, 2), (1, 2), (7, 0), (1, y), (18, 0), (1, base), (1, base), (17, 0), (1, 1), (7, 0), (18, 0), (1, 1), (21, 0), (19, 0)]
def progL2 (hm n base x _y : Int) : List (Int × Int) := [(16, 0), (1, hm), (6, 0), (1, 0), (6, 1), (1, -1), (6, 2), (5, 1), (1, n), (11, 0), (15, 66), (5, 0), (1, 3), (9, 0), (1, base + 1), (7, 0), (6, 4), (5, 4), (17, 0), (6, 3), (5, 3), (15, 51), (5, 3), (1, 1), (12, 0), (15, 34), (5, 4), (1, 1), (7, 0), (17, 0), (1, x), (12, 0), (15, 40), (14, 58), (5, 2), (1, 0), (11, 0), (15, 40), (5, 4), (6, 2), (5, 0), (1, 1), (7, 0), (1, n), (10, 0), (6, 0), (5, 1), (1, 1), (7, 0), (6, 1), (14, 7), (5, 2), (1, 0), (11, 0), (15, 66), (5, 4), (6, 2), (14, 66), (1, 1), (21, 0), (5, 4), (1, 2), (7, 0), (17, 0), (21, 0), (14, 68), (1, 0), (21, 0), (19, 0)]
def progL3 (hm n base x _y : Int) : List (Int × Int) := [(16, 0), (1, hm), (6, 0), (1, 0), (6, 1), (1, -1), (6, 2), (5, 1), (1, n), (11, 0), (15, 70), (5, 0), (1, 3), (9, 0), (1, base + 1), (7, 0), (6, 4), (5, 4), (17, 0), (6, 3), (5, 3), (15, 51), (5, 3), (1, 1), (12, 0), (15, 34), (5, 4), (1, 1), (7, 0), (17, 0), (1, x), (12, 0), (15, 40), (14, 58), (5, 2), (1, 0), (11, 0), (15, 40), (5, 4), (6, 2), (5, 0), (1, 1), (7, 0), (1, n), (10, 0), (6, 0), (5, 1), (1, 1), (7, 0), (6, 1), (14, 7), (5, 2), (1, 0), (11, 0), (15, 70), (5, 4), (6, 2), (14, 70), (5, 4), (1, 2), (18, 0), (1, base), (1, base), (17, 0), (1, 1), (8, 0), (18, 0), (1, 1), (21, 0), (14, 72), (1, 0), (21, 0), (19, 0)]
def progL4 (hm n base x y : Int) : List (Int × Int) := [(16, 0), (1, hm), (6, 0), (1, 0), (6, 1), (1, -1), (6, 2), (5, 1), (1, n), (11, 0), (15, 73), (5, 0), (1, 3), (9, 0), (1, base + 1), (7, 0), (6, 4), (5, 4), (17, 0), (6, 3), (5, 3), (15, 51), (5, 3), (1, 1), (12, 0), (15, 34), (5, 4), (1, 1), (7, 0), (17, 0), (1, x), (12, 0), (15, 40), (14, 58), (5, 2), (1, 0), (11, 0), (15, 40), (5, 4), (6, 2), (5, 0), (1, 1), (7, 0), (1, n), (10, 0), (6, 0), (5, 1), (1, 1), (7, 0), (6, 1), (14, 7), (5, 2), (1, 0), (11, 0), (15, 73), (5, 4), (6, 2), (14, 73), (1, 1), (21, 0), (5, 4), (1, 2), (7, 0), (5, 4), (1, 2), (7, 0), (17, 0), (1, y), (7, 0), (3, 0), (21, 0), (18, 0), (14, 75), (1, 0), (21, 0), (19, 0)]
def progTD : Nat → List UInt8
  | 1 => progT1
  | 2 => progT2
  | 3 => progT3
  | 4 => progT4
  | _ => progT5
def progND (k : Nat) (hm n base x y : Int) : List Int := match k with
  | 1 => progN1 hm n base x y
  | 2 => progN2 hm n base x y
  | 3 => progN3 hm n base x y
  | 4 => progN4 hm n base x y
  | _ => [base]
def progLD (k : Nat) (hm n base x y : Int) : List (Int × Int) := match k with
  | 1 => progL1 hm n base x y
  | 2 => progL2 hm n base x y
  | 3 => progL3 hm n base x y
  | 4 => progL4 hm n base x y
  | _ => progL5 base
def codeOkD (base n op a b x y : Int) : Bool := decide (roomI n ≠ 0) && mayD op a b x y && decide (0 ≤ base) && decide (base + roomI n ≤ 256)
def OpOk (op x y : Int) : Prop := op = 1 ∨ op = 2 ∧ y = 0 ∨ op = 3 ∧ y = 0 ∨ op = 4 ∨ op = 5 ∧ x = 0 ∧ y = 0
theorem mayD_op {op a b x y : Int} (h : mayD op a b x y = true) : a = 0 ∧ b = 0 ∧ OpOk op x y := by
  unfold mayD at h
  unfold OpOk
  simp at h
  omega
theorem home_lt (x : Int) (N : Nat) (h : 1 ≤ N) : homeN x N < N := homeN_lt x (by omega)
theorem program_at (base op x y : Int) (N : Nat) (w : World) (h1 : 0 ≤ base) (h2 : base ≤ 256) (hN1 : 1 ≤ N) (hN2 : N ≤ 60) (ho : OpOk op x y) :
    Calls Tryz.prog 38 #[.int .i64 base, .int .i64 N, .agg #[.int .i64 op, .int .i64 0, .int .i64 0, .int .i64 x, .int .i64 y]] w fun e w' => ∃ g c, e = .returned (.tuple #[.string (S (progTD op.toNat)), .slice (some ⟨g, 0, none⟩) (progND op.toNat (homeN x N : Nat) N base x y).length c]) ∧ Bal w' w.heap.size g c (progND op.toNat (homeN x N : Nat) N base x y) ∧ Below w.heap.size w w' := by
  obtain rfl | ⟨rfl, rfl⟩ | ⟨rfl, rfl⟩ | rfl | ⟨rfl, rfl, rfl⟩ := ho
  · exact program1_any base x y N w h1 h2 hN1 hN2
  · exact program2_any base x 0 N w h1 h2 hN1 hN2
  · exact program3_any base x 0 N w h1 h2 hN1 hN2
  · exact program4_any base x y N w h1 h2 hN1 hN2
  · refine (program5_any base 0 0 N w h1 h2 hN1 hN2).mono fun e w' => ?_
    rintro ⟨g, he, hg, hb, hge⟩
    exact ⟨g, 1, he, Bal.of_block (zs := [base]) hge hg rfl (Nat.le_refl _) (by unfold maxLen; omega) rfl, hb⟩
theorem lines_at (base op x y : Int) (N : Nat) (w : World) (he : Env w) (h1 : 0 ≤ base) (h2 : base ≤ 256) (hN1 : 1 ≤ N) (hN2 : N ≤ 60) (hx1 : -9223372036854775808 ≤ x) (hx2 : x ≤ 9223372036854775807) (hy1 : -9223372036854775808 ≤ y) (hy2 : y ≤ 9223372036854775807)
    (ho : OpOk op x y) (B g c : Nat) (hb : Bal w B g c (progND op.toNat (homeN x N : Nat) N base x y)) :
    Calls Tryz.prog 39 #[.string (S (progTD op.toNat)), .slice (some ⟨g, 0, none⟩) (progND op.toNat (homeN x N : Nat) N base x y).length c] w (ProgDoes (progLD op.toNat (homeN x N : Nat) N base x y) w) := by
  obtain ⟨hl, hc⟩ := hb.caps
  unfold maxLen at hc
  have hlt := hb.lt.1
  have hh := home_lt x N hN1
  obtain ⟨hm, hhm⟩ : ∃ hm : Int, hm = (homeN x N : Nat) := ⟨_, rfl⟩
  have hm1 : 0 ≤ hm := by omega
  have hm2 : hm < 60 := by omega
  rw [← hhm] at hb hl ⊢
  clear hhm hh
  have hcs : ∀ j, j < (progND op.toNat hm N base x y).length → w.cell? ⟨g, j, none⟩ = some (.int .i64 ((progND op.toNat hm N base x y).getD j 0)) := fun j hj => hb.cell j (by rw [List.getD_eq_getElem?_getD, List.getElem?_eq_getElem hj]; rfl)
  obtain rfl | ⟨rfl, rfl⟩ | ⟨rfl, rfl⟩ | rfl | ⟨rfl, rfl, rfl⟩ := ho
  · exact lines_prog progT1 (progN1 hm N base x y) (progL1 hm N base x y) (by kernel_rfl) (by kernel_rfl) (by kernel_rfl) (by kernel_rfl) (by kernel_rfl) (by kernel_rfl) (by kernel_rfl) g c w he hl (by omega) hlt hcs (inR_cons (by omega) (by omega) (inR_cons (by omega) (by omega) (inR_cons (by omega) (by omega) (inR_cons (by omega) (by omega) (inR_cons (by omega) (by omega) (inR_cons (by omega) (by omega) (inR_cons (by omega) (by omega) (inR_cons (by omega) (by omega) (inR_cons (by omega) (by omega) (inR_cons (by omega) (by omega) inR_nil))))))))))
  · exact lines_prog progT2 (progN2 hm N base x 0) (progL2 hm N base x 0) (by kernel_rfl) (by kernel_rfl) (by kernel_rfl) (by kernel_rfl) (by kernel_rfl) (by kernel_rfl) (by kernel_rfl) g c w he hl (by omega) hlt hcs (inR_cons (by omega) (by omega) (inR_cons (by omega) (by omega) (inR_cons (by omega) (by omega) (inR_cons (by omega) (by omega) (inR_cons (by omega) (by omega) inR_nil)))))
  · exact lines_prog progT3 (progN3 hm N base x 0) (progL3 hm N base x 0) (by kernel_rfl) (by kernel_rfl) (by kernel_rfl) (by kernel_rfl) (by kernel_rfl) (by kernel_rfl) (by kernel_rfl) g c w he hl (by omega) hlt hcs (inR_cons (by omega) (by omega) (inR_cons (by omega) (by omega) (inR_cons (by omega) (by omega) (inR_cons (by omega) (by omega) (inR_cons (by omega) (by omega) (inR_cons (by omega) (by omega) (inR_cons (by omega) (by omega) inR_nil)))))))
  · exact lines_prog progT4 (progN4 hm N base x y) (progL4 hm N base x y) (by kernel_rfl) (by kernel_rfl) (by kernel_rfl) (by kernel_rfl) (by kernel_rfl) (by kernel_rfl) (by kernel_rfl) g c w he hl (by omega) hlt hcs (inR_cons (by omega) (by omega) (inR_cons (by omega) (by omega) (inR_cons (by omega) (by omega) (inR_cons (by omega) (by omega) (inR_cons (by omega) (by omega) (inR_cons (by omega) (by omega) inR_nil))))))
  · exact lines_prog progT5 [base] (progL5 base) (by kernel_rfl) (by kernel_rfl) (by kernel_rfl) (by kernel_rfl) (by kernel_rfl) (by kernel_rfl) (by kernel_rfl) g c w he hl (by omega) hlt hcs (inR_cons (by omega) (by omega) inR_nil)
set_option maxHeartbeats 1000000 in
theorem Code_yesD (base op a b x y : Int) (N : Nat) (w : World) (he : Env w) (hx1 : -9223372036854775808 ≤ x) (hx2 : x ≤ 9223372036854775807) (hy1 : -9223372036854775808 ≤ y) (hy2 : y ≤ 9223372036854775807) (h : codeOkD base N op a b x y = true) : Calls Tryz.prog 24 #[.int .i64 base, .int .i64 N, .agg #[.int .i64 op, .int .i64 a, .int .i64 b, .int .i64 x, .int .i64 y]] w (ProgDoes (progLD op.toNat (homeN x N : Nat) N base x y) w) := by
  simp only [codeOkD, Bool.and_eq_true, decide_eq_true_eq] at h
  obtain ⟨⟨⟨hr, hm⟩, hb0⟩, hb1⟩ := h
  obtain ⟨hr2, hn1, hn2⟩ := roomI_yes hr
  obtain ⟨rfl, rfl, ho⟩ := mayD_op hm
  have hN1 : 1 ≤ N := by omega
  have hN2 : N ≤ 60 := by omega
  have HE := Lib.hid (fun W (hb : Below w.heap.size w W) => he.below hb)
  have HPR := fun w' => Lib.hid (program_at base op x y N w' hb0 (by omega) hN1 hN2 ho)
  have HLI := fun w' he' B g c hb => Lib.hid (lines_at base op x y N w' he' hb0 (by omega) hN1 hN2 hx1 hx2 hy1 hy2 ho B g c hb)
  have HR := Lib.hid hr2
  have HM := Lib.hid hm
  have hn0 : (1 + 3 * (N : Int) == 0) = false := by simp; omega
  have g1 : ¬ base < 0 := by omega
  have g2 : ¬ 256 - (1 + 3 * (N : Int)) < base := by omega
  rw [hr2] at hb1
  generalize progTD op.toNat = TX at HPR HLI
  generalize progND op.toNat (homeN x N : Nat) N base x y = NS at HPR HLI
  generalize progLD op.toNat (homeN x N : Nat) N base x y = PR at HLI ⊢
  clear he ho hm hr hr2
  go_enter Tryz.func24, Tryz.ntmps24
  go_wp2_with (first
    | (go_at_call 21; go_must (refine (Room_any N _).mono ?_; rintro e w1 ⟨rfl, rfl⟩; rw [HR.out]))
    | (go_at_call 31; go_must (refine (mayD_any op 0 0 x y _).mono ?_; rintro e w2 ⟨rfl, hb2⟩; rw [HM.out]; obtain ⟨hc2, _⟩ := bcell hb2))
    | (go_at_call 38; go_must (refine (HPR _).out.mono ?_; rintro e w3 ⟨g, c, rfl, hg3, hb3⟩))
    | (go_at_call 39; go_must (refine (HLI _ (HE.out _ ((((Below.refl _ _).alloc (Nat.le_refl _) _).trans (hb2.mono (by simp))).trans (hb3.mono (by have := hb2.size; simp at this; omega)))) _ _ _ hg3).out.mono ?_; rintro e w4 ⟨v, rfl, ho4, hb4⟩)))
  go_ret2
  have hB3 : Below w.heap.size w w3 := (((Below.refl _ _).alloc (Nat.le_refl _) _).trans (hb2.mono (by simp))).trans (hb3.mono (by have := hb2.size; simp at this; omega))
  exact ⟨v, rfl, own_lower ho4 hB3.size, hB3.trans (hb4.mono hB3.size)⟩
set_option maxHeartbeats 1000000 in
theorem Code_noD (base n op a b x y : Int) (w : World) (hlim : base ≤ 9223372036854775807) (h : codeOkD base n op a b x y = false) : Calls Tryz.prog 24 #[.int .i64 base, .int .i64 n, .agg #[.int .i64 op, .int .i64 a, .int .i64 b, .int .i64 x, .int .i64 y]] w fun e w' => e = .returned (.tuple #[.slice none 0 0, .int .i64 190]) ∧ Below w.heap.size w w' := by
  by_cases hr : roomI n = 0
  · have HR := Lib.hid hr
    clear h hr
    go_enter Tryz.func24, Tryz.ntmps24
    go_wp2_with (go_at_call 21; go_must (refine (Room_any n _).mono ?_; rintro e w1 ⟨rfl, rfl⟩; rw [HR.out]))
    go_ret2
    exact ⟨rfl, (Below.refl _ _).alloc (Nat.le_refl _) _⟩
  obtain ⟨hr2, hn1, hn2⟩ := roomI_yes hr
  have HR := Lib.hid hr2
  have hn0 : (1 + 3 * n == 0) = false := by simp; omega
  cases hm : mayD op a b x y with
  | false =>
    have HM := Lib.hid hm
    clear h hr hr2 hm
    go_enter Tryz.func24, Tryz.ntmps24
    go_wp2_with (first
      | (go_at_call 21; go_must (refine (Room_any n _).mono ?_; rintro e w1 ⟨rfl, rfl⟩; rw [HR.out]))
      | (go_at_call 31; go_must (refine (mayD_any op a b x y _).mono ?_; rintro e w2 ⟨rfl, hb2⟩; rw [HM.out])))
    go_ret2
    exact ⟨rfl, ((Below.refl _ _).alloc (Nat.le_refl _) _).trans (hb2.mono (by simp))⟩
  | true =>
    have HM := Lib.hid hm
    have hbb : base < 0 ∨ 0 ≤ base ∧ 256 - (1 + 3 * n) < base := by
      by_cases g : base < 0
      · exact .inl g
      · refine .inr ⟨by omega, ?_⟩
        by_cases g2 : 256 - (1 + 3 * n) < base
        · exact g2
        · exfalso
          have : codeOkD base n op a b x y = true := by
            simp only [codeOkD, Bool.and_eq_true, decide_eq_true_eq]
            exact ⟨⟨⟨hr, hm⟩, by omega⟩, by rw [hr2]; omega⟩
          rw [this] at h; cases h
    clear h hr hr2 hm
    rcases hbb with g1 | ⟨g1, g2⟩
    · go_enter Tryz.func24, Tryz.ntmps24
      go_wp2_with (first
        | (go_at_call 21; go_must (refine (Room_any n _).mono ?_; rintro e w1 ⟨rfl, rfl⟩; rw [HR.out]))
        | (go_at_call 31; go_must (refine (mayD_any op a b x y _).mono ?_; rintro e w2 ⟨rfl, hb2⟩; rw [HM.out])))
      go_ret2
      exact ⟨rfl, ((Below.refl _ _).alloc (Nat.le_refl _) _).trans (hb2.mono (by simp))⟩
    · go_enter Tryz.func24, Tryz.ntmps24
      go_wp2_with (first
        | (go_at_call 21; go_must (refine (Room_any n _).mono ?_; rintro e w1 ⟨rfl, rfl⟩; rw [HR.out]))
        | (go_at_call 31; go_must (refine (mayD_any op a b x y _).mono ?_; rintro e w2 ⟨rfl, hb2⟩; rw [HM.out])))
      go_ret2
      exact ⟨rfl, ((Below.refl _ _).alloc (Nat.le_refl _) _).trans (hb2.mono (by simp))⟩
end Go.Proofs.YtochpdailleilaaGreatDoor
