/-
  THE TABLE OF INSTRUCTIONS (quash/code.about), AND Name, Takes: for every Op. No condition.
-/
import Derived.Test.YtoiokbdipcecnaaGreatDoorBase
namespace Go.Proofs.YtoiokbdipcecnaaGreatDoor
open Go.RowKit
set_option maxRecDepth 100000

def rowsL : List (List UInt8 × Int × Int × Int) :=
 [([], 0, 0, 0), ([112, 117, 115, 104], 1, 0, 1), ([112, 111, 112], 0, 1, 0), ([100, 117, 112], 0, 1, 2), ([115, 119, 97, 112], 0, 2, 2),
  ([103, 101, 116], 2, 0, 1), ([115, 101, 116], 2, 1, 0), ([97, 100, 100], 0, 2, 1), ([115, 117, 98], 0, 2, 1), ([109, 117, 108], 0, 2, 1), ([109, 111, 100], 0, 2, 1),
  ([108, 101, 115, 115], 0, 2, 1), ([115, 97, 109, 101], 0, 2, 1), ([110, 111, 116], 0, 1, 1), ([106, 117, 109, 112], 3, 0, 0), ([122, 101, 114, 111], 3, 1, 0),
  ([98, 101, 103, 105, 110], 0, 0, 0), ([108, 111, 97, 100], 0, 1, 1), ([115, 116, 111, 114, 101], 0, 2, 0), ([99, 111, 109, 109, 105, 116], 0, 0, 0),
  ([97, 98, 111, 114, 116], 3, 0, 0), ([116, 101, 108, 108], 0, 1, 0), ([104, 97, 108, 116], 0, 0, 0)]
def rowCells (r : List UInt8 × Int × Int × Int) : List Value := [.string (S r.1), .int .i64 r.2.1, .int .i64 r.2.2.1, .int .i64 r.2.2.2]
def rowsArr : Array Value := (rowsL.flatMap rowCells).toArray
def rowAt (k : Nat) : List UInt8 × Int × Int × Int := rowsL.getD k ([], 0, 0, 0)
/-- The table's columns at any int: the first row's where there is no such Op. -/
def opRow (op : Int) : List UInt8 × Int × Int × Int := if 1 ≤ op ∧ op < 23 then rowAt op.toNat else rowAt 0
def isOp (op : Int) : Bool := decide (1 ≤ op ∧ op < 23)
def word (op : Int) : ByteArray := S (opRow op).1
def takes (op : Int) : Int := (opRow op).2.1
def pops (op : Int) : Int := (opRow op).2.2.1
def pushes (op : Int) : Int := (opRow op).2.2.2
theorem opRow_in {k : Nat} (h1 : 1 ≤ k) (h2 : k < 23) : opRow (k : Int) = rowAt k := by
  unfold opRow
  rw [if_pos (by omega)]
  simp
theorem opRow_out {n : Int} (h : n < 1 ∨ 23 ≤ n) : opRow n = rowAt 0 := by
  unfold opRow
  rw [if_neg (by omega)]
theorem rowsArr_at (k : Nat) (h : k < 23) : rowsArr[k*4]? = some (.string (S (rowAt k).1)) ∧ rowsArr[k*4+1]? = some (.int .i64 (rowAt k).2.1) ∧ rowsArr[k*4+2]? = some (.int .i64 (rowAt k).2.2.1) ∧ rowsArr[k*4+3]? = some (.int .i64 (rowAt k).2.2.2) := by
  match k, h with
  | 0, _ | 1, _ | 2, _ | 3, _ | 4, _ | 5, _ | 6, _ | 7, _ | 8, _ | 9, _ | 10, _ | 11, _ | 12, _ | 13, _ | 14, _ | 15, _ | 16, _ | 17, _ | 18, _ | 19, _ | 20, _ | 21, _ | 22, _ => exact ⟨rfl, rfl, rfl, rfl⟩
  | n+23, h => omega
attribute [irreducible] rowsArr
def partsA : Array (Nat × Value) := (((rowsL.map rowCells).zipIdx.map fun (r, i) => (i, Value.agg r.toArray)).toArray)
theorem hbs (w : World) : (Instr.buildSlice 115 23 partsA).run Tryz.prog w = .ok (.slice (some ⟨w.heap.size, 0, none⟩) 23 23) (w.alloc (.cells rowsArr 86)) := by
  kernel_rfl
theorem hbs' (w : World) (A : Obj) : (Instr.buildSlice 115 23 partsA).run Tryz.prog (w.alloc A) = .ok (.slice (some ⟨w.heap.size + 1, 0, none⟩) 23 23) ((w.alloc A).alloc (.cells rowsArr 86)) := by
  rw [hbs, World.size_alloc]
attribute [irreducible] partsA
def rowAgg (op : Int) : Value := .agg #[.string (word op), .int .i64 (takes op), .int .i64 (pops op), .int .i64 (pushes op)]

set_option maxHeartbeats 1000000 in
theorem about_in (k : Nat) (h1 : 1 ≤ k) (h2 : k < 23) (w : World) :
    Calls Tryz.prog 35 #[.int .i64 k] w fun e w' => e = .returned (.tuple #[rowAgg k, .bool true]) ∧ Below w.heap.size w w' := by
  obtain ⟨r0, r1, r2, r3⟩ := rowsArr_at k h2
  have d0 : ¬ ((k : Int) ≤ 0) := by omega
  have d1 : ¬ ((23 : Int) ≤ (k : Int)) := by omega
  go_enter Tryz.func35, Tryz.ntmps35
  go_wp2_with (refine wpList_runs2 (o := ⟨some 28, _, _, _, _, _⟩) rfl (Instr.buildSlice 115 23 partsA) (by kernel_rfl) _ _ (hbs' w _) ?_)
  have e : rowAgg k = .agg #[.string (S (rowAt k).1), .int .i64 (rowAt k).2.1, .int .i64 (rowAt k).2.2.1, .int .i64 (rowAt k).2.2.2] := by
    simp only [rowAgg, word, takes, pops, pushes, opRow_in h1 h2]
  rw [e]
  exact bodyPost_ret (v := .tuple #[.agg #[.string (S (rowAt k).1), .int .i64 (rowAt k).2.1, .int .i64 (rowAt k).2.2.1, .int .i64 (rowAt k).2.2.2], .bool true]) (by simp [results, Tryz.results35, go_sem]) rfl ⟨rfl, ((Below.refl _ _).alloc (Nat.le_refl _) _).alloc (by simp) _⟩

set_option maxHeartbeats 1000000 in
theorem about_low (n : Int) (h1 : n ≤ 0) (w : World) :
    Calls Tryz.prog 35 #[.int .i64 n] w fun e w' => e = .returned (.tuple #[rowAgg n, .bool false]) ∧ Below w.heap.size w w' := by
  have e : rowAgg n = .agg #[.string ⟨#[]⟩, .int .i64 0, .int .i64 0, .int .i64 0] := by
    simp only [rowAgg, word, takes, pops, pushes, opRow_out (show n < 1 ∨ 23 ≤ n by omega)]; rfl
  rw [e]
  clear e
  go_enter Tryz.func35, Tryz.ntmps35
  go_wp2_with (refine wpList_runs2 (o := ⟨some 28, _, _, _, _, _⟩) rfl (Instr.buildSlice 115 23 partsA) (by kernel_rfl) _ _ (hbs' w _) ?_)
  exact bodyPost_ret (v := .tuple #[.agg #[.string ⟨#[]⟩, .int .i64 0, .int .i64 0, .int .i64 0], .bool false]) (by simp [results, Tryz.results35, go_sem]) rfl ⟨rfl, ((Below.refl _ _).alloc (Nat.le_refl _) _).alloc (by simp) _⟩
set_option maxHeartbeats 1000000 in
theorem about_high (n : Int) (h1 : 23 ≤ n) (w : World) :
    Calls Tryz.prog 35 #[.int .i64 n] w fun e w' => e = .returned (.tuple #[rowAgg n, .bool false]) ∧ Below w.heap.size w w' := by
  have e : rowAgg n = .agg #[.string ⟨#[]⟩, .int .i64 0, .int .i64 0, .int .i64 0] := by
    simp only [rowAgg, word, takes, pops, pushes, opRow_out (show n < 1 ∨ 23 ≤ n by omega)]; rfl
  rw [e]
  clear e
  have d0 : ¬ (n ≤ 0) := by omega
  go_enter Tryz.func35, Tryz.ntmps35
  go_wp2_with (refine wpList_runs2 (o := ⟨some 28, _, _, _, _, _⟩) rfl (Instr.buildSlice 115 23 partsA) (by kernel_rfl) _ _ (hbs' w _) ?_)
  exact bodyPost_ret (v := .tuple #[.agg #[.string ⟨#[]⟩, .int .i64 0, .int .i64 0, .int .i64 0], .bool false]) (by simp [results, Tryz.results35, go_sem]) rfl ⟨rfl, ((Below.refl _ _).alloc (Nat.le_refl _) _).alloc (by simp) _⟩

/-- quash/code.about, for every Op. -/
theorem about_any (n : Int) (w : World) :
    Calls Tryz.prog 35 #[.int .i64 n] w fun e w' => e = .returned (.tuple #[rowAgg n, .bool (isOp n)]) ∧ Below w.heap.size w w' := by
  by_cases h0 : n ≤ 0
  · rw [show isOp n = false by simp [isOp]; omega]
    exact about_low n h0 w
  by_cases h1 : 23 ≤ n
  · rw [show isOp n = false by simp [isOp]; omega]
    exact about_high n h1 w
  · rw [show isOp n = true by simp [isOp]; omega]
    obtain ⟨k, rfl⟩ := Int.eq_ofNat_of_zero_le (show 0 ≤ n by omega)
    exact about_in k (by omega) (by omega) w

end Go.Proofs.YtoiokbdipcecnaaGreatDoor
