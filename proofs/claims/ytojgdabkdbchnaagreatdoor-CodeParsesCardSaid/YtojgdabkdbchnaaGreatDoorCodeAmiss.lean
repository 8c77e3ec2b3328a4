/-
  quash/code.amiss: every instruction in a state whose depth is 0 to 32. No condition.
-/
import Derived.Test.YtojgdabkdbchnaaGreatDoorCodeCheck
namespace Go.Proofs.YtojgdabkdbchnaaGreatDoor
open Go.RowKit
set_option maxRecDepth 100000

theorem pops_bd (op : Int) : 0 ≤ pops op ∧ pops op ≤ 2 ∧ 0 ≤ pushes op ∧ pushes op ≤ 2 := by
  unfold pops pushes opRow
  split
  · rename_i h
    obtain ⟨k, rfl⟩ := Int.eq_ofNat_of_zero_le (show 0 ≤ op by omega)
    have hk : k < 23 := by omega
    rw [Int.toNat_natCast]
    have : ∀ k : Nat, k < 23 → 0 ≤ (rowAt k).2.2.1 ∧ (rowAt k).2.2.1 ≤ 2 ∧ 0 ≤ (rowAt k).2.2.2 ∧ (rowAt k).2.2.2 ≤ 2 := by decide +kernel
    exact this k hk
  · decide
/-- what is amiss with an instruction in a state; 0: nothing -/
def amissS (op d b : Int) : Int :=
  if d < pops op ∨ 32 < d - pops op + pushes op then 155
  else if op = 16 ∧ 0 ≤ b then 156
  else if (op = 17 ∨ op = 18 ∨ op = 19 ∨ op = 20) ∧ b < 0 then 156
  else if op = 22 ∧ 0 ≤ b then 156
  else 0
theorem ret_i64 {a b : Int} (h : a = b) : Ending.returned (.int .i64 a) = .returned (.int .i64 b) := by rw [h]
set_option maxHeartbeats 4000000 in
theorem amiss_any (op a d b : Int) (w : World) (h0 : 0 ≤ d) (h1 : d ≤ 32) :
    Calls Tryz.prog 19 #[.agg #[.int .i64 op, .int .i64 a], .agg #[.int .i64 d, .int .i64 b]] w fun e w' => e = .returned (.int .i64 (amissS op d b)) ∧ Below w.heap.size w w' := by
  obtain ⟨hp0, hp1, hq0, hq1⟩ := pops_bd op
  obtain ⟨R, hR⟩ : ∃ R, R = amissS op d b := ⟨_, rfl⟩
  rw [← hR]
  unfold amissS at hR
  have HE := Lib.hid hR
  clear hR
  have hab := about_any op
  unfold rowAgg at hab
  have HAB := Lib.hid hab
  clear hab
  generalize isOp op = io at HAB
  generalize word op = wo at HAB
  generalize takes op = tk at HAB
  generalize pops op = p at *
  generalize pushes op = q at *
  go_enter Tryz.func19, Tryz.ntmps19
  go_upto_region 2 with (go_at_call 25; go_must (refine (HAB.out _).mono ?_; rintro e w1 ⟨rfl, hb1⟩))
  refine wp_gen (fun W => W.heap[w.heap.size]? = some (.cells #[.int .i64 op, .int .i64 a] 42) ∧ W.heap[w.heap.size+1]? = some (.cells #[.int .i64 d, .int .i64 b] 51) ∧ W.heap[w1.heap.size]? = some (.cells #[.string wo, .int .i64 tk, .int .i64 p, .int .i64 q] 74) ∧ Below w.heap.size w W) ⟨?_, ?_, heap_new _ _ _ rfl, ?_⟩ ?_
  · exact (Below.heap_alloc _ _ _ (by have := hb1.size; simp at this; omega)).trans ((hb1.block _ (by simp; omega)).trans ((Below.heap_alloc _ _ _ (by simp)).trans (heap_new _ _ _ rfl)))
  · exact (Below.heap_alloc _ _ _ (by have := hb1.size; simp at this; omega)).trans ((hb1.block _ (by simp)).trans (heap_new _ _ _ (by simp)))
  · exact ((((Below.refl _ _).alloc (Nat.le_refl _) _).alloc (by simp) _).trans (hb1.mono (by simp; omega))).alloc (by have := hb1.size; simp at this; omega) _
  rintro W ⟨q0, q1, q2, hB⟩
  have c0 : W.cell? ⟨w.heap.size, 0, none⟩ = some (.int .i64 op) := cell_of_row _ _ 0 _ _ _ q0
  have d0 : W.cell? ⟨w.heap.size+1, 0, none⟩ = some (.int .i64 d) := cell_of_row _ _ 0 _ _ _ q1
  have d1 : W.cell? ⟨w.heap.size+1, 1, none⟩ = some (.int .i64 b) := cell_of_row _ _ 1 _ _ _ q1
  have r2 : W.cell? ⟨w1.heap.size, 2, none⟩ = some (.int .i64 p) := cell_of_row _ _ 2 _ _ _ q2
  have r3 : W.cell? ⟨w1.heap.size, 3, none⟩ = some (.int .i64 q) := cell_of_row _ _ 3 _ _ _ q2
  clear q0 q1 q2 hb1
  by_cases hbn : 0 ≤ b
  · go_wp2
    all_goals
      go_ret
      exact ⟨ret_i64 (by rw [HE.out]; simp [*] <;> omega), hB⟩
  · have hbn2 : b < 0 := by omega
    go_wp2
    all_goals
      go_ret
      exact ⟨ret_i64 (by rw [HE.out]; simp [*] <;> omega), hB⟩
end Go.Proofs.YtojgdabkdbchnaaGreatDoor
