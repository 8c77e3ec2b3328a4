/-
  SCHED: the step of Play (quash/sched.Play$1), alone. No condition.
-/
import Derived.Test.YtaiinkeendejdaaSchSmall
namespace Go.Proofs.Ytaiinkeendejdaa
open Go.RowKit
set_option maxRecDepth 100000
set_option maxHeartbeats 1000000 in
theorem play1_end {av pv ab qb qo qc n t st L lc : Nat} {la : Option Addr} {w : World} (ht : t < n) (hn : n ≤ 8) (hL : L ≤ st) (_hst : st ≤ maxLen)
    (c1 : w.cell? ⟨av, 0, none⟩ = some (.slice (some ⟨ab, 0, none⟩) n n)) (c2 : w.cell? ⟨pv, 0, none⟩ = some (.slice (some ⟨qb, qo, none⟩) n qc)) (c3 : w.cell? ⟨ab, t, none⟩ = some (.int .i64 (st : Nat))) (c4 : w.cell? ⟨qb, qo + t, none⟩ = some (.slice la L lc)) :
    Calls Try.prog 23 #[.int .i64 ((t : Nat) + 1), .pointer (some ⟨av, 0, none⟩), .pointer (some ⟨pv, 0, none⟩)] w fun e w' => e = .returned (.int .i64 4) ∧ w'.heap = w.heap := by
  unfold maxLen at _hst
  have w1 : IntKind.i64.wrap ((t : Int) + 1 - 1) = (t : Int) := by rw [IntKind.wrap_i64]; omega
  have hlo : (0 : Int) ≤ (t : Int) := by omega
  have hhi : (t : Int) < (n : Int) := by omega
  have hge : decide ((L : Int) ≤ (st : Int)) = true := by simp; omega
  have hge2 : decide (L ≤ st) = true := by simp; omega
  go_enter Try.func23, Try.ntmps23
  go_wp2
  go_quiet (fail)
  go_wp2
  go_ret
  exact ⟨rfl, rfl⟩
set_option maxHeartbeats 1000000 in
theorem play1_go {av pv ab qb qo qc n t st L lc lb lo : Nat} {x : Int} {w : World} (ht : t < n) (hn : n ≤ 8) (hL : st < L) (hLm : L ≤ maxLen) (hne : ab ≠ av ∧ ab ≠ pv ∧ ab ≠ qb ∧ ab ≠ lb)
    (c1 : w.cell? ⟨av, 0, none⟩ = some (.slice (some ⟨ab, 0, none⟩) n n)) (c2 : w.cell? ⟨pv, 0, none⟩ = some (.slice (some ⟨qb, qo, none⟩) n qc)) (c3 : w.cell? ⟨ab, t, none⟩ = some (.int .i64 (st : Nat))) (c4 : w.cell? ⟨qb, qo + t, none⟩ = some (.slice (some ⟨lb, lo, none⟩) L lc))
    (c5 : w.cell? ⟨lb, lo + st, none⟩ = some (.int .i64 x)) (hfz : w.frozen? ⟨ab, t, none⟩ = false) :
    Calls Try.prog 23 #[.int .i64 ((t : Nat) + 1), .pointer (some ⟨av, 0, none⟩), .pointer (some ⟨pv, 0, none⟩)] w fun e w' => e = .returned (.int .i64 x) ∧ w'.heap = (w.setCell ⟨ab, t, none⟩ (.int .i64 ((st : Nat) + 1))).heap := by
  unfold maxLen at hLm
  have w1 : IntKind.i64.wrap ((t : Int) + 1 - 1) = (t : Int) := by rw [IntKind.wrap_i64]; omega
  have w2 : IntKind.i64.wrap ((st : Int) + 1) = (st : Int) + 1 := by rw [IntKind.wrap_i64]; omega
  have w3 : IntKind.i64.wrap ((st : Int) + 1 - 1) = (st : Int) := by rw [IntKind.wrap_i64]; omega
  have hlo : (0 : Int) ≤ (t : Int) := by omega
  have hhi : (t : Int) < (n : Int) := by omega
  have hlo2 : (0 : Int) ≤ (st : Int) := by omega
  have hhi2 : (st : Int) < (L : Int) := by omega
  have hge : decide ((L : Int) ≤ (st : Int)) = false := by simp; omega
  have hge2 : decide (L ≤ st) = false := by simp; omega
  obtain ⟨n1, n2, n3, n4⟩ := hne
  go_enter Try.func23, Try.ntmps23
  go_wp2
  go_quiet (fail)
  go_wp2
  have d1 : (w.setCell ⟨ab, t, none⟩ (.int .i64 ((st : Nat) + 1))).cell? ⟨av, 0, none⟩ = some (.slice (some ⟨ab, 0, none⟩) n n) := (World.cell?_setCell_other _ _ _ _ (by simp)).trans c1
  have d2 : (w.setCell ⟨ab, t, none⟩ (.int .i64 ((st : Nat) + 1))).cell? ⟨pv, 0, none⟩ = some (.slice (some ⟨qb, qo, none⟩) n qc) := (World.cell?_setCell_other _ _ _ _ (by simp)).trans c2
  have d3 : (w.setCell ⟨ab, t, none⟩ (.int .i64 ((st : Nat) + 1))).cell? ⟨ab, t, none⟩ = some (.int .i64 ((st : Nat) + 1)) := World.cell?_setCell_same _ _ _ c3
  have d4 : (w.setCell ⟨ab, t, none⟩ (.int .i64 ((st : Nat) + 1))).cell? ⟨qb, qo + t, none⟩ = some (.slice (some ⟨lb, lo, none⟩) L lc) := (World.cell?_setCell_other _ _ _ _ (by simp)).trans c4
  have d5 : (w.setCell ⟨ab, t, none⟩ (.int .i64 ((st : Nat) + 1))).cell? ⟨lb, lo + st, none⟩ = some (.int .i64 x) := (World.cell?_setCell_other _ _ _ _ (by simp)).trans c5
  go_quiet (fail)
  go_wp2
  go_ret
  exact ⟨rfl, rfl⟩
end Go.Proofs.Ytaiinkeendejdaa
