/-
  quash/quashref17.Room, May, Do: every call. No condition.
-/
import Derived.Test.YtcobmefgefkdmaaGreatDoorBankDo
import Derived.Test.YtcobmefgefkdmaaGreatDoorSees
import Derived.Laws.CopyOwn
import Derived.Laws.OwnMore
import Derived.StillTailTactics
namespace Go.Proofs.YtcobmefgefkdmaaGreatDoor
open Go.RowKit
set_option maxRecDepth 100000

theorem refRoom_any (n : Int) (w : World) : Calls Tryz.prog 15 #[.int .i64 n] w fun e w' => e = .returned (.int .i64 (roomI n)) ∧ w' = w := by
  by_cases h1 : n < 1
  · have hr : roomI n = 0 := by simp [roomI]; omega
    rw [hr]
    go_enter Tryz.func15, Tryz.ntmps15
    go_wp2
    go_ret
    exact ⟨rfl, rfl⟩
  · by_cases h2 : 64 < n
    · have hr : roomI n = 0 := by simp [roomI]; omega
      rw [hr]
      go_enter Tryz.func15, Tryz.ntmps15
      go_wp2
      go_ret
      exact ⟨rfl, rfl⟩
    · have hr : roomI n = n := by simp [roomI]; omega
      rw [hr]
      go_enter Tryz.func15, Tryz.ntmps15
      go_wp2
      go_ret
      exact ⟨rfl, rfl⟩
theorem ret_bool {a b : Bool} (h : a = b) : Ending.returned (.bool a) = .returned (.bool b) := by rw [h]
set_option maxHeartbeats 4000000 in
theorem May_any (n op a b x y : Int) (w : World) : Calls Tryz.prog 18 #[.int .i64 n, deedV op a b x y] w fun e w' => e = .returned (.bool (ofB n op a b x y)) ∧ Below w.heap.size w w' := by
  unfold deedV
  by_cases hy : y = 0
  case neg =>
    have e : ofB n op a b x y = false := by simp [ofB, hy]
    rw [e]
    clear e
    have hy2 : (y != 0) = true := by simpa using hy
    go_enter Tryz.func18, Tryz.ntmps18
    go_wp2
    all_goals
      go_ret
      exact ⟨rfl, (Below.refl _ _).alloc (Nat.le_refl _) _⟩
  subst hy
  obtain ho | ho | ho | ho | ho | ho : op = 1 ∨ op = 2 ∨ op = 3 ∨ op = 4 ∨ op = 5 ∨ (op < 1 ∨ 5 < op) := by omega
  case inr.inr.inr.inr.inr =>
    have e : ofB n op a b x 0 = false := by simp [ofB]; omega
    rw [e]
    clear e
    have h1 : (op == 1) = false := by simp; omega
    have h2 : (op == 2) = false := by simp; omega
    have h3 : (op == 3) = false := by simp; omega
    have h4 : (op == 4) = false := by simp; omega
    have h5 : (op == 5) = false := by simp; omega
    clear ho
    go_enter Tryz.func18, Tryz.ntmps18
    go_wp2
    all_goals
      go_ret
      exact ⟨rfl, (Below.refl _ _).alloc (Nat.le_refl _) _⟩
  all_goals
    subst ho
    go_enter Tryz.func18, Tryz.ntmps18
    go_wp2
    all_goals
      go_ret
      exact ⟨ret_bool (by simp [ofB, rightB, kA, kB, kX, *] <;> first | omega | (intros; omega) | (rw [Bool.eq_iff_iff]; simp; omega) | (rw [Bool.eq_iff_iff]; simp) | trace_state), (Below.refl _ _).alloc (Nat.le_refl _) _⟩
end Go.Proofs.YtcobmefgefkdmaaGreatDoor
