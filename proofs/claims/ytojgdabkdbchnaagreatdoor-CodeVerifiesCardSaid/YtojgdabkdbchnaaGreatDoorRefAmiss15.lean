/-
  quash/quashref15.Pops, Pushes, at, amiss: every call. No condition.
-/
import Derived.Test.YtojgdabkdbchnaaGreatDoorRefSmall15
import Derived.Test.YtojgdabkdbchnaaGreatDoorCodeAmiss
namespace Go.Proofs.YtojgdabkdbchnaaGreatDoor
open Go.RowKit
set_option maxRecDepth 100000

theorem pops_row : ∀ k, k < 23 → (rowAt k).2.2.1 = (if k = 2 ∨ k = 3 ∨ k = 6 ∨ k = 13 ∨ k = 15 ∨ k = 17 ∨ k = 21 then 1 else if k = 4 ∨ k = 7 ∨ k = 8 ∨ k = 9 ∨ k = 10 ∨ k = 11 ∨ k = 12 ∨ k = 18 then 2 else 0 : Int) := by decide
theorem pops_eq (n : Int) : pops n = if n = 2 ∨ n = 3 ∨ n = 6 ∨ n = 13 ∨ n = 15 ∨ n = 17 ∨ n = 21 then 1 else if n = 4 ∨ n = 7 ∨ n = 8 ∨ n = 9 ∨ n = 10 ∨ n = 11 ∨ n = 12 ∨ n = 18 then 2 else 0 := by
  unfold pops
  by_cases h : 1 ≤ n ∧ n < 23
  · obtain ⟨k, rfl⟩ := Int.eq_ofNat_of_zero_le (show 0 ≤ n by omega)
    rw [opRow_in (by omega) (by omega), pops_row k (by omega)]
    by_cases a1 : k = 2 ∨ k = 3 ∨ k = 6 ∨ k = 13 ∨ k = 15 ∨ k = 17 ∨ k = 21
    · rw [if_pos a1, if_pos (by omega)]
    by_cases a2 : k = 4 ∨ k = 7 ∨ k = 8 ∨ k = 9 ∨ k = 10 ∨ k = 11 ∨ k = 12 ∨ k = 18
    · rw [if_neg a1, if_pos a2, if_neg (by omega), if_pos (by omega)]
    · rw [if_neg a1, if_neg a2, if_neg (by omega), if_neg (by omega)]
  · rw [opRow_out (by omega), if_neg (by omega), if_neg (by omega)]
    rfl
theorem refPops_any (n : Int) (w : World) : Calls Tryz.prog 47 #[.int .i64 n] w fun e w' => e = .returned (.int .i64 (pops n)) ∧ w = w' := by
  by_cases hin : n = 2 ∨ n = 3 ∨ n = 6 ∨ n = 13 ∨ n = 15 ∨ n = 17 ∨ n = 21 ∨ n = 4 ∨ n = 7 ∨ n = 8 ∨ n = 9 ∨ n = 10 ∨ n = 11 ∨ n = 12 ∨ n = 18
  · obtain h | h | h | h | h | h | h | h | h | h | h | h | h | h | h := hin
    all_goals
      subst h
      go_enter Tryz.func47, Tryz.ntmps47
      go_wp2
      go_ret
      exact ⟨ret_i64' (by rw [pops_eq]; decide), rfl⟩
  · have e : pops n = 0 := by rw [pops_eq, if_neg (by omega), if_neg (by omega)]
    rw [e]
    clear e
    have k2 : (n == 2) = false := by simp; omega
    have k3 : (n == 3) = false := by simp; omega
    have k4 : (n == 4) = false := by simp; omega
    have k6 : (n == 6) = false := by simp; omega
    have k7 : (n == 7) = false := by simp; omega
    have k8 : (n == 8) = false := by simp; omega
    have k9 : (n == 9) = false := by simp; omega
    have k10 : (n == 10) = false := by simp; omega
    have k11 : (n == 11) = false := by simp; omega
    have k12 : (n == 12) = false := by simp; omega
    have k13 : (n == 13) = false := by simp; omega
    have k15 : (n == 15) = false := by simp; omega
    have k17 : (n == 17) = false := by simp; omega
    have k18 : (n == 18) = false := by simp; omega
    have k21 : (n == 21) = false := by simp; omega
    clear hin
    go_enter Tryz.func47, Tryz.ntmps47
    go_wp2
    go_ret
    exact ⟨rfl, rfl⟩
theorem pushes_row : ∀ k, k < 23 → (rowAt k).2.2.2 = (if k = 1 ∨ k = 5 ∨ k = 7 ∨ k = 8 ∨ k = 9 ∨ k = 10 ∨ k = 11 ∨ k = 12 ∨ k = 13 ∨ k = 17 then 1 else if k = 3 ∨ k = 4 then 2 else 0 : Int) := by decide
theorem pushes_eq (n : Int) : pushes n = if n = 1 ∨ n = 5 ∨ n = 7 ∨ n = 8 ∨ n = 9 ∨ n = 10 ∨ n = 11 ∨ n = 12 ∨ n = 13 ∨ n = 17 then 1 else if n = 3 ∨ n = 4 then 2 else 0 := by
  unfold pushes
  by_cases h : 1 ≤ n ∧ n < 23
  · obtain ⟨k, rfl⟩ := Int.eq_ofNat_of_zero_le (show 0 ≤ n by omega)
    rw [opRow_in (by omega) (by omega), pushes_row k (by omega)]
    by_cases a1 : k = 1 ∨ k = 5 ∨ k = 7 ∨ k = 8 ∨ k = 9 ∨ k = 10 ∨ k = 11 ∨ k = 12 ∨ k = 13 ∨ k = 17
    · rw [if_pos a1, if_pos (by omega)]
    by_cases a2 : k = 3 ∨ k = 4
    · rw [if_neg a1, if_pos a2, if_neg (by omega), if_pos (by omega)]
    · rw [if_neg a1, if_neg a2, if_neg (by omega), if_neg (by omega)]
  · rw [opRow_out (by omega), if_neg (by omega), if_neg (by omega)]
    rfl
theorem refPushes_any (n : Int) (w : World) : Calls Tryz.prog 48 #[.int .i64 n] w fun e w' => e = .returned (.int .i64 (pushes n)) ∧ w = w' := by
  by_cases hin : n = 1 ∨ n = 5 ∨ n = 7 ∨ n = 8 ∨ n = 9 ∨ n = 10 ∨ n = 11 ∨ n = 12 ∨ n = 13 ∨ n = 17 ∨ n = 3 ∨ n = 4
  · obtain h | h | h | h | h | h | h | h | h | h | h | h := hin
    all_goals
      subst h
      go_enter Tryz.func48, Tryz.ntmps48
      go_wp2
      go_ret
      exact ⟨ret_i64' (by rw [pushes_eq]; decide), rfl⟩
  · have e : pushes n = 0 := by rw [pushes_eq, if_neg (by omega), if_neg (by omega)]
    rw [e]
    clear e
    have k1 : (n == 1) = false := by simp; omega
    have k3 : (n == 3) = false := by simp; omega
    have k4 : (n == 4) = false := by simp; omega
    have k5 : (n == 5) = false := by simp; omega
    have k7 : (n == 7) = false := by simp; omega
    have k8 : (n == 8) = false := by simp; omega
    have k9 : (n == 9) = false := by simp; omega
    have k10 : (n == 10) = false := by simp; omega
    have k11 : (n == 11) = false := by simp; omega
    have k12 : (n == 12) = false := by simp; omega
    have k13 : (n == 13) = false := by simp; omega
    have k17 : (n == 17) = false := by simp; omega
    clear hin
    go_enter Tryz.func48, Tryz.ntmps48
    go_wp2
    go_ret
    exact ⟨rfl, rfl⟩
theorem refAt_any (a d b : Int) (w : World) (h1 : 0 ≤ a) (h2 : a ≤ 1000000) (h3 : 0 ≤ d) (h4 : d ≤ 100) (h5 : 0 ≤ b) (h6 : b ≤ 100) :
    Calls Tryz.prog 46 #[.int .i64 a, .int .i64 d, .int .i64 b] w fun e w' => e = .returned (.int .i64 ((a * 33 + d) * 34 + b)) ∧ w = w' := by
  go_enter Tryz.func46, Tryz.ntmps46
  go_wp2
  go_ret
  exact ⟨rfl, rfl⟩
set_option maxHeartbeats 4000000 in
theorem refAmiss_any (op d b : Int) (w : World) (h0 : 0 ≤ d) (h1 : d ≤ 32) (hb : 0 ≤ b) :
    Calls Tryz.prog 23 #[.int .i64 op, .int .i64 d, .int .i64 b] w fun e w' => e = .returned (.int .i64 (amissS op d (b - 1))) ∧ w = w' := by
  obtain ⟨hp0, hp1, hq0, hq1⟩ := pops_bd op
  obtain ⟨R, hR⟩ : ∃ R, R = amissS op d (b - 1) := ⟨_, rfl⟩
  rw [← hR]
  unfold amissS at hR
  have HE := Lib.hid hR
  clear hR
  have HP := fun w => Lib.hid (refPops_any op w)
  have HQ := fun w => Lib.hid (refPushes_any op w)
  generalize pops op = p at *
  generalize pushes op = q at *
  by_cases e1 : d < p
  · have hr : R = 155 := by rw [HE.out, if_pos (.inl e1)]
    subst hr
    clear HE
    go_enter Tryz.func23, Tryz.ntmps23
    go_wp2_with (first | (go_at_call 47; refine (HP _).out.mono ?_; rintro e w1 ⟨rfl, rfl⟩) | (go_at_call 48; refine (HQ _).out.mono ?_; rintro e w1 ⟨rfl, rfl⟩))
    go_ret
    exact ⟨rfl, rfl⟩
  by_cases e2 : 32 < d - p + q
  · have hr : R = 155 := by rw [HE.out, if_pos (.inr e2)]
    subst hr
    clear HE
    go_enter Tryz.func23, Tryz.ntmps23
    go_wp2_with (first | (go_at_call 47; refine (HP _).out.mono ?_; rintro e w1 ⟨rfl, rfl⟩) | (go_at_call 48; refine (HQ _).out.mono ?_; rintro e w1 ⟨rfl, rfl⟩))
    go_ret
    exact ⟨rfl, rfl⟩
  have hr := HE.out
  rw [if_neg (by omega)] at hr
  have HR := Lib.hid hr
  clear HE hr
  by_cases hb1 : 0 < b
  · have hb2 : (b == 0) = false := by simp; omega
    go_enter Tryz.func23, Tryz.ntmps23
    go_wp2_with (first | (go_at_call 47; refine (HP _).out.mono ?_; rintro e w1 ⟨rfl, rfl⟩) | (go_at_call 48; refine (HQ _).out.mono ?_; rintro e w1 ⟨rfl, rfl⟩))
    all_goals
      go_ret
      exact ⟨ret_i64' (by rw [HR.out]; simp [*] <;> omega), rfl⟩
  · obtain rfl : b = 0 := by omega
    go_enter Tryz.func23, Tryz.ntmps23
    go_wp2_with (first | (go_at_call 47; refine (HP _).out.mono ?_; rintro e w1 ⟨rfl, rfl⟩) | (go_at_call 48; refine (HQ _).out.mono ?_; rintro e w1 ⟨rfl, rfl⟩))
    all_goals
      go_ret
      exact ⟨ret_i64' (by rw [HR.out]; simp [*] <;> omega), rfl⟩
end Go.Proofs.YtojgdabkdbchnaaGreatDoor
