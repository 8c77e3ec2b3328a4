/-
  quash/quashref15.digits: a number in decimal, every int. No condition.
-/
import Derived.Test.YtojgdabkdbchnaaGreatDoorBase
import Derived.Test.YtojgdabkdbchnaaGreatDoorCodeNum
import Derived.Lib.ItoaLen
import Derived.Lib.ItoaMem
namespace Go.Proofs.YtojgdabkdbchnaaGreatDoor
open Go.RowKit
set_option maxRecDepth 100000

theorem decDigits_step (q r : Nat) (hq : 1 ≤ q) (hr : r < 10) : Lib.decDigits (10 * q + r) = Lib.decDigits q ++ Lib.decDigits r := by
  rw [Lib.decDigits, dif_neg (by omega), show (10 * q + r) / 10 = q by omega, show (10 * q + r) % 10 = r by omega, Lib.decDigits_one hr]
theorem itoa_digit (r : Nat) : Lib.itoa (r : Int) = Lib.decDigits r := Lib.itoa_nonneg r
theorem itoa_pos_step (q r : Nat) (hq : 1 ≤ q) (hr : r < 10) : Lib.itoa ((10 * q + r : Nat) : Int) = Lib.itoa (q : Int) ++ Lib.itoa (r : Int) := by
  rw [Lib.itoa_nonneg, Lib.itoa_nonneg, Lib.itoa_nonneg, decDigits_step q r hq hr]
theorem itoa_neg_step (q r : Nat) (hq : 1 ≤ q) (hr : r < 10) : Lib.itoa (-((10 * q + r : Nat) : Int)) = Lib.itoa (-(q : Int)) ++ Lib.itoa (r : Int) := by
  rw [Lib.itoa_neg _ (by omega), Lib.itoa_neg _ hq, Lib.itoa_nonneg, decDigits_step q r hq hr]
  rfl
theorem S_size' (l : List UInt8) : (S l).size = l.length := by simp [S, ByteArray.size]
theorem S_cat (a b : List UInt8) : S a ++ S b = S (a ++ b) := by
  apply ByteArray.ext
  rw [ByteArray.data_append]
  simp [S]
theorem S_cat45 (b : List UInt8) : ({ data := #[45] } : ByteArray) ++ S b = S (45 :: b) := S_cat [45] b
theorem wrap64_eq {n : Int} (h1 : -9223372036854775808 ≤ n) (h2 : n ≤ 9223372036854775807) : wrap64 n = n := by
  unfold wrap64
  omega
theorem ret_str {a b : ByteArray} (h : a = b) : Ending.returned (.string a) = .returned (.string b) := by rw [h]
set_option maxHeartbeats 4000000 in
theorem digits_small (n : Int) (w : World) (h0 : 0 ≤ n) (h1 : n < 10) : Calls Tryz.prog 32 #[.int .i64 n] w fun e w' => e = .returned (.string (S (Lib.itoa n))) ∧ w = w' := by
  obtain h | h | h | h | h | h | h | h | h | h : n = 0 ∨ n = 1 ∨ n = 2 ∨ n = 3 ∨ n = 4 ∨ n = 5 ∨ n = 6 ∨ n = 7 ∨ n = 8 ∨ n = 9 := by omega
  all_goals
    subst h
    clear h0 h1
    go_enter Tryz.func32, Tryz.ntmps32
    go_wp2
    go_ret
    exact ⟨ret_str (by kernel_rfl), rfl⟩
theorem digits_any : ∀ (m : Nat) (n : Int), 2 * n.natAbs + (if n < 0 then 1 else 0) = m → -9223372036854775808 ≤ n → n ≤ 9223372036854775807 → ∀ w, Calls Tryz.prog 32 #[.int .i64 n] w fun e w' => e = .returned (.string (S (Lib.itoa n))) ∧ w = w' := by
  intro m
  induction m using Nat.strongRecOn with
  | ind m ih =>
    intro n hm hlo hhi w
    by_cases h0 : 0 ≤ n
    · by_cases h1 : n < 10
      · exact digits_small n w h0 h1
      · obtain ⟨q, r, hn, hq, hr⟩ : ∃ q r : Nat, n = ((10 * q + r : Nat) : Int) ∧ 1 ≤ q ∧ r < 10 := ⟨n.toNat / 10, n.toNat % 10, by omega, by omega, by omega⟩
        have d1 : n / 10 = (q : Int) := by omega
        have d2 : n % 10 = (r : Int) := by omega
        have i1 := fun w => Lib.hid (ih (2 * q) (by omega) (q : Int) (by rw [if_neg (by omega)]; omega) (by omega) (by omega) w)
        have i2 := fun w => Lib.hid (ih (2 * r) (by omega) (r : Int) (by rw [if_neg (by omega)]; omega) (by omega) (by omega) w)
        have HE := Lib.hid (show S (Lib.itoa (q : Int)) ++ S (Lib.itoa (r : Int)) = S (Lib.itoa n) by rw [S_cat, hn, itoa_pos_step q r hq hr])
        have l1 := Lib.itoa_length_le (q : Int) (by omega) (by omega)
        have l2 := Lib.itoa_length_le (r : Int) (by omega) (by omega)
        have hsz : ¬ 9223372036854775807 < (S (Lib.itoa (q : Int))).size + (S (Lib.itoa (r : Int))).size := by rw [S_size', S_size']; omega
        clear hn hm ih
        go_enter Tryz.func32, Tryz.ntmps32
        go_wp2_with (first | (go_at_call_of 32 (Value.int .i64 (q : Int)); refine (i1 _).out.mono ?_; rintro e w1 ⟨rfl, rfl⟩) | (go_at_call 32; refine (i2 _).out.mono ?_; rintro e w1 ⟨rfl, rfl⟩))
        go_ret
        exact ⟨ret_str HE.out, rfl⟩
    · by_cases h1 : -10 < n
      · have hab : (-n).natAbs = n.natAbs := Int.natAbs_neg n
        have hm2 : 2 * n.natAbs + 1 = m := by rw [if_pos (by omega)] at hm; exact hm
        have i1 := fun w => Lib.hid (ih (2 * (-n).natAbs) (by omega) (-n) (by rw [if_neg (by omega)]; omega) (by omega) (by omega) w)
        have HE := Lib.hid (show ({ data := #[45] } : ByteArray) ++ S (Lib.itoa (-n)) = S (Lib.itoa n) by
          obtain ⟨u, hu⟩ : ∃ u : Nat, n = -(u : Int) := ⟨n.natAbs, by omega⟩
          subst hu
          rw [S_cat45, Int.neg_neg, Lib.itoa_nonneg, Lib.itoa_neg u (by omega)])
        have l1 := Lib.itoa_length_le (-n) (by omega) (by omega)
        have hsz : ¬ 9223372036854775807 < 1 + (S (Lib.itoa (-n))).size := by rw [S_size']; omega
        have hn0 : n < 0 := by omega
        have hg0 : ¬ 0 ≤ n := h0
        clear hm hm2 hab ih h0
        go_enter Tryz.func32, Tryz.ntmps32
        go_wp2_with (go_at_call 32; refine (i1 _).out.mono ?_; rintro e w1 ⟨rfl, rfl⟩)
        go_ret
        exact ⟨ret_str HE.out, rfl⟩
      · obtain ⟨q, r, hn, hq, hr⟩ : ∃ q r : Nat, n = -((10 * q + r : Nat) : Int) ∧ 1 ≤ q ∧ r < 10 := ⟨n.natAbs / 10, n.natAbs % 10, by omega, by omega, by omega⟩
        have d1 : n.tdiv 10 = -(q : Int) := by
          rw [hn, Int.neg_tdiv, Int.tdiv_eq_ediv_of_nonneg (by omega)]; omega
        have d2 : n.tmod 10 = -(r : Int) := by
          rw [hn, Int.neg_tmod, Int.tmod_eq_emod_of_nonneg (by omega)]; omega
        have hn0 : n < 0 := by omega
        have hg0 : ¬ 0 ≤ n := h0
        have hwq : wrap64 (-(q : Int)) = -(q : Int) := wrap64_eq (by omega) (by omega)
        have i1 := fun w => Lib.hid (ih (2 * q + 1) (by omega) (-(q : Int)) (by rw [if_pos (by omega)]; omega) (by omega) (by omega) w)
        have i2 := fun w => Lib.hid (ih (2 * r) (by omega) (r : Int) (by rw [if_neg (by omega)]; omega) (by omega) (by omega) w)
        have HE := Lib.hid (show S (Lib.itoa (-(q : Int))) ++ S (Lib.itoa (r : Int)) = S (Lib.itoa n) by rw [S_cat, hn, itoa_neg_step q r hq hr])
        have l1 := Lib.itoa_length_le (-(q : Int)) (by omega) (by omega)
        have l2 := Lib.itoa_length_le (r : Int) (by omega) (by omega)
        have hsz : ¬ 9223372036854775807 < (S (Lib.itoa (-(q : Int)))).size + (S (Lib.itoa (r : Int))).size := by rw [S_size', S_size']; omega
        clear hn hm ih h0
        rcases Nat.eq_zero_or_pos r with hr0 | hr0
        · subst hr0
          go_enter Tryz.func32, Tryz.ntmps32
          go_wp2_with (first | (go_at_call_of 32 (Value.int .i64 (-(q : Int))); refine (i1 _).out.mono ?_; rintro e w1 ⟨rfl, rfl⟩) | (go_at_call 32; refine (i2 _).out.mono ?_; rintro e w1 ⟨rfl, rfl⟩))
          go_ret
          exact ⟨ret_str HE.out, rfl⟩
        · have hr1 : -(r : Int) < 0 := by omega
          go_enter Tryz.func32, Tryz.ntmps32
          go_wp2_with (first | (go_at_call_of 32 (Value.int .i64 (-(q : Int))); refine (i1 _).out.mono ?_; rintro e w1 ⟨rfl, rfl⟩) | (go_at_call 32; refine (i2 _).out.mono ?_; rintro e w1 ⟨rfl, rfl⟩))
          go_ret
          exact ⟨ret_str HE.out, rfl⟩
end Go.Proofs.YtojgdabkdbchnaaGreatDoor
