/-
  Name, Takes, may, opOf, isName: for every argument. No condition.
-/
import Derived.Test.YtoiokbdipcecnaaGreatDoorCodeTab
namespace Go.Proofs.YtoiokbdipcecnaaGreatDoor
open Go.RowKit
set_option maxRecDepth 100000

theorem Name_any (n : Int) (w : World) :
    Calls Tryz.prog 150 #[.int .i64 n] w fun e w' => e = .returned (.string (word n)) ∧ Below w.heap.size w w' := by
  go_enter Tryz.func150, Tryz.ntmps150
  go_wp2_with (go_at_call 35; refine (about_any _ _).mono ?_; rintro e w1 ⟨rfl, hb⟩; simp only [rowAgg])
  go_ret
  exact ⟨rfl, hb.alloc hb.size _⟩
theorem Takes_any (n : Int) (w : World) :
    Calls Tryz.prog 81 #[.int .i64 n] w fun e w' => e = .returned (.int .i64 (takes n)) ∧ Below w.heap.size w w' := by
  go_enter Tryz.func81, Tryz.ntmps81
  go_wp2_with (go_at_call 35; refine (about_any _ _).mono ?_; rintro e w1 ⟨rfl, hb⟩; simp only [rowAgg])
  go_ret
  exact ⟨rfl, hb.alloc hb.size _⟩

/-- may an operand be, in a program of n instructions? -/
def mayB (t a n : Int) : Bool := if t = 1 then true else if t = 2 then decide (0 ≤ a ∧ a < 8) else if t = 3 then decide (0 ≤ a ∧ a ≤ n) else a == 0
theorem may_any (t a n : Int) (w : World) :
    Calls Tryz.prog 36 #[.int .i64 t, .int .i64 a, .int .i64 n] w fun e w' => e = .returned (.bool (mayB t a n)) ∧ w = w' := by
  by_cases h1 : t = 1
  · subst h1
    go_enter Tryz.func36, Tryz.ntmps36
    go_wp2
    go_ret
    exact ⟨by simp [mayB], rfl⟩
  by_cases h2 : t = 2
  · subst h2
    go_enter Tryz.func36, Tryz.ntmps36
    go_wp2
    all_goals go_ret
    all_goals refine ⟨?_, rfl⟩
    all_goals simp [mayB]
    all_goals omega
  by_cases h3 : t = 3
  · subst h3
    go_enter Tryz.func36, Tryz.ntmps36
    go_wp2
    all_goals go_ret
    all_goals refine ⟨?_, rfl⟩
    all_goals simp [mayB]
    all_goals omega
  · have e1 : (t == 1) = false := by simpa using h1
    have e2 : (t == 2) = false := by simpa using h2
    have e3 : (t == 3) = false := by simpa using h3
    go_enter Tryz.func36, Tryz.ntmps36
    go_wp2
    all_goals go_ret
    all_goals refine ⟨?_, rfl⟩
    all_goals simp [mayB, h1, h2, h3]

/-- the Op of a word; 0: none -/
def opOfN (s : ByteArray) : Nat → Int → Int
  | 0, _ => 0
  | n + 1, op => if (word op).toList == s.toList then op else opOfN s n (op + 1)
def opOfB (s : ByteArray) : Int := opOfN s 22 1
theorem opOf_any (s : ByteArray) (w : World) :
    Calls Tryz.prog 132 #[.string s] w fun e w' => e = .returned (.int .i64 (opOfB s)) ∧ Below w.heap.size w w' := by
  go_enter Tryz.func132, Tryz.ntmps132
  go_wp2
  go_loopw [3] (fun v wr => ∃ k : Nat, k ≤ 22 ∧ v = .int .i64 ((k : Int) + 1) ∧ opOfN s (22 - k) ((k : Int) + 1) = opOfB s ∧ Below w.heap.size w wr) (fun v _ => 23 - (intOf v).toNat)
  case atStart => exact ⟨0, by omega, rfl, rfl, Below.refl _ _⟩
  case round =>
    obtain ⟨k, hk, rfl, hsp, hbr⟩ := hrel
    have HS := Lib.hid hsp
    clear hsp
    by_cases hlt : k < 22
    · go_wp2_with (go_at_call 150; refine (Name_any _ _).mono ?_; rintro e w1 ⟨rfl, hb⟩)
      · go_ret
        have h : ((word (↑k + 1)).toList == s.toList) = true := by assumption
        refine ⟨?_, hbr.trans (hb.mono hbr.size)⟩
        rw [← HS.out]
        obtain ⟨m, hm⟩ : ∃ m, 22 - k = m + 1 := ⟨21 - k, by omega⟩
        rw [hm]
        simp only [opOfN, h, if_true]
        rfl
      · have h : ((word (↑k + 1)).toList == s.toList) = false := by assumption
        go_roundw
        case rel =>
          refine ⟨k + 1, by omega, by go_num, ?_, hbr.trans (hb.mono hbr.size)⟩
          rw [← HS.out]
          obtain ⟨m, hm⟩ : ∃ m, 22 - k = m + 1 := ⟨21 - k, by omega⟩
          rw [hm, show 22 - (k + 1) = m by omega]
          simp only [opOfN, h]
          simp
        case measure => simp [intOf]; omega
    · go_wp2
      go_ret
      obtain rfl : k = 22 := by omega
      exact ⟨by rw [← HS.out]; rfl, hbr⟩
end Go.Proofs.YtoiokbdipcecnaaGreatDoor
