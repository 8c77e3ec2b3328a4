/-
  quashlaw18.formed at a program of the right form. No condition.
-/
import Derived.Test.YtkioddgolmaaeaaGreatDoorSetCode
import Derived.Test.YtkioddgolmaaeaaGreatDoorCodeCheck
namespace Go.Proofs.YtkioddgolmaaeaaGreatDoor
open Go.RowKit
set_option maxRecDepth 100000

def formedFrom : List (Int × Int) → Nat → Nat → Option (Nat × Nat)
  | [], b, c => some (b, c)
  | x :: r, b, c => if x.1 = 16 then formedFrom r (b + 1) c else if x.1 = 19 then formedFrom r b (c + 1) else if x.1 = 20 then none else if x.1 = 22 then none else formedFrom r b c
def formedL (l : List (Int × Int)) : Bool := formedFrom l 0 0 == some (1, 1) && decide (1 < l.length) && decide (l.length ≤ 100) && decide ((l.getD 0 (0, 0)).1 = 16) && decide ((l.getD (l.length - 1) (0, 0)).1 = 19)
set_option maxHeartbeats 2000000 in
theorem formed_yes (ao : Option Addr) (c : Nat) (l : List (Int × Int)) (w : World) (hs : SeesP w ao l) (hf : formedL l = true) :
    Calls Tryz.prog 25 #[.slice ao l.length c] w fun e w' => e = .returned (.bool true) ∧ w' = w := by
  simp only [formedL, Bool.and_eq_true, decide_eq_true_eq, beq_iff_eq] at hf
  obtain ⟨⟨⟨⟨hf, h1⟩, h2⟩, h3⟩, h4⟩ := hf
  obtain ⟨b, o, hao, hc⟩ := hs
  obtain rfl := hao (by intro e; subst e; simp at h1)
  obtain ⟨x0, hx0⟩ : ∃ x, l[0]? = some x := ⟨_, List.getElem?_eq_getElem (by omega)⟩
  obtain ⟨x1, hx1⟩ : ∃ x, l[l.length - 1]? = some x := ⟨_, List.getElem?_eq_getElem (by omega)⟩
  rw [List.getD_eq_getElem?_getD, hx0] at h3
  rw [List.getD_eq_getElem?_getD, hx1] at h4
  simp only [Option.getD_some] at h3 h4
  have d0 := (hc 0 _ hx0).1
  have d1 := (hc _ _ hx1).1
  rw [h3, Nat.zero_mul, Nat.add_zero] at d0
  rw [h4] at d1
  obtain ⟨N, hN⟩ : ∃ N, N = l.length := ⟨_, rfl⟩
  have HN := Lib.hid hN
  have HC := Lib.hid hc
  have HF := Lib.hid hf
  rw [← hN] at h1 h2 d1
  rw [← hN]
  clear hN hc hf hao hx0 hx1 h3 h4
  have i0 : (0 : Int) < (N : Int) := by omega
  have i1 : (0 : Int) ≤ (N : Int) - 1 := by omega
  have i2 : (N : Int) - 1 < (N : Int) := by omega
  have i3 : ((N : Int) - 1).toNat = N - 1 := by omega
  have i4 : (1 : Int) < (N : Int) := by omega
  have i5 : (N : Int) ≤ 100 := by omega
  go_enter Tryz.func25, Tryz.ntmps25
  go_wp2
  go_loopw [3, 4, 5] (fun p q u wr => ∃ (k bb cc : Nat), k ≤ N ∧ u = .int .i64 k ∧ p = .int .i64 bb ∧ q = .int .i64 cc ∧ bb ≤ k ∧ cc ≤ k ∧ formedFrom (l.drop k) bb cc = some (1, 1) ∧ wr = w) (fun _ _ u _ => N - (intOf u).toNat)
  case atStart => exact ⟨0, 0, 0, Nat.zero_le _, rfl, rfl, rfl, Nat.le_refl _, Nat.le_refl _, HF.out, rfl⟩
  case round =>
    obtain ⟨k, bb, cc, hk, rfl, rfl, rfl, hb1, hc1, hF, rfl⟩ := hrel
    by_cases hlt : k < N
    · obtain ⟨⟨op, a⟩, hx⟩ : ∃ x, l[k]? = some x := ⟨_, List.getElem?_eq_getElem (by rw [← HN.out]; exact hlt)⟩
      have hdr : l.drop k = (op, a) :: l.drop (k + 1) := by
        rw [List.drop_eq_getElem_cons (by rw [← HN.out]; exact hlt)]
        congr 1
        exact (List.getElem?_eq_some_iff.1 hx).2
      have c0 := (HC.out k _ hx).1
      simp only at c0
      rw [hdr, formedFrom] at hF
      simp only at hF
      clear hdr hx d0 d1
      have hi0 : (0 : Int) ≤ (k : Int) := by omega
      have hi1 : (k : Int) < (N : Int) := by omega
      by_cases e16 : op = 16
      · subst e16
        rw [if_pos rfl] at hF
        have HF2 := Lib.hid hF
        clear hF
        go_wp2
        go_roundw
        case rel => exact ⟨k + 1, bb + 1, cc, by omega, by go_num, by go_num, rfl, by omega, by omega, HF2.out, by first | rfl | trivial⟩
        case measure => simp [intOf]; omega
      · rw [if_neg e16] at hF
        by_cases e19 : op = 19
        · subst e19
          rw [if_pos rfl] at hF
          have HF2 := Lib.hid hF
          clear hF
          go_wp2
          go_roundw
          case rel => exact ⟨k + 1, bb, cc + 1, by omega, by go_num, rfl, by go_num, by omega, by omega, HF2.out, by first | rfl | trivial⟩
          case measure => simp [intOf]; omega
        · rw [if_neg e19] at hF
          by_cases e20 : op = 20
          · rw [if_pos e20] at hF; cases hF
          · rw [if_neg e20] at hF
            by_cases e22 : op = 22
            · rw [if_pos e22] at hF; cases hF
            · rw [if_neg e22] at hF
              have HF2 := Lib.hid hF
              clear hF
              go_wp2
              go_roundw
              case rel => exact ⟨k + 1, bb, cc, by omega, by go_num, rfl, rfl, by omega, by omega, HF2.out, by first | rfl | trivial⟩
              case measure => simp [intOf]; omega
    · obtain rfl : k = N := by omega
      rw [List.drop_eq_nil_of_le (by rw [← HN.out]; exact Nat.le_refl _), formedFrom] at hF
      injection hF with hF
      injection hF with e1 e2
      subst e1; subst e2
      go_wp2
      go_ret
      exact ⟨rfl, rfl⟩
end Go.Proofs.YtkioddgolmaaeaaGreatDoor
