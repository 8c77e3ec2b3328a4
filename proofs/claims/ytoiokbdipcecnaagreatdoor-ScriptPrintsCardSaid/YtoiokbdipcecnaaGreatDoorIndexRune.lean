/-
  strings.IndexRune(" \t", c) for a rune that is no ASCII: -1. No condition.
-/
import Derived.Test.YtoiokbdipcecnaaGreatDoorBase
import Derived.Test.YtoiokbdipcecnaaGreatDoorShelf
import Derived.Laws.Runes
import Derived.WalkMore
import Derived.Test.YtoiokbdipcecnaaGreatDoorCodeNum
namespace Go.Proofs.YtoiokbdipcecnaaGreatDoor
open Go.RowKit
set_option maxRecDepth 100000

set_option maxHeartbeats 4000000 in
theorem IndexRune_no (s : ByteArray) (c : Int) (w : World) (h1 : 128 ≤ c) (h2 : c ≤ 2147483647) (hs : s.size = 2) (ha : ∀ (i : Nat) (h : i < s.size), (s[i]'h).toNat < 128) :
    Calls Tryz.prog 126 #[.string s, .int .i32 c] w fun e w' => e = .returned (.int .i64 (-1)) ∧ Below w.heap.size w w' := by
  have g0 : (0 : Int) ≤ c := by omega
  have g1 : ¬ c < 128 := by omega
  have HA := Lib.hid ha
  have HZ := Lib.hid hs
  by_cases hE : c = 65533
  · subst hE
    clear ha hs
    go_enter Tryz.func126, Tryz.ntmps126
    go_wp2_with (fail)
    go_loopg [5, 6] s.size (fun g _ _ wx => ∃ i : Nat, i + g = s.size ∧ wx = w.iter s i)
    case atStart => exact ⟨0, by omega, rfl⟩
    case round =>
      obtain ⟨i, hig, rfl⟩ := hrel
      cases gk with
      | zero =>
        obtain rfl : i = s.size := by omega
        have hnx := run_next_end (P := Tryz.prog) w s s.size
        go_wp2
        go_ret
        exact ⟨rfl, (Below.refl _ _).alloc (Nat.le_refl _) _⟩
      | succ g =>
        have hi : i < s.size := by omega
        have hx128 := HA.out i hi
        have hnx := fun ty => run_next_ascii (P := Tryz.prog) w s i ty hi hx128
        generalize (s[i]'hi) = x at hnx hx128
        have hne : ((x.toNat : Int) == 65533) = false := beq_eq_false_iff_ne.2 (by omega)
        go_wp2
        go_roundg g
        case measure => omega
        case rel => exact ⟨i + 1, by omega, rfl⟩
  · have e1 : (c == 65533) = false := by simpa using hE
    by_cases hv : Lib.validRune c = true
    · have hU : Utf8.valid c = true := by
        unfold Lib.validRune at hv
        unfold Utf8.valid
        simp at hv ⊢
        omega
      obtain ⟨q1, q2, q3⟩ := encode_facts c hU h1
      obtain ⟨R, hR⟩ : ∃ R, R = Utf8.encode c := ⟨_, rfl⟩
      rw [← hR] at q1 q2 q3
      have hR' : Utf8.encode c = R := hR.symm
      have k1 : IntKind.i64.wrap ((R.size : Int) - 1) = (R.size : Int) - 1 := IntWalk.i64_in _ (by omega)
      have Q3 := Lib.hid q3
      have HU := Lib.hid hU
      clear hR q3 hU ha
      go_enter Tryz.func126, Tryz.ntmps126
      go_wp2_with (go_at_call 147; go_must (refine (Tryz.utf8_ValidRune c _).mono ?_; rintro e w1 ⟨rfl, hw⟩; rw [hw, hv]))
      go_step3
      go_wp2
      go_loopw [9, 10] (fun u v wr => u = .int .i64 ((R.size : Int) - 1) ∧ v = .int .i64 0 ∧ wr = w) (fun _ _ _ => 0)
      case atStart => exact ⟨rfl, rfl, rfl⟩
      case round =>
        obtain ⟨rfl, rfl, rfl⟩ := hrel
        by_cases hq : R.size = 2
        · have z1 : (R.size : Int) - 1 = 1 := by omega
          rw [z1]
          have hb1 := HA.out 1 (by rw [HZ.out]; decide)
          have hr1 := Q3.out (by omega)
          have r0 : ¬ ((s[1]'(by rw [HZ.out]; decide)).toNat : Int) = ((R[R.size - 1]'(by omega)).toNat : Int) := by omega
          go_upto_region 6 with (fail)
          go_step3
          go_upto_region 6 with (fail)
          have i1 : (1 : Int) < (s.size : Int) := by rw [HZ.out]; decide
          have i2 : 1 < s.size := by rw [HZ.out]; decide
          have i3 : 1 < R.size := by omega
          have r1 : ¬ ((s[1]'i2).toNat : Int) = ((R[1]'i3).toNat : Int) := by
            have e : (R[R.size - 1]'(by omega)) = R[1]'i3 := by congr 1; omega
            rw [e] at hr1
            omega
          have r2 : ((s[1]'i2).toNat : Int) ≠ ((R[1]'i3).toNat : Int) := r1
          have rB : (((s[1]'i2).toNat : Int) != ((R[1]'i3).toNat : Int)) = true := by simpa using r1
          have HIB := Lib.hid (show ∀ (b : Int) (W : World), Calls Tryz.prog 146 #[.string .empty, .int .u8 b] W fun e w' => e = .returned (.int .i64 (-1)) ∧ w' = W from fun b W => Tryz.strings_IndexByte .empty b W)
          go_quiet (fail)
          go_upto_region 7 with (fail)
          have i4 : (2 : Int) ≤ (s.size : Int) := by rw [HZ.out]; decide
          have i5 : IntKind.i64.wrap (1 + 1) = 2 := by decide
          have i6 : IntKind.i64.wrap 2 = 2 := by decide
          have i7 : (1 : Int) + 1 = 2 := by decide
          obtain ⟨W0, hW0⟩ : ∃ W0, W0 = wr.drewN nq := ⟨_, rfl⟩
          rw [← hW0]
          have HB0 := Lib.hid (show Below wr.heap.size wr W0 by rw [hW0]; exact below_drewN _ _ _)
          clear hW0
          go_quiet ((go_at_call 146; exact Calls.quiet_of_same (HIB.out _ _)))
          go_wp2
          first | go_ret | ((simp (config := { zetaDelta := true }) only [Exit.noGoto_ret, Exit.inBlock, Exit.then]); go_ret)
          refine ⟨rfl, HB0.out.trans ?_⟩
          first | exact Below.refl _ _ | exact below_drewN _ _ _
        · have z1 : ¬ (R.size : Int) - 1 < 2 := by omega
          go_wp2
          first | go_ret | ((simp (config := { zetaDelta := true }) only [Exit.noGoto_ret, Exit.inBlock, Exit.then]); go_ret)
          exact ⟨rfl, Below.refl _ _⟩
    · have hv' : Lib.validRune c = false := by simpa using hv
      go_enter Tryz.func126, Tryz.ntmps126
      go_wp2_with (go_at_call 147; go_must (refine (Tryz.utf8_ValidRune c _).mono ?_; rintro e w1 ⟨rfl, rfl⟩; rw [hv']))
      go_ret
      exact ⟨rfl, Below.refl _ _⟩
end Go.Proofs.YtoiokbdipcecnaaGreatDoor
