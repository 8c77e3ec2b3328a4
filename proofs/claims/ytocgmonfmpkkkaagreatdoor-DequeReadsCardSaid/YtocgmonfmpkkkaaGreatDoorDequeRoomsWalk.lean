/-
  quash/quashlaw20.DequeRooms answers true. Condition: the library's variables (Env).
-/
import Derived.Test.YtocgmonfmpkkkaaGreatDoorDequeAwake
import Derived.Test.YtocgmonfmpkkkaaGreatDoorDequeSame
import Derived.Test.YtocgmonfmpkkkaaGreatDoorOpen
namespace Go.Proofs.YtocgmonfmpkkkaaGreatDoor
open Go.RowKit
set_option maxRecDepth 100000

theorem same_len (n : Nat) (ao bo : Option Addr) (ca cb : Nat) (zs : List Int) (w : World) (hl : zs.length = n) (hx : Sees w ao zs) (hy : Sees w bo zs) (hn : n ≤ maxLen) :
    Calls Tryz.prog 13 #[.slice ao n ca, .slice bo n cb] w fun e w' => e = .returned (.bool true) ∧ ∃ k, w' = w.drewN k := by
  subst hl
  exact same_true ao bo ca cb zs w hx hy hn
theorem made_sees' (m : Nat) (w : World) (g : Nat) (h : g = w.heap.size) (hm : m ≤ 100000) : Sees (w.alloc (.cells (madeCells #[.int .i64 0] m) 2)) (some ⟨g, 0, none⟩) (List.replicate m 0) := by
  subst h
  exact (made_bal m w hm).sees
theorem Start_no (n : Int) (w : World) (h : roomI n = 0) : Calls Tryz.prog 21 #[.int .i64 n] w fun e w' => e = .returned (.tuple #[.slice none 0 0, .int .i64 200]) ∧ w' = w := by
  have HR := Lib.hid h
  clear h
  go_enter Tryz.func21, Tryz.ntmps21
  go_wp2_with (go_at_call 20; go_must (refine (Room_any n _).mono ?_; rintro e w3 ⟨rfl, rfl⟩; rw [HR.out]))
  go_ret2
  exact ⟨rfl, rfl⟩
theorem Start_yes (n : Int) (m : Nat) (w : World) (h : roomI n = m) (h1 : 1 ≤ m) (h2 : m ≤ 1000) : Calls Tryz.prog 21 #[.int .i64 n] w fun e w' => e = .returned (.tuple #[.slice (some ⟨w.heap.size, 0, none⟩) m m, .int .i64 0]) ∧ w' = w.alloc (.cells (madeCells #[.int .i64 0] m) 2) := by
  have HR := Lib.hid h
  have hn0 : ((m : Int) == 0) = false := by simp; omega
  have hmk := fun w => make64 m (by omega) w
  clear h
  go_enter Tryz.func21, Tryz.ntmps21
  go_wp2_with (go_at_call 20; go_must (refine (Room_any n _).mono ?_; rintro e w3 ⟨rfl, rfl⟩; rw [HR.out]))
  go_ret2
  exact ⟨rfl, rfl⟩
theorem refStart_any (m : Nat) (n : Int) (w : World) (h : roomI n = m) (h2 : m ≤ 1000) : Calls Tryz.prog 22 #[.int .i64 n] w fun e w' => e = .returned (.slice (some ⟨w.heap.size, 0, none⟩) m m) ∧ w' = w.alloc (.cells (madeCells #[.int .i64 0] m) 2) := by
  have HR := Lib.hid h
  have hmk := fun w => make64 m (by omega) w
  clear h
  go_enter Tryz.func22, Tryz.ntmps22
  go_wp2_with (go_at_call 14; go_must (refine (refRoom_any n _).mono ?_; rintro e w3 ⟨rfl, rfl⟩; rw [HR.out]))
  go_ret
  exact ⟨rfl, rfl⟩
set_option maxHeartbeats 1000000 in
theorem DequeRooms_any (n : Int) (w : World) (he : Env w) : Calls Tryz.prog 7 #[.int .i64 n] w fun e w' => e = .returned (.bool true) ∧ Below w.heap.size w w' := by
  have HE := Lib.hid he
  clear he
  by_cases h0 : roomI n = 0
  · have HR := Lib.hid h0
    have HS := Lib.hid (fun w => Start_no n w h0)
    have HF := Lib.hid (fun w => refStart_any 0 n w (by simpa using h0) (by decide))
    clear h0
    go_enter Tryz.func7, Tryz.ntmps7
    go_wp2_with (first
      | (go_at_call 9; go_must (refine (awake_any _ HE.out).mono ?_; rintro e w1 ⟨rfl, hb1⟩))
      | (go_at_call 20; go_must (refine (Room_any n _).mono ?_; rintro e w3 ⟨rfl, rfl⟩; rw [HR.out]))
      | (go_at_call 21; go_must (refine (HS.out _).mono ?_; rintro e w3 ⟨rfl, rfl⟩))
      | (go_at_call 14; go_must (refine (refRoom_any n _).mono ?_; rintro e w3 ⟨rfl, rfl⟩; rw [HR.out]))
      | (go_at_call 22; go_must (refine (HF.out _).mono ?_; rintro e w3 ⟨rfl, rfl⟩))
      | (go_at_call 13; go_must (refine (same_len 0 _ _ _ _ [] _ rfl (Sees.nil _ _) (Sees.nil _ _) (by decide)).mono ?_; rintro e w6 ⟨rfl, k6, rfl⟩))
      | (go_at_call 19; go_must (refine (codeDeque_any false _).mono ?_; rintro e w9 ⟨rfl, rfl⟩)))
    go_ret
    exact ⟨rfl, by repeat (first | exact hb1 | refine Below.alloc ?_ (by have := hb1.size; simp <;> omega) _ | refine Below.drewK ?_ _ | refine Below.drew1 ?_)⟩
  · have hn := roomI_yes h0
    obtain ⟨m, hm⟩ : ∃ m : Nat, roomI n = m := ⟨(2 + n).toNat, by omega⟩
    have HR := Lib.hid hm
    have hm1 : 1 ≤ m := by omega
    have hm64 : m ≤ 1000 := by omega
    have HS := Lib.hid (fun w => Start_yes n m w hm hm1 hm64)
    have HF := Lib.hid (fun w => refStart_any m n w hm hm64)
    have hgt : decide (0 < m) = true := by simp; omega
    clear h0 hn hm
    go_enter Tryz.func7, Tryz.ntmps7
    go_wp2_with (first
      | (go_at_call 9; go_must (refine (awake_any _ HE.out).mono ?_; rintro e w1 ⟨rfl, hb1⟩))
      | (go_at_call 20; go_must (refine (Room_any n _).mono ?_; rintro e w3 ⟨rfl, rfl⟩; rw [HR.out]))
      | (go_at_call 21; go_must (refine (HS.out _).mono ?_; rintro e w3 ⟨rfl, rfl⟩))
      | (go_at_call 14; go_must (refine (refRoom_any n _).mono ?_; rintro e w3 ⟨rfl, rfl⟩; rw [HR.out]))
      | (go_at_call 22; go_must (refine (HF.out _).mono ?_; rintro e w3 ⟨rfl, rfl⟩))
      | (go_at_call 13; go_must (refine (same_len m _ _ _ _ (List.replicate m 0) _ (by simp) (by exact (made_sees' m _ _ rfl (by omega)).below ((Below.refl _ _).alloc (Nat.le_refl _) _)) (by exact made_sees' m _ _ (by simp) (by omega)) (by unfold maxLen; omega)).mono ?_; rintro e w6 ⟨rfl, k6, rfl⟩))
      | (go_at_call 19; go_must (refine (codeDeque_any true _).mono ?_; rintro e w9 ⟨rfl, rfl⟩)))
    go_ret
    exact ⟨rfl, by repeat (first | exact hb1 | refine Below.alloc ?_ (by have := hb1.size; simp <;> omega) _ | refine Below.drewK ?_ _ | refine Below.drew1 ?_)⟩
end Go.Proofs.YtocgmonfmpkkkaaGreatDoor
