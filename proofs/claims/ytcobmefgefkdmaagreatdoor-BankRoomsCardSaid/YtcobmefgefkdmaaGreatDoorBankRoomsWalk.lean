/-
  quash/quashlaw17.BankRooms answers true. Condition: the library's variables (Env).
-/
import Derived.Test.YtcobmefgefkdmaaGreatDoorBankDoesWalk
import Derived.Test.YtcobmefgefkdmaaGreatDoorOpen
namespace Go.Proofs.YtcobmefgefkdmaaGreatDoor
open Go.RowKit
set_option maxRecDepth 100000

theorem made_sees (m : Nat) (w : World) : Sees (w.alloc (.cells (madeCells #[.int .i64 0] m) 2)) (some ⟨w.heap.size, 0, none⟩) (List.replicate m 0) := Sees.cells fun j hj => by
  rw [Nat.zero_add]
  refine (cell_of_row _ _ j _ _ _ (heap_new _ _ _ rfl)).trans ?_
  have hj2 : j < m := by simpa using hj
  rw [← Array.getElem?_toList, toList_madeCells_one, List.getElem?_replicate, if_pos hj2]
  simp [List.getD, hj2]
theorem made_sees' (m : Nat) (w : World) (g : Nat) (h : g = w.heap.size) : Sees (w.alloc (.cells (madeCells #[.int .i64 0] m) 2)) (some ⟨g, 0, none⟩) (List.replicate m 0) := by
  subst h
  exact made_sees m w
theorem Start_no (n : Int) (w : World) (h : roomI n = 0) : Calls Tryz.prog 14 #[.int .i64 n] w fun e w' => e = .returned (.tuple #[.slice none 0 0, .int .i64 170]) ∧ w' = w := by
  have HR := Lib.hid h
  clear h
  go_enter Tryz.func14, Tryz.ntmps14
  go_wp2_with (go_at_call 13; go_must (refine (Room_any n _).mono ?_; rintro e w3 ⟨rfl, rfl⟩; rw [HR.out]))
  go_ret2
  exact ⟨rfl, rfl⟩
theorem Start_yes (m : Nat) (w : World) (h1 : 1 ≤ m) (h2 : m ≤ 64) : Calls Tryz.prog 14 #[.int .i64 m] w fun e w' => e = .returned (.tuple #[.slice (some ⟨w.heap.size, 0, none⟩) m m, .int .i64 0]) ∧ w' = w.alloc (.cells (madeCells #[.int .i64 0] m) 2) := by
  have HR := Lib.hid (show roomI m = m by unfold roomI; rw [if_pos ⟨by omega, by omega⟩])
  have hn0 : ((m : Int) == 0) = false := by simp; omega
  have hmk := fun w => make64 m h2 w
  go_enter Tryz.func14, Tryz.ntmps14
  go_wp2_with (go_at_call 13; go_must (refine (Room_any m _).mono ?_; rintro e w3 ⟨rfl, rfl⟩; rw [HR.out]))
  go_ret2
  exact ⟨rfl, rfl⟩
theorem refStart_any (m : Nat) (n : Int) (w : World) (h : roomI n = m) (h2 : m ≤ 64) : Calls Tryz.prog 16 #[.int .i64 n] w fun e w' => e = .returned (.slice (some ⟨w.heap.size, 0, none⟩) m m) ∧ w' = w.alloc (.cells (madeCells #[.int .i64 0] m) 2) := by
  have HR := Lib.hid h
  have hmk := fun w => make64 m h2 w
  clear h
  go_enter Tryz.func16, Tryz.ntmps16
  go_wp2_with (go_at_call 15; go_must (refine (refRoom_any n _).mono ?_; rintro e w3 ⟨rfl, rfl⟩; rw [HR.out]))
  go_ret
  exact ⟨rfl, rfl⟩
set_option maxHeartbeats 1000000 in
theorem BankRooms_any (n : Int) (w : World) (he : Env w) : Calls Tryz.prog 6 #[.int .i64 n] w fun e w' => e = .returned (.bool true) ∧ Below w.heap.size w w' := by
  have HE := Lib.hid he
  clear he
  by_cases h0 : roomI n = 0
  · have HR := Lib.hid h0
    have HS := Lib.hid (fun w => Start_no n w h0)
    have HF := Lib.hid (fun w => refStart_any 0 n w (by simpa using h0) (by decide))
    clear h0
    go_enter Tryz.func6, Tryz.ntmps6
    go_wp2_with (first
      | (go_at_call 8; go_must (refine (awake_any _ HE.out).mono ?_; rintro e w1 ⟨rfl, hb1⟩))
      | (go_at_call 13; go_must (refine (Room_any n _).mono ?_; rintro e w3 ⟨rfl, rfl⟩; rw [HR.out]))
      | (go_at_call 14; go_must (refine (HS.out _).mono ?_; rintro e w3 ⟨rfl, rfl⟩))
      | (go_at_call 15; go_must (refine (refRoom_any n _).mono ?_; rintro e w3 ⟨rfl, rfl⟩; rw [HR.out]))
      | (go_at_call 16; go_must (refine (HF.out _).mono ?_; rintro e w3 ⟨rfl, rfl⟩))
      | (go_at_call 11; go_must (refine (same_len 0 _ _ _ _ [] _ rfl (Sees.nil _ _) (Sees.nil _ _) (by decide)).mono ?_; rintro e w6 ⟨rfl, k6, rfl⟩))
      | (go_at_call 12; go_must (refine (codeBank_any false _).mono ?_; rintro e w9 ⟨rfl, rfl⟩)))
    go_ret
    exact ⟨rfl, by repeat (first | exact hb1 | refine Below.alloc ?_ (by have := hb1.size; simp <;> omega) _ | refine Below.drewK ?_ _ | refine Below.drew1 ?_)⟩
  · have hn : roomI n = n ∧ 1 ≤ n ∧ n ≤ 64 := by unfold roomI at h0 ⊢; split at h0 <;> simp_all
    obtain ⟨m, rfl⟩ : ∃ m : Nat, n = m := ⟨n.toNat, by omega⟩
    have HR := Lib.hid hn.1
    have HS := Lib.hid (fun w => Start_yes m w (by omega) (by omega))
    have HF := Lib.hid (fun w => refStart_any m m w hn.1 (by omega))
    have hm1 : 1 ≤ m := by omega
    have hm64 : m ≤ 64 := by omega
    have hgt : decide (0 < m) = true := by simp; omega
    clear h0 hn
    go_enter Tryz.func6, Tryz.ntmps6
    go_wp2_with (first
      | (go_at_call 8; go_must (refine (awake_any _ HE.out).mono ?_; rintro e w1 ⟨rfl, hb1⟩))
      | (go_at_call 13; go_must (refine (Room_any m _).mono ?_; rintro e w3 ⟨rfl, rfl⟩; rw [HR.out]))
      | (go_at_call 14; go_must (refine (HS.out _).mono ?_; rintro e w3 ⟨rfl, rfl⟩))
      | (go_at_call 15; go_must (refine (refRoom_any m _).mono ?_; rintro e w3 ⟨rfl, rfl⟩; rw [HR.out]))
      | (go_at_call 16; go_must (refine (HF.out _).mono ?_; rintro e w3 ⟨rfl, rfl⟩))
      | (go_at_call 11; go_must (refine (same_len m _ _ _ _ (List.replicate m 0) _ (by simp) (by exact (made_sees m _).below ((Below.refl _ _).alloc (Nat.le_refl _) _)) (by exact made_sees' m _ _ (by simp)) (by unfold maxLen; omega)).mono ?_; rintro e w6 ⟨rfl, k6, rfl⟩))
      | (go_at_call 12; go_must (refine (codeBank_any true _).mono ?_; rintro e w9 ⟨rfl, rfl⟩)))
    go_ret
    exact ⟨rfl, by repeat (first | exact hb1 | refine Below.alloc ?_ (by have := hb1.size; simp <;> omega) _ | refine Below.drewK ?_ _ | refine Below.drew1 ?_)⟩
end Go.Proofs.YtcobmefgefkdmaaGreatDoor
