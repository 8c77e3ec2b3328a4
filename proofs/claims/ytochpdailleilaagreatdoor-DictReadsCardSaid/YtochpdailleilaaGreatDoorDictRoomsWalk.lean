/-
  quash/quashlaw19.DictRooms answers true. Condition: the library's variables (Env).
-/
import Derived.Test.YtochpdailleilaaGreatDoorDictAwake
import Derived.Test.YtochpdailleilaaGreatDoorDictSame
import Derived.Test.YtochpdailleilaaGreatDoorOpen
namespace Go.Proofs.YtochpdailleilaaGreatDoor
open Go.RowKit
set_option maxRecDepth 100000

theorem Start_no (n : Int) (w : World) (h : roomI n = 0) : Calls Tryz.prog 22 #[.int .i64 n] w fun e w' => e = .returned (.tuple #[.slice none 0 0, .int .i64 190]) ∧ w' = w := by
  have HR := Lib.hid h
  clear h
  go_enter Tryz.func22, Tryz.ntmps22
  go_wp2_with (go_at_call 21; go_must (refine (Room_any n _).mono ?_; rintro e w3 ⟨rfl, rfl⟩; rw [HR.out]))
  go_ret2
  exact ⟨rfl, rfl⟩
theorem madeSees (M : Nat) (w : World) : Sees (w.alloc (.cells (madeCells #[.int .i64 0] M) 2)) (some ⟨w.heap.size, 0, none⟩) (List.replicate M 0) := by
  refine Sees.cells fun j hj => ?_
  rw [Nat.zero_add, cell_of_row _ _ j _ _ _ (heap_new _ _ _ rfl), ← Array.getElem?_toList, toList_madeCells_one]
  have hj' : j < M := by simpa using hj
  simp [List.getD_eq_getElem?_getD, hj']
set_option maxHeartbeats 1000000 in
theorem Start_yes (N : Nat) (w : World) (h1 : 1 ≤ N) (h2 : N ≤ 60) : Calls Tryz.prog 22 #[.int .i64 N] w fun e w' => ∃ ao c, e = .returned (.tuple #[.slice ao (1 + 3 * N) c, .int .i64 0]) ∧ Sees w' ao (List.replicate (1 + 3 * N) 0) ∧ Below w.heap.size w w' := by
  have HR := Lib.hid (show roomI N = 1 + 3 * N by unfold roomI; rw [if_pos ⟨by omega, by omega⟩])
  have hn0 : (1 + 3 * (N : Int) == 0) = false := by simp; omega
  obtain ⟨M, hM⟩ : ∃ M, M = 1 + 3 * N := ⟨_, rfl⟩
  have hmk := fun w => make64 M (by omega) w
  have HMM := Lib.hid (show (1 + 3 * (N : Int)) = (M : Int) by omega)
  rw [show ((M : Nat) : Int) = 1 + 3 * (N : Int) by omega] at hmk
  rw [← hM]
  clear hM
  go_enter Tryz.func22, Tryz.ntmps22
  go_wp2_with (go_at_call 21; go_must (refine (Room_any N _).mono ?_; rintro e w3 ⟨rfl, rfl⟩; rw [HR.out]))
  go_ret2
  exact ⟨_, _, rfl, madeSees M _, (Below.refl _ _).alloc (Nat.le_refl _) _⟩
theorem refStart_no (n : Int) (w : World) (h : roomI n = 0) : Calls Tryz.prog 23 #[.int .i64 n] w fun e w' => ∃ ao c, e = .returned (.slice ao 0 c) ∧ Below w.heap.size w w' := by
  have HR := Lib.hid h
  clear h
  have hmk := fun w => make64 0 (by omega) w
  rw [show ((0 : Nat) : Int) = 0 from rfl] at hmk
  go_enter Tryz.func23, Tryz.ntmps23
  go_wp2_with (go_at_call 15; go_must (refine (refRoom_any n _).mono ?_; rintro e w3 ⟨rfl, rfl⟩; rw [HR.out]))
  go_ret
  exact ⟨_, _, rfl, (Below.refl _ _).alloc (Nat.le_refl _) _⟩
theorem refStart_yes (N : Nat) (w : World) (h1 : 1 ≤ N) (h2 : N ≤ 60) : Calls Tryz.prog 23 #[.int .i64 N] w fun e w' => ∃ g, e = .returned (.slice (some ⟨g, 0, none⟩) (1 + 3 * N) (1 + 3 * N)) ∧ Sees w' (some ⟨g, 0, none⟩) (List.replicate (1 + 3 * N) 0) ∧ Below w.heap.size w w' := by
  have HR := Lib.hid (show roomI N = 1 + 3 * N by unfold roomI; rw [if_pos ⟨by omega, by omega⟩])
  obtain ⟨M, hM⟩ : ∃ M, M = 1 + 3 * N := ⟨_, rfl⟩
  have hmk := fun w => make64 M (by omega) w
  rw [show ((M : Nat) : Int) = 1 + 3 * (N : Int) by omega] at hmk
  rw [← hM]
  clear hM
  go_enter Tryz.func23, Tryz.ntmps23
  go_wp2_with (go_at_call 15; go_must (refine (refRoom_any N _).mono ?_; rintro e w3 ⟨rfl, rfl⟩; rw [HR.out]))
  go_ret
  exact ⟨_, rfl, madeSees M _, (Below.refl _ _).alloc (Nat.le_refl _) _⟩
set_option maxHeartbeats 2000000 in
theorem DictRooms_any (n : Int) (w : World) (he : Env w) : Calls Tryz.prog 7 #[.int .i64 n] w fun e w' => e = .returned (.bool true) ∧ Below w.heap.size w w' := by
  have HE := Lib.hid he
  clear he
  by_cases h0 : roomI n = 0
  · have HR := Lib.hid h0
    have HS := Lib.hid (fun w => Start_no n w h0)
    have HF := Lib.hid (fun w => refStart_no n w h0)
    clear h0
    go_enter Tryz.func7, Tryz.ntmps7
    go_wp2_with (first
      | (go_at_call 9; go_must (refine (awake_any _ HE.out).mono ?_; rintro e w1 ⟨rfl, hb1⟩))
      | (go_at_call 21; go_must (refine (Room_any n _).mono ?_; rintro e w3 ⟨rfl, rfl⟩; rw [HR.out]))
      | (go_at_call 22; go_must (refine (HS.out _).mono ?_; rintro e w3 ⟨rfl, rfl⟩))
      | (go_at_call 15; go_must (refine (refRoom_any n _).mono ?_; rintro e w3 ⟨rfl, rfl⟩; rw [HR.out]))
      | (go_at_call 23; go_must (refine (HF.out _).mono ?_; rintro e w5 ⟨ao5, c5, rfl, hb5⟩))
      | (go_at_call 14; go_must (refine (sameInts_len 0 _ _ _ _ [] _ rfl (Sees.nil _ _) (Sees.nil _ _) (by decide)).mono ?_; rintro e w6 ⟨rfl, k6, rfl⟩))
      | (go_at_call 20; go_must (refine (codeDict_any false _).mono ?_; rintro e w9 ⟨rfl, rfl⟩)))
    go_ret
    exact ⟨rfl, by repeat (first | exact hb1.trans (hb5.mono hb1.size) | refine Below.alloc ?_ (by have := hb1.size; simp <;> omega) _ | refine Below.drewK ?_ _ | refine Below.drew1 ?_)⟩
  · have hn := roomI_yes h0
    obtain ⟨N, rfl⟩ : ∃ N : Nat, n = N := ⟨n.toNat, by omega⟩
    have HR := Lib.hid hn.1
    have hN1 : 1 ≤ N := by omega
    have hN2 : N ≤ 60 := by omega
    have HS := Lib.hid (fun w => Start_yes N w hN1 hN2)
    have HF := Lib.hid (fun w => refStart_yes N w hN1 hN2)
    have hgt : decide (0 < 1 + 3 * (N : Int)) = true := by simp; omega
    have hl : (List.replicate (1 + 3 * N) (0 : Int)).length = 1 + 3 * N := by simp
    have HL := Lib.hid hl
    clear h0 hn hl
    go_enter Tryz.func7, Tryz.ntmps7
    go_wp2_with (first
      | (go_at_call 9; go_must (refine (awake_any _ HE.out).mono ?_; rintro e w1 ⟨rfl, hb1⟩))
      | (go_at_call 21; go_must (refine (Room_any N _).mono ?_; rintro e w3 ⟨rfl, rfl⟩; rw [HR.out]))
      | (go_at_call 22; go_must (refine (HS.out _).mono ?_; rintro e w3 ⟨a3, c3, rfl, hs3, hb3⟩))
      | (go_at_call 15; go_must (refine (refRoom_any N _).mono ?_; rintro e w4 ⟨rfl, rfl⟩; rw [HR.out]))
      | (go_at_call 23; go_must (refine (HF.out _).mono ?_; rintro e w5 ⟨g5, rfl, hs5, hb5⟩))
      | (go_at_call 14; go_must (refine (sameInts_len (1 + 3 * N) _ _ _ _ (List.replicate (1 + 3 * N) 0) _ HL.out (by exact hs3.below hb5) (by exact hs5) (by unfold maxLen; omega)).mono ?_; rintro e w6 ⟨rfl, k6, rfl⟩))
      | (go_at_call 20; go_must (refine (codeDict_any true _).mono ?_; rintro e w9 ⟨rfl, rfl⟩)))
    go_ret
    exact ⟨rfl, Below.drewK ((hb1.trans (hb3.mono hb1.size)).trans (hb5.mono (hb1.trans (hb3.mono hb1.size)).size)) _⟩
end Go.Proofs.YtochpdailleilaaGreatDoor
