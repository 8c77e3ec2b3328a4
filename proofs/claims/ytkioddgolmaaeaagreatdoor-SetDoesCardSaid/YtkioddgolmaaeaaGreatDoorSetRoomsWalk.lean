/-
  quash/quashlaw18.SetRooms answers true. Condition: the library's variables (Env).
-/
import Derived.Test.YtkioddgolmaaeaaGreatDoorSetAwake
import Derived.Test.YtkioddgolmaaeaaGreatDoorSetSame
import Derived.Test.YtkioddgolmaaeaaGreatDoorSetLay
import Derived.Test.YtkioddgolmaaeaaGreatDoorOpen
namespace Go.Proofs.YtkioddgolmaaeaaGreatDoor
open Go.RowKit
set_option maxRecDepth 100000

theorem same_len (n : Nat) (ao bo : Option Addr) (ca cb : Nat) (zs : List Int) (w : World) (hl : zs.length = n) (hx : Sees w ao zs) (hy : Sees w bo zs) (hn : n ≤ maxLen) :
    Calls Tryz.prog 13 #[.slice ao n ca, .slice bo n cb] w fun e w' => e = .returned (.bool true) ∧ ∃ k, w' = w.drewN k := by
  subst hl
  exact same_true ao bo ca cb zs w hx hy hn
theorem Start_no (n : Int) (w : World) (h : roomI n = 0) : Calls Tryz.prog 21 #[.int .i64 n] w fun e w' => e = .returned (.tuple #[.slice none 0 0, .int .i64 180]) ∧ w' = w := by
  have HR := Lib.hid h
  clear h
  go_enter Tryz.func21, Tryz.ntmps21
  go_wp2_with (go_at_call 20; go_must (refine (Room_any n _).mono ?_; rintro e w3 ⟨rfl, rfl⟩; rw [HR.out]))
  go_ret2
  exact ⟨rfl, rfl⟩
def startP (N i : Nat) : List Int := [0, 1, 0] ++ (List.range (i - 1)).flatMap fun j => [0, (((j + 2) % (N + 1) : Nat) : Int)]
theorem startP_succ (N i : Nat) (h : 1 ≤ i) : startP N (i + 1) = startP N i ++ [0, (((i + 1) % (N + 1) : Nat) : Int)] := by
  obtain ⟨j, rfl⟩ : ∃ j, i = j + 1 := ⟨i - 1, by omega⟩
  unfold startP
  rw [Nat.add_sub_cancel, Nat.add_sub_cancel, List.range_succ, List.flatMap_append]
  simp [Int.add_assoc]
theorem startP_len (N i : Nat) (h : 1 ≤ i) : (startP N i).length = 1 + 2 * i := by
  obtain ⟨j, rfl⟩ : ∃ j, i = j + 1 := ⟨i - 1, by omega⟩
  induction j with
  | zero => rfl
  | succ j ih =>
    rw [startP_succ N (j + 1) (by omega), List.length_append, ih (by omega)]
    simp
    omega
theorem start_all : ∀ N : Fin 61, 1 ≤ N.val → startP N.val (N.val + 1) = layE N.val := by decide +kernel
theorem start_lay (N : Nat) (h1 : 1 ≤ N) (h2 : N ≤ 60) : startP N (N + 1) = layE N := start_all ⟨N, by omega⟩ h1
set_option maxHeartbeats 2000000 in
theorem Start_yes (N : Nat) (w : World) (h1 : 1 ≤ N) (h2 : N ≤ 60) : Calls Tryz.prog 21 #[.int .i64 N] w fun e w' => ∃ ao c, e = .returned (.tuple #[.slice ao (3 + 2 * N) c, .int .i64 0]) ∧ Sees w' ao (layE N) ∧ Below w.heap.size w w' := by
  have HR := Lib.hid (show roomI N = 3 + 2 * N by unfold roomI; rw [if_pos ⟨by omega, by omega⟩])
  have hn0 : (3 + 2 * (N : Int) == 0) = false := by simp; omega
  have HLE := Lib.hid (start_lay N h1 h2)
  go_enter Tryz.func21, Tryz.ntmps21
  go_wp2_with (go_at_call 20; go_must (refine (Room_any N _).mono ?_; rintro e w3 ⟨rfl, rfl⟩; rw [HR.out]))
  go_loopw [4, 5] (fun u v wr => ∃ i : Nat, 1 ≤ i ∧ i ≤ N + 1 ∧ v = .int .i64 i ∧ Own wr w3.heap.size u (startP N i) ∧ Below w3.heap.size w3 wr) (fun _ v _ => N + 1 - (intOf v).toNat)
  case atStart => exact ⟨1, Nat.le_refl _, by omega, rfl, Bal.own (zs := [0, 1, 0]) (Bal.of_block (Nat.le_refl _) (heap_new _ _ _ rfl) rfl (by simp) (by decide) rfl), (Below.refl _ _).alloc (Nat.le_refl _) _⟩
  case round =>
    obtain ⟨i, hi1, hi2, rfl, hown, hB⟩ := hrel
    obtain ⟨ao, c, rfl, -⟩ := hown.slice
    have hlen := startP_len N i hi1
    rw [hlen] at hown ⊢
    have HO := Lib.hid (show Own wr w3.heap.size (.slice ao (1 + 2 * i) c) (startP N i) from hown)
    have HB := Lib.hid hB
    have HLN := Lib.hid hlen
    clear hown hB hlen
    by_cases hlt : i ≤ N
    · have hrt : ((i : Int) + 1).tmod ((N : Int) + 1) = (((i + 1) % (N + 1) : Nat) : Int) := by
        rw [Int.tmod_eq_emod_of_nonneg (by omega)]
        simp
      have hre : ((i : Int) + 1) % ((N : Int) + 1) = (((i + 1) % (N + 1) : Nat) : Int) := by simp
      have HST := Lib.hid (startP_succ N i hi1)
      generalize (i + 1) % (N + 1) = r at hrt hre HST
      have hN0 : ((N : Int) + 1 == 0) = false := by simp; omega
      go_wp2_with (at_builtin; refine wpList_append64 (HO.out.below ((Below.refl _ _).alloc (Nat.le_refl _) _)) (by have := HB.out.size; simp; omega) (some ⟨wr.heap.size, 0, none⟩) 2 2 [0, (r : Int)] rfl (sees_two (heap_new _ _ _ rfl)) (fun h => by cases h) (by rw [HLN.out]; simp; omega) rfl _ _ rfl rfl rfl ?_; intro v5 w5 hown5 hgrow5; obtain ⟨ao5, c5, rfl, -⟩ := hown5.slice)
      go_roundw
      case rel => exact ⟨i + 1, by omega, by omega, by go_num, by rw [HST.out]; have h := hown5; rw [show (startP N i ++ [0, (r : Int)]).length = (startP N i).length + 2 by simp] at h; exact h, (HB.out.alloc HB.out.size _).grown hgrow5 (by have := HB.out.size; simp; omega) (fun k hk => own_ge HO.out hk)⟩
      case measure => simp [intOf]; omega
    · obtain rfl : i = N + 1 := by omega
      go_wp2
      go_ret2
      have h := HO.out
      rw [HLE.out] at h
      refine ⟨ao, c, by rw [show 1 + 2 * (N + 1) = 3 + 2 * N by omega]; rfl, ?_, HB.out⟩
      have e : 1 + 2 * (N + 1) = (layE N).length := by simp [layE]; omega
      rw [e] at h
      exact Sees.of_own h
theorem refStart_no (n : Int) (w : World) (h : roomI n = 0) : Calls Tryz.prog 22 #[.int .i64 n] w fun e w' => e = .returned (.slice none 0 0) ∧ w' = w := by
  have HR := Lib.hid h
  clear h
  go_enter Tryz.func22, Tryz.ntmps22
  go_wp2_with (go_at_call 14; go_must (refine (refRoom_any n _).mono ?_; rintro e w3 ⟨rfl, rfl⟩; rw [HR.out]))
  go_ret
  exact ⟨rfl, rfl⟩
theorem refStart_yes (N : Nat) (w : World) (h1 : 1 ≤ N) (h2 : N ≤ 60) : Calls Tryz.prog 22 #[.int .i64 N] w fun e w' => ∃ g, e = .returned (.slice (some ⟨g, 0, none⟩) (3 + 2 * N) (3 + 2 * N)) ∧ Sees w' (some ⟨g, 0, none⟩) (layE N) ∧ Below w.heap.size w w' := by
  have HR := Lib.hid (show roomI N = 3 + 2 * N by unfold roomI; rw [if_pos ⟨by omega, by omega⟩])
  have hn0 : (3 + 2 * (N : Int) == 0) = false := by simp; omega
  have HLA := Lib.hid (fun W => Lay_any none 0 0 [] N 0 W rfl (Sees.nil _ _) h1 h2 (Nat.zero_le _) (by decide) (by decide))
  go_enter Tryz.func22, Tryz.ntmps22
  go_wp2_with (first
    | (go_at_call 14; go_must (refine (refRoom_any N _).mono ?_; rintro e w3 ⟨rfl, rfl⟩; rw [HR.out]))
    | (go_at_call 15; go_must (refine (HLA.out _).mono ?_; rintro e w4 ⟨g, Z, rfl, hZ, hb, hB, hE⟩)))
  go_ret
  refine ⟨g, rfl, ?_, hB⟩
  rw [← hE (by simp) (by simp)]
  exact hb.sees
set_option maxHeartbeats 2000000 in
theorem SetRooms_any (n : Int) (w : World) (he : Env w) : Calls Tryz.prog 7 #[.int .i64 n] w fun e w' => e = .returned (.bool true) ∧ Below w.heap.size w w' := by
  have HE := Lib.hid he
  clear he
  by_cases h0 : roomI n = 0
  · have HR := Lib.hid h0
    have HS := Lib.hid (fun w => Start_no n w h0)
    have HF := Lib.hid (fun w => refStart_no n w h0)
    clear h0
    go_enter Tryz.func7, Tryz.ntmps7
    go_wp2_with (first
      | (go_at_call 9; go_must (refine (awake_any _ HE.out).mono ?_; rintro e w1 ⟨rfl, hb1⟩))
      | (go_at_call 20; go_must (refine (Room_any n _).mono ?_; rintro e w3 ⟨rfl, rfl⟩; rw [HR.out]))
      | (go_at_call 21; go_must (refine (HS.out _).mono ?_; rintro e w3 ⟨rfl, rfl⟩))
      | (go_at_call 14; go_must (refine (refRoom_any n _).mono ?_; rintro e w3 ⟨rfl, rfl⟩; rw [HR.out]))
      | (go_at_call 22; go_must (refine (HF.out _).mono ?_; rintro e w3 ⟨rfl, rfl⟩))
      | (go_at_call 13; go_must (refine (same_len 0 _ _ _ _ [] _ rfl (Sees.nil _ _) (Sees.nil _ _) (by decide)).mono ?_; rintro e w6 ⟨rfl, k6, rfl⟩))
      | (go_at_call 19; go_must (refine (codeSet_any false _).mono ?_; rintro e w9 ⟨rfl, rfl⟩)))
    go_ret
    exact ⟨rfl, by repeat (first | exact hb1 | refine Below.alloc ?_ (by have := hb1.size; simp <;> omega) _ | refine Below.drewK ?_ _ | refine Below.drew1 ?_)⟩
  · have hn := roomI_yes h0
    obtain ⟨N, rfl⟩ : ∃ N : Nat, n = N := ⟨n.toNat, by omega⟩
    have HR := Lib.hid hn.1
    have hN1 : 1 ≤ N := by omega
    have hN2 : N ≤ 60 := by omega
    have HS := Lib.hid (fun w => Start_yes N w hN1 hN2)
    have HF := Lib.hid (fun w => refStart_yes N w hN1 hN2)
    have hgt : decide (0 < 3 + 2 * (N : Int)) = true := by simp; omega
    have hl : (layE N).length = 3 + 2 * N := by simp [layE]
    have HL := Lib.hid hl
    clear h0 hn hl
    go_enter Tryz.func7, Tryz.ntmps7
    go_wp2_with (first
      | (go_at_call 9; go_must (refine (awake_any _ HE.out).mono ?_; rintro e w1 ⟨rfl, hb1⟩))
      | (go_at_call 20; go_must (refine (Room_any N _).mono ?_; rintro e w3 ⟨rfl, rfl⟩; rw [HR.out]))
      | (go_at_call 21; go_must (refine (HS.out _).mono ?_; rintro e w3 ⟨a3, c3, rfl, hs3, hb3⟩))
      | (go_at_call 14; go_must (refine (refRoom_any N _).mono ?_; rintro e w4 ⟨rfl, rfl⟩; rw [HR.out]))
      | (go_at_call 22; go_must (refine (HF.out _).mono ?_; rintro e w5 ⟨g5, rfl, hs5, hb5⟩))
      | (go_at_call 13; go_must (refine (same_len (3 + 2 * N) _ _ _ _ (layE N) _ HL.out (by exact hs3.below hb5) (by exact hs5) (by unfold maxLen; omega)).mono ?_; rintro e w6 ⟨rfl, k6, rfl⟩))
      | (go_at_call 19; go_must (refine (codeSet_any true _).mono ?_; rintro e w9 ⟨rfl, rfl⟩)))
    go_ret
    exact ⟨rfl, Below.drewK ((hb1.trans (hb3.mono hb1.size)).trans (hb5.mono (hb1.trans (hb3.mono hb1.size)).size)) _⟩
end Go.Proofs.YtkioddgolmaaeaaGreatDoor
