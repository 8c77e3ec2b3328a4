/-
  quash/quashref16.Copied, quash/quashlaw19.pick. Condition: at most 2^44 elements.
-/
import Derived.Test.YtochpdailleilaaGreatDoorDictRoomsWalk
namespace Go.Proofs.YtochpdailleilaaGreatDoor
open Go.RowKit
set_option maxRecDepth 100000

theorem size64 : (Tryz.prog.info? 2).map (·.size) = some 1 := by
  obtain ⟨i0, hi, _, h1, _⟩ := info_parts info64
  rw [hi]; simp [h1]
theorem make64big (m : Nat) (h : m * 8 ≤ 140737488355328) (w : World) : (Instr.makeSlice 23 (.int .i64 m) (.int .i64 m)).run Tryz.prog w = .ok (.slice (some ⟨w.heap.size, 0, none⟩) m m) (w.alloc (.cells (madeCells #[.int .i64 0] m) 2)) := by
  obtain ⟨i0, hi, hz0, hz1, hz2⟩ := info_parts info64
  have h := run_make w (P := Tryz.prog) 23 2 i0 (.int .i64 0) Tryz.underlying23 hi hz0 .i64 .i64 m m (by omega) (Int.le_refl _) (by rw [hz2]; omega) (by omega)
  rw [h, hz1]
  simp [Value.cells]
theorem made_balbig (m : Nat) (w : World) (hm : m ≤ maxLen) : Bal (w.alloc (.cells (madeCells #[.int .i64 0] m) 2)) w.heap.size w.heap.size m (List.replicate m 0) := by
  refine Bal.of_block (Nat.le_refl _) (heap_new _ _ _ rfl) (by simp [size_madeCells]) (by simp) hm ?_
  rw [toList_madeCells_one]
  simp [i64s]
theorem splice_whole {α : Type} (L cs : List α) (h : cs.length = L.length) : splice L 0 cs = cs := by
  unfold splice
  simp [h]
set_option maxHeartbeats 1000000 in
theorem Copied_any (ao : Option Addr) (m c : Nat) (zs : List Int) (w : World) (hl : zs.length = m) (hs : Sees w ao zs) (hlen : m * 8 ≤ 140737488351232) :
    Calls Tryz.prog 10 #[.slice ao m c] w fun e w' => ∃ g, e = .returned (.slice (some ⟨g, 0, none⟩) m m) ∧ Bal w' w.heap.size g m zs ∧ Below w.heap.size w w' := by
  subst hl
  obtain ⟨N, hN⟩ : ∃ N, N = zs.length := ⟨_, rfl⟩
  have hmk := fun w => make64big N (by omega) w
  obtain ⟨cs, hcs⟩ : ∃ cs, cs = i64s zs := ⟨_, rfl⟩
  have hcl : cs.length = N := by rw [hcs, i64s_length, hN]
  have HN := Lib.hid hN
  have HCS := Lib.hid hcs
  have HCL := Lib.hid hcl
  have HS := Lib.hid hs
  have H1 := Lib.hid (show ∀ v ∈ cs, v.oneCell' = true by rw [hcs]; exact i64s_one)
  rw [← hN] at hlen
  rw [← hN]
  have K1 := Lib.hid (show (w.alloc (.cells (madeCells #[.int .i64 0] N) 2)).heap[w.heap.size]? = some (.cells (madeCells #[.int .i64 0] N).toList.toArray 2 (0, 0)) by rw [Array.toArray_toList]; exact heap_new _ _ _ rfl)
  have K2 := Lib.hid (show cs.length = Nat.min N N by rw [hcl]; exact (Nat.min_self N).symm)
  have K3 := Lib.hid (show 0 < cs.length → some (⟨w.heap.size, 0, none⟩ : Addr) = some ⟨w.heap.size, 0, none⟩ ∧ ∃ ad, ao = some ad ∧ ∀ j v, cs[j]? = some v → (w.alloc (.cells (madeCells #[.int .i64 0] N) 2)).cell? (ad.add j) = some v from fun hpos => by
    refine ⟨rfl, ?_⟩
    have hs' := hs.below (w' := w.alloc (.cells (madeCells #[.int .i64 0] N) 2)) ((Below.refl _ _).alloc (Nat.le_refl _) _)
    have hs'' := hs'
    obtain ⟨b, o, h1, _⟩ := hs'
    have := h1 (by intro e; subst e; simp at hN; omega)
    subst this
    exact ⟨_, rfl, by rw [hcs]; exact hs''.news⟩)
  have K4 := Lib.hid (show 0 + cs.length ≤ (madeCells #[.int .i64 0] N).toList.length by rw [hcl]; simp [size_madeCells])
  clear hN hcs hcl hs
  go_enter Tryz.func10, Tryz.ntmps10
  go_wp2_with (with_reducible refine wpList_copy_splice (o := ⟨some 9, _, _, _, _, _⟩) rfl (.tmp 7) (.tmp 8) 23 23 rfl 2 Tryz.underlying23 size64 (some ⟨w.heap.size, 0, none⟩) ao N N N c rfl rfl w.heap.size 0 (madeCells #[.int .i64 0] N).toList 2 K1.out cs K2.out K3.out K4.out H1.out w.heap.size w ((Below.refl _ _).alloc (Nat.le_refl _) _) (Nat.le_refl _) ?_; intro w4 HG4 hB4)
  go_ret
  have hsp : splice (madeCells #[.int .i64 0] N).toList 0 cs = i64s zs := by
    rw [splice_whole _ _ (by rw [HCL.out]; simp [size_madeCells]), HCS.out]
  have g4 := HG4.out
  rw [hsp] at g4
  refine ⟨_, rfl, ?_, hB4⟩
  exact Bal.of_block (Nat.le_refl _) g4 (by simp [i64s, HN.out]) (by rw [← HN.out]; exact Nat.le_refl _) (by unfold maxLen; omega) (by rw [List.take_of_length_le (by simp [i64s])])
theorem rem_natE (x : Int) (n : Nat) (_h : 0 ≤ x) (hn : 1 ≤ n) : ∃ r : Nat, Ending.returned (.int .i64 (x % (n : Int))) = .returned (.int .i64 r) ∧ r < n := by
  have h1 := Int.emod_nonneg x (show (n : Int) ≠ 0 by omega)
  have h2 := Int.emod_lt_of_pos x (show (0 : Int) < n by omega)
  exact ⟨(x % (n : Int)).toNat, by rw [Int.toNat_of_nonneg h1], by omega⟩
theorem rem_nat (x : Int) (n : Nat) (h : 0 ≤ x) (hn : 1 ≤ n) : ∃ r : Nat, Ending.returned (.int .i64 (x.tmod (n : Int))) = .returned (.int .i64 r) ∧ r < n := by
  rw [Int.tmod_eq_emod_of_nonneg h]
  exact rem_natE x n h hn
/-- a raw number made a place -/
theorem pick_any (c : Int) (n : Nat) (w : World) (hn : 1 ≤ n) (hn2 : n ≤ 100000) (h1 : -9223372036854775808 ≤ c) (h2 : c ≤ 9223372036854775807) :
    Calls Tryz.prog 17 #[.int .i64 c, .int .i64 n] w fun e w' => (∃ r : Nat, e = .returned (.int .i64 r) ∧ r < n) ∧ w' = w := by
  have hn0 : ((n : Int) == 0) = false := by simp; omega
  have hn1 : (0 : Int) < n := by omega
  by_cases hc : c < 0
  · have hc2 : 0 ≤ -(c + 1) := by omega
    go_enter Tryz.func17, Tryz.ntmps17
    go_wp2
    go_ret
    have hr := rem_nat (-(c + 1)) n hc2 hn
    rw [Int.neg_tmod] at hr
    exact ⟨hr, rfl⟩
  · have hc2 : 0 ≤ c := by omega
    go_enter Tryz.func17, Tryz.ntmps17
    go_wp2
    go_ret
    exact ⟨rem_natE c n hc2 hn, rfl⟩
theorem Sees.at' {w : World} {ao : Option Addr} {zs : List Int} (h : Sees w ao zs) (j : Nat) {z : Int} (hj : zs[j]? = some z) : ∃ b o, ao = some ⟨b, o, none⟩ ∧ w.cell? ⟨b, o + j, none⟩ = some (.int .i64 z) := by
  obtain ⟨b, o, h1, h2⟩ := h
  have hl := (List.getElem?_eq_some_iff.1 hj).1
  refine ⟨b, o, h1 (by intro e; subst e; simp at hl), (h2 j hl).trans ?_⟩
  rw [List.getD_eq_getElem?_getD, hj]; rfl
end Go.Proofs.YtochpdailleilaaGreatDoor
