/-
  quash/quashref16.Copied, quash/quashlaw20.pick, quash/quashref20.Lay: that they answer, and what is asked of it by the law of Read. Condition: at most 2^44 elements.
-/
import Derived.Test.YtocgmonfmpkkkaaGreatDoorDequeRoomsWalk
import Derived.Test.YtocgmonfmpkkkaaGreatDoorDequeRefRead
import Derived.Test.YtocgmonfmpkkkaaGreatDoorDequeDoesWalk
import Derived.RegionTactic
namespace Go.Proofs.YtocgmonfmpkkkaaGreatDoor
open Go.RowKit
set_option maxRecDepth 100000

theorem make64big (m : Nat) (h : m * 8 ≤ 140737488355328) (w : World) : (Instr.makeSlice 23 (.int .i64 m) (.int .i64 m)).run Tryz.prog w = .ok (.slice (some ⟨w.heap.size, 0, none⟩) m m) (w.alloc (.cells (madeCells #[.int .i64 0] m) 2)) := by
  obtain ⟨i0, hi, hz0, hz1, hz2⟩ := info_parts info64
  have h := run_make w (P := Tryz.prog) 23 2 i0 (.int .i64 0) Tryz.underlying23 hi hz0 .i64 .i64 m m (by omega) (Int.le_refl _) (by rw [hz2]; omega) (by omega)
  rw [h, hz1]
  simp [Value.cells]
theorem made_balbig (m : Nat) (w : World) (hm : m ≤ maxLen) : Bal (w.alloc (.cells (madeCells #[.int .i64 0] m) 2)) w.heap.size w.heap.size m (List.replicate m 0) := by
  refine Bal.of_block (Nat.le_refl _) (heap_new _ _ _ rfl) (by simp [size_madeCells]) (by simp) hm ?_
  rw [toList_madeCells_one]
  simp [i64s]
theorem splice_whole {α : Type} (L cs : List α) (h : cs.length = L.length) : splice L 0 cs = cs := by
  unfold splice
  simp [h]
set_option maxHeartbeats 1000000 in
theorem Copied_any (ao : Option Addr) (m c : Nat) (zs : List Int) (w : World) (hl : zs.length = m) (hs : Sees w ao zs) (hlen : m * 8 ≤ 140737488351232) :
    Calls Tryz.prog 10 #[.slice ao m c] w fun e w' => ∃ g, e = .returned (.slice (some ⟨g, 0, none⟩) m m) ∧ Bal w' w.heap.size g m zs ∧ Below w.heap.size w w' := by
  subst hl
  obtain ⟨N, hN⟩ : ∃ N, N = zs.length := ⟨_, rfl⟩
  have hmk := fun w => make64big N (by omega) w
  obtain ⟨cs, hcs⟩ : ∃ cs, cs = i64s zs := ⟨_, rfl⟩
  have hcl : cs.length = N := by rw [hcs, i64s_length, hN]
  have HN := Lib.hid hN
  have HCS := Lib.hid hcs
  have HCL := Lib.hid hcl
  have HS := Lib.hid hs
  have H1 := Lib.hid (show ∀ v ∈ cs, v.oneCell' = true by rw [hcs]; exact i64s_one)
  rw [← hN] at hlen
  rw [← hN]
  have K1 := Lib.hid (show (w.alloc (.cells (madeCells #[.int .i64 0] N) 2)).heap[w.heap.size]? = some (.cells (madeCells #[.int .i64 0] N).toList.toArray 2 (0, 0)) by rw [Array.toArray_toList]; exact heap_new _ _ _ rfl)
  have K2 := Lib.hid (show cs.length = Nat.min N N by rw [hcl]; exact (Nat.min_self N).symm)
  have K3 := Lib.hid (show 0 < cs.length → some (⟨w.heap.size, 0, none⟩ : Addr) = some ⟨w.heap.size, 0, none⟩ ∧ ∃ ad, ao = some ad ∧ ∀ j v, cs[j]? = some v → (w.alloc (.cells (madeCells #[.int .i64 0] N) 2)).cell? (ad.add j) = some v from fun hpos => by
    refine ⟨rfl, ?_⟩
    have hs' := hs.below (w' := w.alloc (.cells (madeCells #[.int .i64 0] N) 2)) ((Below.refl _ _).alloc (Nat.le_refl _) _)
    have hs'' := hs'
    obtain ⟨b, o, h1, _⟩ := hs'
    have := h1 (by intro e; subst e; simp at hN; omega)
    subst this
    exact ⟨_, rfl, by rw [hcs]; exact hs''.news⟩)
  have K4 := Lib.hid (show 0 + cs.length ≤ (madeCells #[.int .i64 0] N).toList.length by rw [hcl]; simp [size_madeCells])
  clear hN hcs hcl hs
  go_enter Tryz.func10, Tryz.ntmps10
  go_wp2_with (with_reducible refine wpList_copy_splice (o := ⟨some 9, _, _, _, _, _⟩) rfl (.tmp 7) (.tmp 8) 23 23 rfl 2 Tryz.underlying23 size64 (some ⟨w.heap.size, 0, none⟩) ao N N N c rfl rfl w.heap.size 0 (madeCells #[.int .i64 0] N).toList 2 K1.out cs K2.out K3.out K4.out H1.out w.heap.size w ((Below.refl _ _).alloc (Nat.le_refl _) _) (Nat.le_refl _) ?_; intro w4 HG4 hB4)
  go_ret
  have hsp : splice (madeCells #[.int .i64 0] N).toList 0 cs = i64s zs := by
    rw [splice_whole _ _ (by rw [HCL.out]; simp [size_madeCells]), HCS.out]
  have g4 := HG4.out
  rw [hsp] at g4
  refine ⟨_, rfl, ?_, hB4⟩
  exact Bal.of_block (Nat.le_refl _) g4 (by simp [i64s, HN.out]) (by rw [← HN.out]; exact Nat.le_refl _) (by unfold maxLen; omega) (by rw [List.take_of_length_le (by simp [i64s])])
theorem rem_natE (x : Int) (n : Nat) (_h : 0 ≤ x) (hn : 1 ≤ n) : ∃ r : Nat, Ending.returned (.int .i64 (x % (n : Int))) = .returned (.int .i64 r) ∧ r < n := by
  have h1 := Int.emod_nonneg x (show (n : Int) ≠ 0 by omega)
  have h2 := Int.emod_lt_of_pos x (show (0 : Int) < n by omega)
  exact ⟨(x % (n : Int)).toNat, by rw [Int.toNat_of_nonneg h1], by omega⟩
theorem rem_nat (x : Int) (n : Nat) (h : 0 ≤ x) (hn : 1 ≤ n) : ∃ r : Nat, Ending.returned (.int .i64 (x.tmod (n : Int))) = .returned (.int .i64 r) ∧ r < n := by
  rw [Int.tmod_eq_emod_of_nonneg h]
  exact rem_natE x n h hn
/-- a raw number made a place -/
theorem pick_any (c : Int) (n : Nat) (w : World) (hn : 1 ≤ n) (hn2 : n ≤ 100000) (h1 : -9223372036854775808 ≤ c) (h2 : c ≤ 9223372036854775807) :
    Calls Tryz.prog 16 #[.int .i64 c, .int .i64 n] w fun e w' => (∃ r : Nat, e = .returned (.int .i64 r) ∧ r < n) ∧ w' = w := by
  have hn0 : ((n : Int) == 0) = false := by simp; omega
  have hn1 : (0 : Int) < n := by omega
  by_cases hc : c < 0
  · have hc2 : 0 ≤ -(c + 1) := by omega
    go_enter Tryz.func16, Tryz.ntmps16
    go_wp2
    go_ret
    have hr := rem_nat (-(c + 1)) n hc2 hn
    rw [Int.neg_tmod] at hr
    exact ⟨hr, rfl⟩
  · have hc2 : 0 ≤ c := by omega
    go_enter Tryz.func16, Tryz.ntmps16
    go_wp2
    go_ret
    exact ⟨rem_natE c n hc2 hn, rfl⟩
theorem Sees.at' {w : World} {ao : Option Addr} {zs : List Int} (h : Sees w ao zs) (j : Nat) {z : Int} (hj : zs[j]? = some z) : ∃ b o, ao = some ⟨b, o, none⟩ ∧ w.cell? ⟨b, o + j, none⟩ = some (.int .i64 z) := by
  obtain ⟨b, o, h1, h2⟩ := h
  have hl := (List.getElem?_eq_some_iff.1 hj).1
  refine ⟨b, o, h1 (by intro e; subst e; simp at hl), (h2 j hl).trans ?_⟩
  rw [List.getD_eq_getElem?_getD, hj]; rfl
/-- the seed made small -/
theorem seed_small (seed : Int) (h1 : -9223372036854775808 ≤ seed) (h2 : seed ≤ 9223372036854775807) : ∃ r : Int, seed.tmod 1000003 = r ∧ -1000002 ≤ r ∧ r ≤ 1000002 ∧ (0 ≤ seed → seed % 1000003 = r ∧ 0 ≤ r) := by
  rcases Int.le_total 0 seed with h | h
  · refine ⟨seed % 1000003, Int.tmod_eq_emod_of_nonneg h, by omega, by omega, fun _ => ⟨rfl, by omega⟩⟩
  · have e : seed.tmod 1000003 = -((-seed) % 1000003) := by
      rw [← Int.tmod_eq_emod_of_nonneg (by omega : 0 ≤ -seed), Int.neg_tmod, Int.neg_neg]
    refine ⟨-((-seed) % 1000003), e, by omega, by omega, fun h0 => ?_⟩
    obtain rfl : seed = 0 := by omega
    decide
set_option maxHeartbeats 2000000 in
theorem Lay_any (ao : Option Addr) (c : Nat) (zs : List Int) (N : Nat) (seed : Int) (w : World) (hs : Sees w ao zs) (hn : 1 ≤ N) (hn2 : N ≤ 100) (hz : zs.length ≤ N) (h1 : -9223372036854775808 ≤ seed) (h2 : seed ≤ 9223372036854775807) :
    Calls Tryz.prog 15 #[.slice ao zs.length c, .int .i64 N, .int .i64 seed] w fun e w' => ∃ g Z, e = .returned (.slice (some ⟨g, 0, none⟩) (2 + N) (2 + N)) ∧ Z.length = 2 + N ∧ Bal w' w.heap.size g (2 + N) Z ∧ Below w.heap.size w w' := by
  obtain ⟨M, hM⟩ : ∃ M, M = zs.length := ⟨_, rfl⟩
  have HM := Lib.hid hM
  have HS := Lib.hid hs
  rw [← hM] at hz
  rw [← hM]
  obtain ⟨r, hr1, hr2, hr3, hr4⟩ := seed_small seed h1 h2
  have hmk := fun w => make64 (2 + N) (by omega) w
  rw [show ((2 + N : Nat) : Int) = 2 + (N : Int) by omega] at hmk
  clear hM hs
  have hcase : (0 ≤ seed ∧ seed % 1000003 = r ∧ 0 ≤ r ∧ decide (r < 0) = false) ∨ (seed < 0 ∧ r < 0) ∨ (seed < 0 ∧ 0 ≤ r ∧ decide (r < 0) = false) := by
    by_cases h : seed < 0
    · by_cases h' : r < 0
      · exact Or.inr (Or.inl ⟨h, h'⟩)
      · exact Or.inr (Or.inr ⟨h, by omega, by simpa using h'⟩)
    · have := hr4 (by omega)
      exact Or.inl ⟨by omega, this.1, this.2, by simpa using this.2⟩
  clear hr4
  have HBAL := Lib.hid (made_bal (2 + N) w (by omega))
  go_enter Tryz.func15, Tryz.ntmps15
  rcases hcase with ⟨k1, k2, k3, k4⟩ | ⟨k1, k2⟩ | ⟨k1, k2, k3⟩
  · go_upto_region 5 with fail
    have s2 : r ≤ 1000002 := by omega
    refine wp_gen (fun W => Bal W w.heap.size w.heap.size (2 + N) (List.replicate (2 + N) 0) ∧ Below w.heap.size w W) ⟨by exact HBAL.out, (Below.refl _ _).alloc (Nat.le_refl _) _⟩ ?_
    rintro W ⟨hbW, hBW⟩
    go_wp2
    go_loopw [8] (fun v wr => ∃ (i : Nat) (Z : List Int), i ≤ N ∧ v = .int .i64 i ∧ Z.length = 2 + N ∧ Bal wr w.heap.size w.heap.size (2 + N) Z ∧ Below w.heap.size w wr) (fun v _ => N - (intOf v).toNat)
    case atStart => exact ⟨0, _, Nat.zero_le _, rfl, List.length_replicate, hbW, hBW⟩
    case round =>
      obtain ⟨i, Z, hi, rfl, hZ, hb, hB⟩ := hrel
      by_cases hlt : i < N
      · obtain ⟨z, hz'⟩ : ∃ z, Z[2 + i]? = some z := ⟨_, List.getElem?_eq_getElem (by omega)⟩
        have hc := hb.cell (2 + i) hz'
        have hf : wr.frozen? ⟨w.heap.size, 2 + i, none⟩ = false := hb.frozenAt (2 + i)
        have HB := Lib.hid hb
        have HZ := Lib.hid hZ
        have hi3 : (0 : Int) < (i : Int) + 3 := by omega
        clear hz' hb hZ
        go_wp2
        go_roundw
        case rel => exact ⟨i + 1, Z.set (2 + i) (r % ((i : Int) + 3)), by omega, by go_num, by rw [List.length_set]; exact HZ.out, by exact HB.out.set (2 + i) _, hB.setCell (p := ⟨w.heap.size, 2 + i, none⟩) (Nat.le_refl _) _⟩
        case measure => simp [intOf]; omega
      · obtain rfl : i = N := by omega
        obtain ⟨z0, hz0⟩ : ∃ z, Z[0]? = some z := ⟨_, List.getElem?_eq_getElem (by omega)⟩
        obtain ⟨z1, hz1⟩ : ∃ z, Z[1]? = some z := ⟨_, List.getElem?_eq_getElem (by omega)⟩
        have hc0 := hb.cell 0 hz0
        have hc1 := hb.cell 1 hz1
        have hf0 : wr.frozen? ⟨w.heap.size, 0, none⟩ = false := hb.frozenAt 0
        have hf1 : wr.frozen? ⟨w.heap.size, 1, none⟩ = false := hb.frozenAt 1
        have HB := Lib.hid hb
        have HZ := Lib.hid hZ
        have hn1 : (0 : Int) < (i : Int) := by omega
        have hn0 : ((i : Int) == 0) = false := by simp; omega
        obtain ⟨p, hp⟩ : ∃ p : Nat, r % (i : Int) = p := ⟨(r % (i : Int)).toNat, (Int.toNat_of_nonneg (Int.emod_nonneg _ (by omega))).symm⟩
        have hp2 : p < i := by have := Int.emod_lt_of_pos r hn1; omega
        clear hz0 hz1 hb hZ
        go_wp2
        have HB2 := Lib.hid ((HB.out.set 0 p).set 1 M)
        have hB2 : Below w.heap.size w ((wr.setCell ⟨w.heap.size, 0, none⟩ (.int .i64 p)).setCell ⟨w.heap.size, 1, none⟩ (.int .i64 M)) := (hB.setCell (p := ⟨w.heap.size, 0, none⟩) (Nat.le_refl _) _).setCell (p := ⟨w.heap.size, 1, none⟩) (Nat.le_refl _) _
        clear hc0 hc1 hf0 hf1
        try simp only [hp]
        go_loopw [9] (fun v wr' => ∃ (k : Nat) (Y : List Int), k ≤ M ∧ v = .int .i64 k ∧ Y.length = 2 + i ∧ Bal wr' w.heap.size w.heap.size (2 + i) Y ∧ Below w.heap.size w wr') (fun v _ => M - (intOf v).toNat)
        case atStart => exact ⟨0, _, Nat.zero_le _, rfl, by rw [List.length_set, List.length_set]; exact HZ.out, HB2.out, hB2⟩
        case round =>
          obtain ⟨k, Y, hk, rfl, hY, hb, hB'⟩ := hrel
          by_cases hlt : k < M
          · obtain ⟨q, hq⟩ : ∃ q : Nat, ((p : Int) + (k : Int)) % (i : Int) = q := ⟨(((p : Int) + (k : Int)) % (i : Int)).toNat, (Int.toNat_of_nonneg (Int.emod_nonneg _ (by omega))).symm⟩
            have hq2 : q < i := by have := Int.emod_lt_of_pos ((p : Int) + (k : Int)) hn1; omega
            obtain ⟨x, hx⟩ : ∃ x, zs[k]? = some x := ⟨_, List.getElem?_eq_getElem (by rw [← HM.out]; exact hlt)⟩
            obtain ⟨bb, oo, rfl, hcx⟩ := Sees.at' (HS.out.below hB') k hx
            obtain ⟨y, hy⟩ : ∃ y, Y[2 + q]? = some y := ⟨_, List.getElem?_eq_getElem (by omega)⟩
            have hcy := hb.cell (2 + q) hy
            have hfy : wr.frozen? ⟨w.heap.size, 2 + q, none⟩ = false := hb.frozenAt (2 + q)
            have HB3 := Lib.hid hb
            have HY := Lib.hid hY
            have hk0 : (0 : Int) ≤ (k : Int) := by omega
            have hk1 : (k : Int) < (M : Int) := by omega
            have hq0 : (0 : Int) ≤ 2 + (q : Int) := by omega
            have hq1 : 2 + (q : Int) < 2 + (i : Int) := by omega
            have ht1 : r.tmod (i : Int) = (p : Int) := by rw [Int.tmod_eq_emod_of_nonneg (by omega)]; exact hp
            have ht2 : ((p : Int) + (k : Int)).tmod (i : Int) = (q : Int) := by rw [Int.tmod_eq_emod_of_nonneg (by omega)]; exact hq
            have htn : (2 + (q : Int)).toNat = 2 + q := by omega
            have hiz : ¬ (i : Int) = 0 := by omega
            have hiz' : ¬ i = 0 := by omega
            have hw1 : IntKind.i64.wrap ((p : Int) + (k : Int)) = (p : Int) + (k : Int) := by rw [IntKind.wrap_i64]; omega
            have hw2 : IntKind.i64.wrap (2 + (q : Int)) = 2 + (q : Int) := by rw [IntKind.wrap_i64]; omega
            clear hx hy hY hb
            go_wp2
            go_still_tail 14, (by kernel_rfl)
            go_wp2
            go_roundw
            case rel => exact ⟨k + 1, Y.set (2 + q) x, by omega, by go_num, by rw [List.length_set]; exact HY.out, by exact HB3.out.set (2 + q) x, below_drewed1 (hB'.setCell (p := ⟨w.heap.size, 2 + q, none⟩) (Nat.le_refl _) _)⟩
            case measure => simp [intOf]; omega
          · obtain rfl : k = M := by omega
            go_wp2
            go_ret
            exact ⟨_, Y, rfl, hY, hb, hB'⟩
  · go_upto_region 5 with fail
    obtain ⟨s, hs⟩ : ∃ s, s = -(r + 1) := ⟨_, rfl⟩
    rw [← hs]
    have s1 : 0 ≤ s := by omega
    have s2 : s ≤ 1000002 := by omega
    clear hs
    refine wp_gen (fun W => Bal W w.heap.size w.heap.size (2 + N) (List.replicate (2 + N) 0) ∧ Below w.heap.size w W) ⟨by exact HBAL.out, (Below.refl _ _).alloc (Nat.le_refl _) _⟩ ?_
    rintro W ⟨hbW, hBW⟩
    go_wp2
    go_loopw [8] (fun v wr => ∃ (i : Nat) (Z : List Int), i ≤ N ∧ v = .int .i64 i ∧ Z.length = 2 + N ∧ Bal wr w.heap.size w.heap.size (2 + N) Z ∧ Below w.heap.size w wr) (fun v _ => N - (intOf v).toNat)
    case atStart => exact ⟨0, _, Nat.zero_le _, rfl, List.length_replicate, hbW, hBW⟩
    case round =>
      obtain ⟨i, Z, hi, rfl, hZ, hb, hB⟩ := hrel
      by_cases hlt : i < N
      · obtain ⟨z, hz'⟩ : ∃ z, Z[2 + i]? = some z := ⟨_, List.getElem?_eq_getElem (by omega)⟩
        have hc := hb.cell (2 + i) hz'
        have hf : wr.frozen? ⟨w.heap.size, 2 + i, none⟩ = false := hb.frozenAt (2 + i)
        have HB := Lib.hid hb
        have HZ := Lib.hid hZ
        have hi3 : (0 : Int) < (i : Int) + 3 := by omega
        clear hz' hb hZ
        go_wp2
        go_roundw
        case rel => exact ⟨i + 1, Z.set (2 + i) (s % ((i : Int) + 3)), by omega, by go_num, by rw [List.length_set]; exact HZ.out, by exact HB.out.set (2 + i) _, hB.setCell (p := ⟨w.heap.size, 2 + i, none⟩) (Nat.le_refl _) _⟩
        case measure => simp [intOf]; omega
      · obtain rfl : i = N := by omega
        obtain ⟨z0, hz0⟩ : ∃ z, Z[0]? = some z := ⟨_, List.getElem?_eq_getElem (by omega)⟩
        obtain ⟨z1, hz1⟩ : ∃ z, Z[1]? = some z := ⟨_, List.getElem?_eq_getElem (by omega)⟩
        have hc0 := hb.cell 0 hz0
        have hc1 := hb.cell 1 hz1
        have hf0 : wr.frozen? ⟨w.heap.size, 0, none⟩ = false := hb.frozenAt 0
        have hf1 : wr.frozen? ⟨w.heap.size, 1, none⟩ = false := hb.frozenAt 1
        have HB := Lib.hid hb
        have HZ := Lib.hid hZ
        have hn1 : (0 : Int) < (i : Int) := by omega
        have hn0 : ((i : Int) == 0) = false := by simp; omega
        obtain ⟨p, hp⟩ : ∃ p : Nat, s % (i : Int) = p := ⟨(s % (i : Int)).toNat, (Int.toNat_of_nonneg (Int.emod_nonneg _ (by omega))).symm⟩
        have hp2 : p < i := by have := Int.emod_lt_of_pos s hn1; omega
        clear hz0 hz1 hb hZ
        go_wp2
        have HB2 := Lib.hid ((HB.out.set 0 p).set 1 M)
        have hB2 : Below w.heap.size w ((wr.setCell ⟨w.heap.size, 0, none⟩ (.int .i64 p)).setCell ⟨w.heap.size, 1, none⟩ (.int .i64 M)) := (hB.setCell (p := ⟨w.heap.size, 0, none⟩) (Nat.le_refl _) _).setCell (p := ⟨w.heap.size, 1, none⟩) (Nat.le_refl _) _
        clear hc0 hc1 hf0 hf1
        try simp only [hp]
        go_loopw [9] (fun v wr' => ∃ (k : Nat) (Y : List Int), k ≤ M ∧ v = .int .i64 k ∧ Y.length = 2 + i ∧ Bal wr' w.heap.size w.heap.size (2 + i) Y ∧ Below w.heap.size w wr') (fun v _ => M - (intOf v).toNat)
        case atStart => exact ⟨0, _, Nat.zero_le _, rfl, by rw [List.length_set, List.length_set]; exact HZ.out, HB2.out, hB2⟩
        case round =>
          obtain ⟨k, Y, hk, rfl, hY, hb, hB'⟩ := hrel
          by_cases hlt : k < M
          · obtain ⟨q, hq⟩ : ∃ q : Nat, ((p : Int) + (k : Int)) % (i : Int) = q := ⟨(((p : Int) + (k : Int)) % (i : Int)).toNat, (Int.toNat_of_nonneg (Int.emod_nonneg _ (by omega))).symm⟩
            have hq2 : q < i := by have := Int.emod_lt_of_pos ((p : Int) + (k : Int)) hn1; omega
            obtain ⟨x, hx⟩ : ∃ x, zs[k]? = some x := ⟨_, List.getElem?_eq_getElem (by rw [← HM.out]; exact hlt)⟩
            obtain ⟨bb, oo, rfl, hcx⟩ := Sees.at' (HS.out.below hB') k hx
            obtain ⟨y, hy⟩ : ∃ y, Y[2 + q]? = some y := ⟨_, List.getElem?_eq_getElem (by omega)⟩
            have hcy := hb.cell (2 + q) hy
            have hfy : wr.frozen? ⟨w.heap.size, 2 + q, none⟩ = false := hb.frozenAt (2 + q)
            have HB3 := Lib.hid hb
            have HY := Lib.hid hY
            have hk0 : (0 : Int) ≤ (k : Int) := by omega
            have hk1 : (k : Int) < (M : Int) := by omega
            have hq0 : (0 : Int) ≤ 2 + (q : Int) := by omega
            have hq1 : 2 + (q : Int) < 2 + (i : Int) := by omega
            have ht1 : s.tmod (i : Int) = (p : Int) := by rw [Int.tmod_eq_emod_of_nonneg (by omega)]; exact hp
            have ht2 : ((p : Int) + (k : Int)).tmod (i : Int) = (q : Int) := by rw [Int.tmod_eq_emod_of_nonneg (by omega)]; exact hq
            have htn : (2 + (q : Int)).toNat = 2 + q := by omega
            have hiz : ¬ (i : Int) = 0 := by omega
            have hiz' : ¬ i = 0 := by omega
            have hw1 : IntKind.i64.wrap ((p : Int) + (k : Int)) = (p : Int) + (k : Int) := by rw [IntKind.wrap_i64]; omega
            have hw2 : IntKind.i64.wrap (2 + (q : Int)) = 2 + (q : Int) := by rw [IntKind.wrap_i64]; omega
            clear hx hy hY hb
            go_wp2
            go_still_tail 14, (by kernel_rfl)
            go_wp2
            go_roundw
            case rel => exact ⟨k + 1, Y.set (2 + q) x, by omega, by go_num, by rw [List.length_set]; exact HY.out, by exact HB3.out.set (2 + q) x, below_drewed1 (hB'.setCell (p := ⟨w.heap.size, 2 + q, none⟩) (Nat.le_refl _) _)⟩
            case measure => simp [intOf]; omega
          · obtain rfl : k = M := by omega
            go_wp2
            go_ret
            exact ⟨_, Y, rfl, hY, hb, hB'⟩
  · go_upto_region 5 with fail
    have s2 : r ≤ 1000002 := by omega
    refine wp_gen (fun W => Bal W w.heap.size w.heap.size (2 + N) (List.replicate (2 + N) 0) ∧ Below w.heap.size w W) ⟨by exact HBAL.out, (Below.refl _ _).alloc (Nat.le_refl _) _⟩ ?_
    rintro W ⟨hbW, hBW⟩
    go_wp2
    go_loopw [8] (fun v wr => ∃ (i : Nat) (Z : List Int), i ≤ N ∧ v = .int .i64 i ∧ Z.length = 2 + N ∧ Bal wr w.heap.size w.heap.size (2 + N) Z ∧ Below w.heap.size w wr) (fun v _ => N - (intOf v).toNat)
    case atStart => exact ⟨0, _, Nat.zero_le _, rfl, List.length_replicate, hbW, hBW⟩
    case round =>
      obtain ⟨i, Z, hi, rfl, hZ, hb, hB⟩ := hrel
      by_cases hlt : i < N
      · obtain ⟨z, hz'⟩ : ∃ z, Z[2 + i]? = some z := ⟨_, List.getElem?_eq_getElem (by omega)⟩
        have hc := hb.cell (2 + i) hz'
        have hf : wr.frozen? ⟨w.heap.size, 2 + i, none⟩ = false := hb.frozenAt (2 + i)
        have HB := Lib.hid hb
        have HZ := Lib.hid hZ
        have hi3 : (0 : Int) < (i : Int) + 3 := by omega
        clear hz' hb hZ
        go_wp2
        go_roundw
        case rel => exact ⟨i + 1, Z.set (2 + i) (r % ((i : Int) + 3)), by omega, by go_num, by rw [List.length_set]; exact HZ.out, by exact HB.out.set (2 + i) _, hB.setCell (p := ⟨w.heap.size, 2 + i, none⟩) (Nat.le_refl _) _⟩
        case measure => simp [intOf]; omega
      · obtain rfl : i = N := by omega
        obtain ⟨z0, hz0⟩ : ∃ z, Z[0]? = some z := ⟨_, List.getElem?_eq_getElem (by omega)⟩
        obtain ⟨z1, hz1⟩ : ∃ z, Z[1]? = some z := ⟨_, List.getElem?_eq_getElem (by omega)⟩
        have hc0 := hb.cell 0 hz0
        have hc1 := hb.cell 1 hz1
        have hf0 : wr.frozen? ⟨w.heap.size, 0, none⟩ = false := hb.frozenAt 0
        have hf1 : wr.frozen? ⟨w.heap.size, 1, none⟩ = false := hb.frozenAt 1
        have HB := Lib.hid hb
        have HZ := Lib.hid hZ
        have hn1 : (0 : Int) < (i : Int) := by omega
        have hn0 : ((i : Int) == 0) = false := by simp; omega
        obtain ⟨p, hp⟩ : ∃ p : Nat, r % (i : Int) = p := ⟨(r % (i : Int)).toNat, (Int.toNat_of_nonneg (Int.emod_nonneg _ (by omega))).symm⟩
        have hp2 : p < i := by have := Int.emod_lt_of_pos r hn1; omega
        clear hz0 hz1 hb hZ
        go_wp2
        have HB2 := Lib.hid ((HB.out.set 0 p).set 1 M)
        have hB2 : Below w.heap.size w ((wr.setCell ⟨w.heap.size, 0, none⟩ (.int .i64 p)).setCell ⟨w.heap.size, 1, none⟩ (.int .i64 M)) := (hB.setCell (p := ⟨w.heap.size, 0, none⟩) (Nat.le_refl _) _).setCell (p := ⟨w.heap.size, 1, none⟩) (Nat.le_refl _) _
        clear hc0 hc1 hf0 hf1
        try simp only [hp]
        go_loopw [9] (fun v wr' => ∃ (k : Nat) (Y : List Int), k ≤ M ∧ v = .int .i64 k ∧ Y.length = 2 + i ∧ Bal wr' w.heap.size w.heap.size (2 + i) Y ∧ Below w.heap.size w wr') (fun v _ => M - (intOf v).toNat)
        case atStart => exact ⟨0, _, Nat.zero_le _, rfl, by rw [List.length_set, List.length_set]; exact HZ.out, HB2.out, hB2⟩
        case round =>
          obtain ⟨k, Y, hk, rfl, hY, hb, hB'⟩ := hrel
          by_cases hlt : k < M
          · obtain ⟨q, hq⟩ : ∃ q : Nat, ((p : Int) + (k : Int)) % (i : Int) = q := ⟨(((p : Int) + (k : Int)) % (i : Int)).toNat, (Int.toNat_of_nonneg (Int.emod_nonneg _ (by omega))).symm⟩
            have hq2 : q < i := by have := Int.emod_lt_of_pos ((p : Int) + (k : Int)) hn1; omega
            obtain ⟨x, hx⟩ : ∃ x, zs[k]? = some x := ⟨_, List.getElem?_eq_getElem (by rw [← HM.out]; exact hlt)⟩
            obtain ⟨bb, oo, rfl, hcx⟩ := Sees.at' (HS.out.below hB') k hx
            obtain ⟨y, hy⟩ : ∃ y, Y[2 + q]? = some y := ⟨_, List.getElem?_eq_getElem (by omega)⟩
            have hcy := hb.cell (2 + q) hy
            have hfy : wr.frozen? ⟨w.heap.size, 2 + q, none⟩ = false := hb.frozenAt (2 + q)
            have HB3 := Lib.hid hb
            have HY := Lib.hid hY
            have hk0 : (0 : Int) ≤ (k : Int) := by omega
            have hk1 : (k : Int) < (M : Int) := by omega
            have hq0 : (0 : Int) ≤ 2 + (q : Int) := by omega
            have hq1 : 2 + (q : Int) < 2 + (i : Int) := by omega
            have ht1 : r.tmod (i : Int) = (p : Int) := by rw [Int.tmod_eq_emod_of_nonneg (by omega)]; exact hp
            have ht2 : ((p : Int) + (k : Int)).tmod (i : Int) = (q : Int) := by rw [Int.tmod_eq_emod_of_nonneg (by omega)]; exact hq
            have htn : (2 + (q : Int)).toNat = 2 + q := by omega
            have hiz : ¬ (i : Int) = 0 := by omega
            have hiz' : ¬ i = 0 := by omega
            have hw1 : IntKind.i64.wrap ((p : Int) + (k : Int)) = (p : Int) + (k : Int) := by rw [IntKind.wrap_i64]; omega
            have hw2 : IntKind.i64.wrap (2 + (q : Int)) = 2 + (q : Int) := by rw [IntKind.wrap_i64]; omega
            clear hx hy hY hb
            go_wp2
            go_still_tail 14, (by kernel_rfl)
            go_wp2
            go_roundw
            case rel => exact ⟨k + 1, Y.set (2 + q) x, by omega, by go_num, by rw [List.length_set]; exact HY.out, by exact HB3.out.set (2 + q) x, below_drewed1 (hB'.setCell (p := ⟨w.heap.size, 2 + q, none⟩) (Nat.le_refl _) _)⟩
            case measure => simp [intOf]; omega
          · obtain rfl : k = M := by omega
            go_wp2
            go_ret
            exact ⟨_, Y, rfl, hY, hb, hB'⟩
end Go.Proofs.YtocgmonfmpkkkaaGreatDoor
