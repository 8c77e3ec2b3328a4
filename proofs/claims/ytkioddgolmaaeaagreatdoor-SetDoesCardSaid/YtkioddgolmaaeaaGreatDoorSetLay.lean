/-
  quash/quashref18.Lay: that it answers, its length, and what it is for nothing laid at seed 0. Condition: at most 60 nodes, the keys no more than the nodes.
-/
import Derived.Test.YtkioddgolmaaeaaGreatDoorSetAwake
import Derived.RegionTactic
import Derived.StillTailTactics
namespace Go.Proofs.YtkioddgolmaaeaaGreatDoor
open Go.RowKit
set_option maxRecDepth 100000

theorem infoIntS : (Tryz.prog.info? 3).map (fun i => (i.zero, i.size, i.bytes)) = some (some (.int .i64 0), 1, 8) := by kernel_rfl
theorem makeIntS (m : Nat) (h : m ≤ 100000) (w : World) : (Instr.makeSlice 57 (.int .i64 m) (.int .i64 m)).run Tryz.prog w = .ok (.slice (some ⟨w.heap.size, 0, none⟩) m m) (w.alloc (.cells (madeCells #[.int .i64 0] m) 3)) := by
  obtain ⟨i0, hi, hz0, hz1, hz2⟩ := info_parts infoIntS
  have h := run_makeSlice (w := w) (P := Tryz.prog) 57 3 i0 (.int .i64 0) Tryz.underlying57 hi hz0 .i64 .i64 m m (by omega) (Int.le_refl _) (by rw [hz1]; simp; omega) (by rw [hz2]; omega) (by omega)
  rw [h, hz1]
  simp [Value.cells]
/-- a row of int -/
def IntRow (w : World) (g : Nat) (L : List Int) : Prop := w.heap[g]? = some (.cells (L.map (Value.int .i64)).toArray 3)
theorem IntRow.cell {w : World} {g : Nat} {L : List Int} (h : IntRow w g L) (j : Nat) {z : Int} (hj : L[j]? = some z) : w.cell? ⟨g, j, none⟩ = some (.int .i64 z) := by
  rw [cell_of_row _ _ j _ _ _ h]
  simp [hj]
theorem IntRow.frozen {w : World} {g : Nat} {L : List Int} (h : IntRow w g L) (j : Nat) : w.frozen? ⟨g, j, none⟩ = false := frozen_of_row w g j _ _ h
theorem IntRow.set {w : World} {g : Nat} {L : List Int} (h : IntRow w g L) (j : Nat) (z : Int) : IntRow (w.setCell ⟨g, j, none⟩ (.int .i64 z)) g (L.set j z) := by
  have := heap_setCell_same w g j _ _ (.int .i64 z) h
  unfold IntRow
  rw [this]
  simp [List.map_set]
theorem IntRow.other {w : World} {g : Nat} {L : List Int} (h : IntRow w g L) {g' : Nat} (hne : g ≠ g') (o : Nat) (v : Value) : IntRow (w.setCell ⟨g', o, none⟩ v) g L := (heap_setCell_other w ⟨g', o, none⟩ g v hne).trans h
theorem IntRow.made (w : World) (m : Nat) : IntRow (w.alloc (.cells (madeCells #[.int .i64 0] m) 3)) w.heap.size (List.replicate m 0) := by
  have h := heap_new w (.cells (madeCells #[.int .i64 0] m) 3) w.heap.size rfl
  unfold IntRow
  rw [h]
  congr 2
  apply Array.toList_inj.1
  rw [toList_madeCells_one]
  simp
theorem Bal.other {w : World} {B g cap : Nat} {zs : List Int} (h : Bal w B g cap zs) {g' : Nat} (hne : g ≠ g') (o : Nat) (v : Value) : Bal (w.setCell ⟨g', o, none⟩ v) B g cap zs :=
  ownsRow_at h (fun k hk => by
    obtain rfl : g = k := by simpa [Value.ownBlock] using hk
    exact heap_setCell_other w ⟨g', o, none⟩ _ v hne)
/-- the seed made small -/
theorem seed_smallS (seed : Int) (_h1 : -9223372036854775808 ≤ seed) (_h2 : seed ≤ 9223372036854775807) : ∃ r : Int, seed.tmod 1000003 = r ∧ -1000002 ≤ r ∧ r ≤ 1000002 ∧ (0 ≤ seed → seed % 1000003 = r ∧ 0 ≤ r) ∧ (seed = 0 → r = 0) := by
  rcases Int.le_total 0 seed with h | h
  · refine ⟨seed % 1000003, Int.tmod_eq_emod_of_nonneg h, by omega, by omega, fun _ => ⟨rfl, by omega⟩, fun e => by subst e; decide⟩
  · have e : seed.tmod 1000003 = -((-seed) % 1000003) := by
      rw [← Int.tmod_eq_emod_of_nonneg (by omega : 0 ≤ -seed), Int.neg_tmod, Int.neg_neg]
    refine ⟨-((-seed) % 1000003), e, by omega, by omega, fun h0 => ?_, fun e => by subst e; decide⟩
    obtain rfl : seed = 0 := by omega
    decide
/-- what an empty one's cells are, when i of them are laid -/
def layZ (N i j : Nat) : Int := if 4 ≤ j ∧ j % 2 = 0 ∧ j ≤ 2 + 2 * i ∧ j < 2 + 2 * N then ((j - 2) / 2 + 1 : Nat) else 0
def layF (N j : Nat) : Int := if j = 1 then 1 else layZ N N j
def layE (N : Nat) : List Int := (List.range (3 + 2 * N)).map (layF N)
def order (N i : Nat) (L : List Int) : Prop := ∀ j, j < i → ∃ v : Nat, L[j]? = some (v : Int) ∧ 1 ≤ v ∧ v ≤ N
/-- what Lay gives -/
def LayDoes (m N : Nat) (seed : Int) (M : Nat) (w : World) (e : Ending) (w' : World) : Prop :=
  ∃ g Z, e = .returned (.slice (some ⟨g, 0, none⟩) M M) ∧ Z.length = M ∧ Bal w' w.heap.size g M Z ∧ Below w.heap.size w w' ∧ (m = 0 → seed = 0 → Z = layE N)
set_option maxHeartbeats 8000000 in
theorem Lay_any (ao : Option Addr) (m c : Nat) (zs : List Int) (N : Nat) (seed : Int) (w : World) (hm : zs.length = m) (hs : Sees w ao zs) (hn : 1 ≤ N) (hn2 : N ≤ 60) (hz : m ≤ N) (h1 : -9223372036854775808 ≤ seed) (h2 : seed ≤ 9223372036854775807) :
    Calls Tryz.prog 15 #[.slice ao m c, .int .i64 N, .int .i64 seed] w (LayDoes m N seed (3 + 2 * N) w) := by
  have HM := Lib.hid hm
  have HS := Lib.hid hs
  obtain ⟨M, hM⟩ : ∃ M, M = 3 + 2 * N := ⟨_, rfl⟩
  rw [← hM]
  obtain ⟨r, hr1, hr2, hr3, hr4, hr5⟩ := seed_smallS seed h1 h2
  have hmk := fun w => make64 M (by omega) w
  rw [show ((M : Nat) : Int) = 3 + 2 * (N : Int) by omega] at hmk
  have hmk2 := fun w => makeIntS N (by omega) w
  have HR5 := Lib.hid hr5
  have HMN := Lib.hid hM
  have hM3 : 3 ≤ M := by omega
  clear hr4 hm hs hr5 hM
  have HBAL := Lib.hid (made_bal M w (by have := HMN.out; omega))
  go_enter Tryz.func15, Tryz.ntmps15
  go_upto_if 20 with (fail)
  refine wp_gen (fun W => Bal W w.heap.size w.heap.size M (List.replicate M 0) ∧ Below w.heap.size w W ∧ W.heap.size = w.heap.size + 1) ⟨by exact HBAL.out, (Below.refl _ _).alloc (Nat.le_refl _) _, by simp⟩ ?_
  rintro W ⟨hbW, hBW, hszW⟩
  have HBW := Lib.hid hbW
  have HBB := Lib.hid hBW
  have HSZ := Lib.hid hszW
  clear hbW hBW hszW
  go_cut [2] (fun u wr => ∃ s : Nat, u = .int .i64 s ∧ s ≤ 1000002 ∧ (seed = 0 → s = 0) ∧ wr = W)
  case first =>
    by_cases hneg : r < 0
    · go_wp2_with fail
      go_meet
      exact ⟨(-(r + 1)).toNat, by rw [Int.toNat_of_nonneg (by omega)], by omega, fun e => by have := HR5.out e; omega, rfl⟩
    · have hd : decide (r < 0) = false := by simpa using hneg
      go_wp2_with fail
      go_meet
      exact ⟨r.toNat, by rw [Int.toNat_of_nonneg (by omega)], by omega, fun e => by have := HR5.out e; omega, rfl⟩
  case rest =>
    obtain ⟨s, rfl, hs2, hs0, hwc⟩ := hcut
    rw [hwc]
    clear hwc
    have HS0 := Lib.hid hs0
    clear hs0 hr1 hr2 hr3 h1 h2
    have HBAL2 := Lib.hid (HBW.out.below (w' := W.alloc (.cells (madeCells #[.int .i64 0] N) 3)) ((Below.refl _ _).alloc (Nat.le_refl _) _))
    have HROW := Lib.hid (IntRow.made W N)
    have hszW := HSZ.out
    go_wp2_with fail
    go_loopw [9] (fun v wr => ∃ (i : Nat) (L : List Int), i ≤ N ∧ v = .int .i64 i ∧ L.length = N ∧ order N i L ∧ (s = 0 → ∀ j, j < i → L[j]? = some ((j : Int) + 1)) ∧ IntRow wr (w.heap.size + 1) L ∧ Bal wr w.heap.size w.heap.size M (List.replicate M 0) ∧ Below w.heap.size w wr) (fun v _ => N - (intOf v).toNat)
    case atStart => exact ⟨0, List.replicate N 0, Nat.zero_le _, rfl, List.length_replicate, fun j hj => absurd hj (Nat.not_lt_zero _), fun _ j hj => absurd hj (Nat.not_lt_zero _), by have := HROW.out; rw [HSZ.out] at this; exact this, HBAL2.out, HBB.out.alloc HBB.out.size _⟩
    case round =>
      obtain ⟨i, L, hi, rfl, hL, ho, hex, hrow, hbal, hB⟩ := hrel
      clear hszW
      by_cases hlt : i < N
      · have hf0 := hrow.frozen i
        obtain ⟨y0, hy0⟩ : ∃ y, L[i]? = some y := ⟨_, List.getElem?_eq_getElem (by omega)⟩
        have hc0 := hrow.cell i hy0
        clear hy0
        have hrow1 := hrow.set i ((i : Int) + 1)
        have hbal1 : Bal (wr.setCell ⟨w.heap.size + 1, i, none⟩ (.int .i64 ((i : Int) + 1))) w.heap.size w.heap.size M (List.replicate M 0) := hbal.other (by omega) _ _
        have hB1 : Below w.heap.size w (wr.setCell ⟨w.heap.size + 1, i, none⟩ (.int .i64 ((i : Int) + 1))) := hB.setCell (p := ⟨w.heap.size + 1, i, none⟩) (by show w.heap.size ≤ w.heap.size + 1; omega) _
        have ho1 : order N (i + 1) (L.set i ((i : Int) + 1)) := fun j hj => by
          by_cases e : j = i
          · subst e
            exact ⟨j + 1, by rw [List.getElem?_set_self (by omega)]; rfl, by omega, by omega⟩
          · obtain ⟨v, hv, h3⟩ := ho j (by omega)
            exact ⟨v, by rw [List.getElem?_set_ne (fun h => e h.symm)]; exact hv, h3⟩
        have hL1 : (L.set i ((i : Int) + 1)).length = N := by rw [List.length_set]; exact hL
        by_cases hs3 : s = 0
        · have hd : decide (0 < s) = false := by simp [hs3]
          have hex1 : ∀ j, j < i + 1 → (L.set i ((i : Int) + 1))[j]? = some ((j : Int) + 1) := fun j hj => by
            by_cases e : j = i
            · subst e
              rw [List.getElem?_set_self (by omega)]
            · rw [List.getElem?_set_ne (fun h => e h.symm)]
              exact hex hs3 j (by omega)
          have HG := Lib.hid (show IntRow _ _ _ ∧ Bal _ _ _ _ _ ∧ Below _ _ _ ∧ order N (i + 1) (L.set i ((i : Int) + 1)) ∧ (L.set i ((i : Int) + 1)).length = N ∧ (∀ j, j < i + 1 → (L.set i ((i : Int) + 1))[j]? = some ((j : Int) + 1)) from ⟨hrow1, hbal1, hB1, ho1, hL1, hex1⟩)
          clear hrow hbal hB hrow1 hbal1 hB1 ho1 hL1 hex1 ho hex hL hs3
          go_wp2
          go_roundw
          case rel => exact ⟨i + 1, _, by omega, by go_num, HG.out.2.2.2.2.1, HG.out.2.2.2.1, fun _ => HG.out.2.2.2.2.2, HG.out.1, HG.out.2.1, HG.out.2.2.1⟩
          case measure => simp [intOf]; omega
        · have hd : decide (0 < s) = true := by simp; omega
          obtain ⟨k, hk, hki⟩ : ∃ k : Nat, ((s : Int) + (i : Int) * (i : Int)) % ((i : Int) + 1) = k ∧ k ≤ i := by
            refine ⟨(s + i * i) % (i + 1), by simp, ?_⟩
            have := Nat.mod_lt (s + i * i) (show 0 < i + 1 by omega)
            omega
          have hii : (i : Int) * (i : Int) ≤ 3600 := by
            have : i * i ≤ 60 * 60 := Nat.mul_le_mul (by omega) (by omega)
            have h2 : ((i * i : Nat) : Int) ≤ 3600 := by omega
            simpa using h2
          have hii0 : 0 ≤ (i : Int) * (i : Int) := Int.mul_nonneg (by omega) (by omega)
          have hkt : ((s : Int) + (i : Int) * (i : Int)).tmod ((i : Int) + 1) = k := by rw [Int.tmod_eq_emod_of_nonneg (by omega)]; exact hk
          obtain ⟨vk, hvk, hvk1, hvk2⟩ := ho1 k (by omega)
          have hck := hrow1.cell k hvk
          have hrow2 := hrow1.set i (vk : Int)
          have hrow3 := hrow2.set k ((i : Int) + 1)
          have hbal3 := ((hbal1.other (g' := w.heap.size + 1) (by omega) i (.int .i64 vk)).other (g' := w.heap.size + 1) (by omega) k (.int .i64 ((i : Int) + 1)))
          have hB3 := (hB1.setCell (p := ⟨w.heap.size + 1, i, none⟩) (by show w.heap.size ≤ w.heap.size + 1; omega) (.int .i64 vk)).setCell (p := ⟨w.heap.size + 1, k, none⟩) (by show w.heap.size ≤ w.heap.size + 1; omega) (.int .i64 ((i : Int) + 1))
          have ho3 : order N (i + 1) (((L.set i ((i : Int) + 1)).set i (vk : Int)).set k ((i : Int) + 1)) := fun j hj => by
            by_cases e : j = k
            · subst e
              exact ⟨i + 1, by rw [List.getElem?_set_self (by rw [List.length_set]; omega)]; rfl, by omega, by omega⟩
            · rw [List.getElem?_set_ne (fun h => e h.symm)]
              by_cases e2 : j = i
              · subst e2
                exact ⟨vk, by rw [List.getElem?_set_self (by omega)], hvk1, hvk2⟩
              · rw [List.getElem?_set_ne (fun h => e2 h.symm)]
                exact ho1 j hj
          have hL3 : (((L.set i ((i : Int) + 1)).set i (vk : Int)).set k ((i : Int) + 1)).length = N := by rw [List.length_set, List.length_set]; exact hL1
          have HG := Lib.hid (show IntRow _ _ _ ∧ Bal _ _ _ _ _ ∧ Below _ _ _ ∧ order N (i + 1) _ ∧ List.length _ = N from ⟨hrow3, hbal3, hB3, ho3, hL3⟩)
          have hf1 := hrow1.frozen i
          have hc1 := hrow1.cell i (z := (i : Int) + 1) (List.getElem?_set_self (by omega))
          have hf2 := hrow2.frozen k
          obtain ⟨v2, hv2⟩ : ∃ v2, ((L.set i ((i : Int) + 1)).set i (vk : Int))[k]? = some v2 := ⟨_, List.getElem?_eq_getElem (by rw [List.length_set]; omega)⟩
          have hc2 := hrow2.cell k hv2
          have HS3 := Lib.hid hs3
          clear hrow hbal hB hrow1 hrow2 hrow3 hbal1 hbal3 hB1 hB3 ho1 ho3 hL1 hL3 ho hex hL hs3 hvk hv2
          go_wp2
          go_roundw
          case rel => exact ⟨i + 1, _, by omega, by go_num, HG.out.2.2.2.2, HG.out.2.2.2.1, fun h => absurd h HS3.out, HG.out.1, HG.out.2.1, HG.out.2.2.1⟩
          case measure => simp [intOf]; omega
      · obtain rfl : i = N := by omega
        have HEX := Lib.hid hex
        have HO := Lib.hid ho
        have HL := Lib.hid hL
        have hf2 : wr.frozen? ⟨w.heap.size, 2, none⟩ = false := hbal.frozenAt 2
        have hc2 := hbal.cell 2 (z := 0) (by rw [List.getElem?_replicate, if_pos (by omega)])
        have HBAL3 := Lib.hid (hbal.set 2 (m : Int))
        have HROW3 := Lib.hid (hrow.other (g' := w.heap.size) (by omega) 2 (.int .i64 m))
        have HB3 := Lib.hid (hB.setCell (p := ⟨w.heap.size, 2, none⟩) (Nat.le_refl _) (.int .i64 m))
        have hM2 : (2 : Int) < (M : Int) := by omega
        clear hex ho hL hbal hrow hB
        go_wp2
        go_loopw [11, 12] (fun v _ wr => ∃ (i' : Nat) (Z : List Int), i' ≤ i ∧ v = .int .i64 i' ∧ Z.length = M ∧ (m = 0 → s = 0 → ∀ j, Z.getD j 0 = layZ i i' j) ∧ IntRow wr (w.heap.size + 1) L ∧ Bal wr w.heap.size w.heap.size M Z ∧ Below w.heap.size w wr) (fun v _ _ => i - (intOf v).toNat)
        case atStart =>
          refine ⟨0, _, Nat.zero_le _, rfl, by rw [List.length_set]; exact List.length_replicate, fun h1 _ j => ?_, HROW3.out, HBAL3.out, HB3.out⟩
          subst h1
          have e : ((List.replicate M (0 : Int)).set 2 ((0 : Nat) : Int)) = List.replicate M 0 := by
            apply List.ext_getElem?
            intro j
            rw [List.getElem?_set]
            split
            · rename_i h; subst h
              simp [List.getElem?_replicate]
            · rfl
          rw [e]
          unfold layZ
          rw [if_neg (by omega), List.getD_eq_getElem?_getD, List.getElem?_replicate]
          split <;> rfl
        case round =>
          obtain ⟨i', Z, hi', rfl, hZ, hex, hrow, hbal, hB⟩ := hrel
          by_cases hlt' : i' < i
          · obtain ⟨vi, hvi, hvi1, hvi2⟩ := HO.out i' hlt'
            have hci := hrow.cell i' hvi
            have hza := hbal.cell (1 + 2 * vi) (z := Z.getD (1 + 2 * vi) 0) (by rw [List.getD_eq_getElem?_getD, List.getElem?_eq_getElem (by have := HMN.out; omega)]; rfl)
            have hfa : wr.frozen? ⟨w.heap.size, 1 + 2 * vi, none⟩ = false := hbal.frozenAt _
            have hzb := hbal.cell (2 + 2 * vi) (z := Z.getD (2 + 2 * vi) 0) (by rw [List.getD_eq_getElem?_getD, List.getElem?_eq_getElem (by have := HMN.out; omega)]; rfl)
            have hfb : wr.frozen? ⟨w.heap.size, 2 + 2 * vi, none⟩ = false := hbal.frozenAt _
            have hba : 1 + 2 * (vi : Int) < (M : Int) := by have := HMN.out; omega
            have hbb : 2 + 2 * (vi : Int) < (M : Int) := by have := HMN.out; omega
            -- what the round leaves
            have FIN := Lib.hid (show ∀ (Z' : List Int) (W' : World) (nx : Int), Z'.length = M → (m = 0 → s = 0 → Z' = Z) → IntRow W' (w.heap.size + 1) L → Bal W' w.heap.size w.heap.size M Z' → Below w.heap.size w W' → (m = 0 → s = 0 → nx = if i' + 1 < i then (i' : Int) + 2 else 0) →
                ∃ (Z'' : List Int), Z''.length = M ∧ (m = 0 → s = 0 → ∀ j, Z''.getD j 0 = layZ i (i' + 1) j) ∧ IntRow (W'.setCell ⟨w.heap.size, 2 + 2 * vi, none⟩ (.int .i64 nx)) (w.heap.size + 1) L ∧ Bal (W'.setCell ⟨w.heap.size, 2 + 2 * vi, none⟩ (.int .i64 nx)) w.heap.size w.heap.size M Z'' ∧ Below w.heap.size w (W'.setCell ⟨w.heap.size, 2 + 2 * vi, none⟩ (.int .i64 nx)) from fun Z' W' nx h1 h2 h3 h4 h5 h6 => by
              refine ⟨Z'.set (2 + 2 * vi) nx, by rw [List.length_set]; exact h1, fun hm0 hs0 j => ?_, h3.other (by omega) _ _, h4.set _ _, h5.setCell (p := ⟨w.heap.size, 2 + 2 * vi, none⟩) (Nat.le_refl _) _⟩
              have hv := HEX.out hs0 i' hlt'
              rw [hvi] at hv
              injection hv with hv
              have hv' : vi = i' + 1 := by omega
              subst hv'
              rw [h2 hm0 hs0, h6 hm0 hs0, List.getD_eq_getElem?_getD, List.getElem?_set]
              by_cases e : 2 + 2 * (i' + 1) = j
              · subst e
                rw [if_pos rfl, if_pos (by rw [hZ]; have := HMN.out; omega)]
                unfold layZ
                by_cases hc : i' + 1 < i
                · rw [if_pos hc, if_pos (by omega), show (2 + 2 * (i' + 1) - 2) / 2 + 1 = i' + 2 by omega]
                  simp
                · rw [if_neg hc, if_neg (by omega)]
                  rfl
              · rw [if_neg e, ← List.getD_eq_getElem?_getD, hex hm0 hs0 j]
                unfold layZ
                by_cases hc : 4 ≤ j ∧ j % 2 = 0 ∧ j ≤ 2 + 2 * i' ∧ j < 2 + 2 * i
                · rw [if_pos hc, if_pos (by omega)]
                · rw [if_neg hc, if_neg (by omega)])
            have HB0 := Lib.hid (show IntRow wr (w.heap.size + 1) L ∧ Bal wr w.heap.size w.heap.size M Z ∧ Below w.heap.size w wr ∧ Z.length = M from ⟨hrow, hbal, hB, hZ⟩)
            have HSA := Lib.hid (show ∀ u : Int, IntRow (wr.setCell ⟨w.heap.size, 1 + 2 * vi, none⟩ (.int .i64 u)) (w.heap.size + 1) L ∧ Bal (wr.setCell ⟨w.heap.size, 1 + 2 * vi, none⟩ (.int .i64 u)) w.heap.size w.heap.size M (Z.set (1 + 2 * vi) u) ∧ Below w.heap.size w (wr.setCell ⟨w.heap.size, 1 + 2 * vi, none⟩ (.int .i64 u)) ∧ (Z.set (1 + 2 * vi) u).length = M from fun u =>
              ⟨hrow.other (by omega) _ _, hbal.set _ _, hB.setCell (p := ⟨w.heap.size, 1 + 2 * vi, none⟩) (Nat.le_refl _) _, by rw [List.length_set]; exact hZ⟩)
            -- the next one's place
            have hnx : ∃ nx : Int, (m = 0 → s = 0 → nx = if i' + 1 < i then (i' : Int) + 2 else 0) ∧ ((∃ vn : Nat, nx = vn ∧ decide ((i' : Int) + 1 < (i : Int)) = true ∧ (((i' : Int) + 1 != (m : Int)) = true) ∧ i' + 1 < i ∧ wr.cell? ⟨w.heap.size + 1, i' + 1, none⟩ = some (.int .i64 vn)) ∨ (nx = 0 ∧ decide ((i' : Int) + 1 < (i : Int)) = true ∧ (((i' : Int) + 1 != (m : Int)) = false)) ∨ (nx = 0 ∧ decide ((i' : Int) + 1 < (i : Int)) = false)) := by
              by_cases c1 : i' + 1 < i
              · by_cases c2 : i' + 1 = m
                · exact ⟨0, fun h => by omega, .inr (.inl ⟨rfl, by simp; omega, by simp; omega⟩)⟩
                · obtain ⟨vn, hvn, _⟩ := HO.out (i' + 1) c1
                  refine ⟨vn, fun _ h => ?_, .inl ⟨vn, rfl, by simp; omega, by simp; omega, c1, hrow.cell _ hvn⟩⟩
                  have hv := HEX.out h (i' + 1) c1
                  rw [hvn] at hv
                  injection hv with hv
                  rw [if_pos c1]
                  omega
              · exact ⟨0, fun _ _ => by rw [if_neg c1], .inr (.inr ⟨rfl, by simp; omega⟩)⟩
            obtain ⟨nx, hnx1, hnx2⟩ := hnx
            have HNX := Lib.hid hnx1
            clear hex hrow hbal hB hZ hvi hnx1
            by_cases hput : i' < m
            · obtain ⟨lx, hlx⟩ : ∃ lx, zs[i']? = some lx := ⟨_, List.getElem?_eq_getElem (by rw [HM.out]; exact hput)⟩
              obtain ⟨lb, lo, hlo, hlc⟩ := HS.out.below HB0.out.2.2.1
              obtain rfl := hlo (by intro e; subst e; simp at hlx)
              have hcx := hlc i' (by rw [HM.out]; exact hput)
              rw [List.getD_eq_getElem?_getD, hlx] at hcx
              have hcx : wr.cell? ⟨lb, lo + i', none⟩ = some (.int .i64 lx) := hcx
              have hm0 : m ≠ 0 := by omega
              have HM0 := Lib.hid hm0
              have hp0 : (0 : Int) ≤ 1 + 2 * (vi : Int) := by omega
              have hpt : (1 + 2 * (vi : Int)).toNat = 1 + 2 * vi := by omega
              have hpw : IntKind.i64.wrap (2 * (vi : Int)) = 2 * (vi : Int) := by rw [IntKind.wrap_i64]; omega
              have hpw2 : IntKind.i64.wrap (1 + 2 * (vi : Int)) = 1 + 2 * (vi : Int) := by rw [IntKind.wrap_i64]; omega
              have hpi : (0 : Int) ≤ (i' : Int) := by omega
              have hpi2 : (i' : Int) < (m : Int) := by omega
              have hpi3 : (i' : Int) < (i : Int) := by omega
              clear hlc hlo hlx hm0
              rcases hnx2 with ⟨vn, rfl, n1, n2, n3, n4⟩ | ⟨rfl, n1, n2⟩ | ⟨rfl, n1⟩
              all_goals
                go_upto_region 22 with (fail)
                go_still_tail 12, (by kernel_rfl)
                go_wp2
                go_roundw
                case rel =>
                  obtain ⟨Z'', f1, f2, f3, f4, f5⟩ := FIN.out _ ((wr.setCell ⟨w.heap.size, 1 + 2 * vi, none⟩ (.int .i64 lx)).drew) _ (HSA.out lx).2.2.2 (fun h _ => absurd h HM0.out) (HSA.out lx).1 (HSA.out lx).2.1 (below_drewed1 (HSA.out lx).2.2.1) HNX.out
                  exact ⟨i' + 1, Z'', by omega, by go_num, f1, f2, f3, f4, f5⟩
                case measure => simp [intOf]; omega
            · by_cases hs3 : s = 0
              · have hd : decide (0 < s) = false := by simp [hs3]
                rcases hnx2 with ⟨vn, rfl, n1, n2, n3, n4⟩ | ⟨rfl, n1, n2⟩ | ⟨rfl, n1⟩
                all_goals
                  go_wp2
                  go_roundw
                  case rel =>
                    obtain ⟨Z'', f1, f2, f3, f4, f5⟩ := FIN.out Z _ _ HB0.out.2.2.2 (fun _ _ => rfl) HB0.out.1 HB0.out.2.1 HB0.out.2.2.1 HNX.out
                    exact ⟨i' + 1, Z'', by omega, by go_num, f1, f2, f3, f4, f5⟩
                  case measure => simp [intOf]; omega
              · have hd : decide (0 < s) = true := by simp; omega
                have HS3 := Lib.hid hs3
                clear hs3
                rcases hnx2 with ⟨vn, rfl, n1, n2, n3, n4⟩ | ⟨rfl, n1, n2⟩ | ⟨rfl, n1⟩
                all_goals
                  go_wp2
                  go_roundw
                  case rel =>
                    obtain ⟨Z'', f1, f2, f3, f4, f5⟩ := FIN.out _ _ _ (HSA.out ((s : Int) - (i' : Int))).2.2.2 (fun _ h => absurd h HS3.out) (HSA.out _).1 (HSA.out _).2.1 (HSA.out _).2.2.1 HNX.out
                    exact ⟨i' + 1, Z'', by omega, by go_num, f1, f2, f3, f4, f5⟩
                  case measure => simp [intOf]; omega
          · obtain rfl : i' = i := by omega
            have HXX := Lib.hid hex
            obtain ⟨v0, hv0, hv1, hv2⟩ := HO.out 0 (by omega)
            have hc0 := hrow.cell 0 hv0
            have hz0 := hbal.cell 0 (z := Z.getD 0 0) (by rw [List.getD_eq_getElem?_getD, List.getElem?_eq_getElem (by omega)]; rfl)
            have hz1 := hbal.cell 1 (z := Z.getD 1 0) (by rw [List.getD_eq_getElem?_getD, List.getElem?_eq_getElem (by omega)]; rfl)
            have hf0 : wr.frozen? ⟨w.heap.size, 0, none⟩ = false := hbal.frozenAt 0
            have hf1 : wr.frozen? ⟨w.heap.size, 1, none⟩ = false := hbal.frozenAt 1
            rcases Nat.eq_zero_or_pos m with hm0 | hm0
            · subst hm0
              have hB1 := Lib.hid (hbal.set 1 (v0 : Int))
              have hB2 := Lib.hid (hB.setCell (p := ⟨w.heap.size, 1, none⟩) (Nat.le_refl _) (.int .i64 v0))
              have hV := Lib.hid (show seed = 0 → v0 = 1 from fun h => by
                have := HEX.out (HS0.out h) 0 (by omega)
                rw [hv0] at this
                injection this with this
                omega)
              have HZ := Lib.hid hZ
              have hi1 : (0 : Int) < (i' : Int) := by omega
              clear hrow hbal hB hex hv0 hZ
              go_wp2
              go_ret
              refine ⟨_, _, rfl, ?_, hB1.out, hB2.out, fun _ hsd => ?_⟩
              · rw [List.length_set]; exact HZ.out
              · obtain rfl := hV.out hsd
                have hL2 : (Z.set 1 ((1 : Nat) : Int)).length = (layE i').length := by rw [List.length_set, HZ.out]; simp [layE, HMN.out]
                apply List.ext_getElem?
                intro j
                by_cases hj : j < M
                · rw [List.getElem?_set]
                  have e2 : (layE i')[j]? = some (layF i' j) := by
                    unfold layE
                    rw [List.getElem?_map, List.getElem?_range (by have := HMN.out; omega)]
                    rfl
                  rw [e2]
                  unfold layF
                  by_cases e : 1 = j
                  · subst e
                    rw [if_pos rfl, if_pos (by rw [HZ.out]; omega)]
                    rfl
                  · rw [if_neg e, if_neg (fun h => e h.symm)]
                    have := HXX.out (by simp) (HS0.out hsd) j
                    rw [List.getD_eq_getElem?_getD, List.getElem?_eq_getElem (by rw [HZ.out]; exact hj)] at this
                    rw [List.getElem?_eq_getElem (by rw [HZ.out]; exact hj)]
                    rw [← this]
                    rfl
                · rw [List.getElem?_eq_none (by rw [List.length_set, HZ.out]; omega), List.getElem?_eq_none (by rw [← hL2, List.length_set, HZ.out]; omega)]
            · have hd0 : (0 : Int) < (m : Int) := by omega
              have hbal1 := hbal.set 0 (v0 : Int)
              have hB1 := hB.setCell (p := ⟨w.heap.size, 0, none⟩) (Nat.le_refl _) (.int .i64 v0)
              have hrow1 := hrow.other (g' := w.heap.size) (by omega) 0 (.int .i64 v0)
              by_cases hmi : m < i'
              · obtain ⟨vm, hvm, _⟩ := HO.out m hmi
                have hcm := hrow.cell m hvm
                have HG1 := Lib.hid (hbal1.set 1 (vm : Int))
                have HG2 := Lib.hid (hB1.setCell (p := ⟨w.heap.size, 1, none⟩) (Nat.le_refl _) (.int .i64 vm))
                have HG3 := Lib.hid (show ((Z.set 0 (v0 : Int)).set 1 (vm : Int)).length = M by rw [List.length_set, List.length_set]; exact hZ)
                have hmi2 : (m : Int) < (i' : Int) := by omega
                clear hrow hbal hB hex hv0 hZ hbal1 hB1 hrow1 hvm
                go_wp2
                go_ret
                exact ⟨_, _, rfl, HG3.out, HG1.out, HG2.out, fun h => absurd h (by omega)⟩
              · have HG1 := Lib.hid hbal1
                have HG2 := Lib.hid hB1
                have HG3 := Lib.hid (show (Z.set 0 (v0 : Int)).length = M by rw [List.length_set]; exact hZ)
                clear hrow hbal hB hex hv0 hZ hbal1 hB1 hrow1
                go_wp2
                go_ret
                exact ⟨_, _, rfl, HG3.out, HG1.out, HG2.out, fun h => absurd h (by omega)⟩
end Go.Proofs.YtkioddgolmaaeaaGreatDoor
