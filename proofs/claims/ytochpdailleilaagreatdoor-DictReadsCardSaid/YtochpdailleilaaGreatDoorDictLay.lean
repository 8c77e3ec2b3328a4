/-
  quash/quashref19.Lay: that it answers, its length, that its numbers are of 64 bits. Condition: at most 60 places, the entries no more than the places.
-/
import Derived.Test.YtochpdailleilaaGreatDoorDictAwake
import Derived.Test.YtochpdailleilaaGreatDoorOpenE
import Derived.RegionTactic
import Derived.StillTailTactics
namespace Go.Proofs.YtochpdailleilaaGreatDoor
open Go.RowKit
set_option maxRecDepth 100000

/-- numbers of 64 bits -/
def Wf64 (Z : List Int) : Prop := ∀ z ∈ Z, (Lit.int .i64 z).wf = true
theorem wf_small {z : Int} (h1 : -9000000000 ≤ z) (h2 : z ≤ 9000000000) : (Lit.int .i64 z).wf = true := by
  simp [Lit.wf, IntKind.min, IntKind.max, IntKind.signed, IntKind.bits]
  omega
theorem Wf64.set {Z : List Int} (h : Wf64 Z) (k : Nat) {v : Int} (hv : (Lit.int .i64 v).wf = true) : Wf64 (Z.set k v) := fun z hz => by
  rcases List.mem_or_eq_of_mem_set hz with h1 | rfl
  · exact h z h1
  · exact hv
theorem wf_zeros (n : Nat) : Wf64 (List.replicate n 0) := fun z hz => by
  obtain rfl := (List.mem_replicate.1 hz).2
  exact wf_small (by omega) (by omega)
/-- how many places are used -/
def usedN (Z : List Int) (N : Nat) : Nat := (List.range N).countP (fun j => decide (Z.getD (1 + 3 * j) 0 = 1))
theorem usedN_free {Z : List Int} {N : Nat} (h : usedN Z N < N) : ∃ f, f < N ∧ Z.getD (1 + 3 * f) 0 ≠ 1 := by
  by_cases hc : ∃ f, f < N ∧ Z.getD (1 + 3 * f) 0 ≠ 1
  · exact hc
  · exfalso
    have h2 : usedN Z N = (List.range N).length := List.countP_eq_length.2 fun j hj => by
      apply decide_eq_true
      rcases Decidable.em (Z.getD (1 + 3 * j) 0 = 1) with e | e
      · exact e
      · exact absurd ⟨j, by simpa using hj, e⟩ hc
    rw [List.length_range] at h2
    omega
theorem countP_one (p p' : Nat → Bool) (k : Nat) (h : ∀ j, j ≠ k → p' j = p j) : ∀ N, (List.range N).countP p' ≤ (List.range N).countP p + (if k < N then 1 else 0)
  | 0 => by simp
  | N + 1 => by
    have ih := countP_one p p' k h N
    rw [List.range_succ, List.countP_append, List.countP_append]
    by_cases e : N = k
    · subst e
      rw [if_neg (Nat.lt_irrefl N)] at ih
      rw [if_pos (Nat.lt_succ_self N)]
      simp only [List.countP_singleton]
      repeat' split
      all_goals omega
    · simp only [List.countP_singleton, h N e]
      by_cases hk : k < N
      · rw [if_pos hk] at ih
        rw [if_pos (Nat.lt_succ_of_lt hk)]
        omega
      · rw [if_neg hk] at ih
        rw [if_neg (show ¬ k < N + 1 by omega)]
        omega
theorem getD_set_far {Z : List Int} {i j : Nat} {v : Int} (h : i ≠ j) : (Z.set i v).getD j 0 = Z.getD j 0 := by
  rw [List.getD_eq_getElem?_getD, List.getElem?_set_ne h, ← List.getD_eq_getElem?_getD]
theorem usedN_put (Z : List Int) (k N : Nat) (u a b : Int) : usedN (((Z.set (1 + 3 * k) u).set (2 + 3 * k) a).set (3 + 3 * k) b) N ≤ usedN Z N + 1 := by
  have h := countP_one (fun j => decide (Z.getD (1 + 3 * j) 0 = 1)) (fun j => decide ((((Z.set (1 + 3 * k) u).set (2 + 3 * k) a).set (3 + 3 * k) b).getD (1 + 3 * j) 0 = 1)) k (fun j hj => by
    rw [getD_set_far (by omega), getD_set_far (by omega), getD_set_far (by omega)]) N
  unfold usedN
  split at h <;> omega
theorem usedN_head (Z : List Int) (N : Nat) (v : Int) : usedN (Z.set 0 v) N = usedN Z N := by
  unfold usedN
  congr 1
  funext j
  rw [getD_set_far (by omega)]
theorem usedN_zeros (M N : Nat) : usedN (List.replicate M 0) N = 0 := by
  unfold usedN
  rw [List.countP_eq_zero]
  intro j _
  simp [List.getD_eq_getElem?_getD, List.getElem?_replicate]
  split <;> simp
theorem make_bal (m : Nat) (w : World) (hm : m ≤ maxLen) : Bal (w.alloc (.cells (madeCells #[.int .i64 0] m) 2)) w.heap.size w.heap.size m (List.replicate m 0) := by
  refine Bal.of_block (Nat.le_refl _) (heap_new _ _ _ rfl) (by simp [size_madeCells]) (by simp) hm ?_
  rw [toList_madeCells_one]
  simp [i64s]
/-- the seed made small -/
theorem seed_small19 (seed : Int) : ∃ r : Int, seed.tmod 1000003 = r ∧ -1000002 ≤ r ∧ r ≤ 1000002 := by
  rcases Int.le_total 0 seed with h | h
  · exact ⟨seed % 1000003, Int.tmod_eq_emod_of_nonneg h, by omega, by omega⟩
  · have e : seed.tmod 1000003 = -((-seed) % 1000003) := by
      rw [← Int.tmod_eq_emod_of_nonneg (by omega : 0 ≤ -seed), Int.neg_tmod, Int.neg_neg]
    exact ⟨-((-seed) % 1000003), e, by omega, by omega⟩
/-- what Lay gives -/
def LayDoes (N : Nat) (M : Nat) (w : World) (e : Ending) (w' : World) : Prop :=
  ∃ g Z, e = .returned (.slice (some ⟨g, 0, none⟩) M M) ∧ Z.length = 1 + 3 * N ∧ Bal w' w.heap.size g M Z ∧ Below w.heap.size w w' ∧ Wf64 Z
set_option maxHeartbeats 8000000 in
theorem Lay_any (ao : Option Addr) (m c : Nat) (l : List (Int × Int)) (N : Nat) (seed : Int) (w : World) (hm : l.length = m) (hs : SeesP w ao l) (hi64 : In64 l) (hn : 1 ≤ N) (hn2 : N ≤ 60) (hz : m ≤ N) :
    Calls Tryz.prog 16 #[.slice ao m c, .int .i64 N, .int .i64 seed] w (LayDoes N (1 + 3 * N) w) := by
  have HM := Lib.hid hm
  have HS := Lib.hid hs
  have HI := Lib.hid hi64
  obtain ⟨M, hM⟩ : ∃ M, M = 1 + 3 * N := ⟨_, rfl⟩
  rw [← hM]
  obtain ⟨r, hr1, hr2, hr3⟩ := seed_small19 seed
  have hmk := fun w => make64 M (by omega) w
  rw [show ((M : Nat) : Int) = 1 + 3 * (N : Int) by omega] at hmk
  have HMN := Lib.hid hM
  have hM3 : 0 < M := by omega
  clear hm hs hi64 hM
  have HBAL := Lib.hid (make_bal M w (by have := HMN.out; unfold maxLen; omega))
  go_enter Tryz.func16, Tryz.ntmps16
  go_upto_if 19 with (fail)
  refine wp_gen (fun W => Bal W w.heap.size w.heap.size M (List.replicate M 0) ∧ Below w.heap.size w W) ⟨by exact HBAL.out, (Below.refl _ _).alloc (Nat.le_refl _) _⟩ ?_
  rintro W ⟨hbW, hBW⟩
  have HBW := Lib.hid hbW
  have HBB := Lib.hid hBW
  clear hbW hBW
  go_cut [2] (fun u wr => ∃ s : Nat, u = .int .i64 s ∧ s ≤ 1000002 ∧ wr = W)
  case first =>
    by_cases hneg : r < 0
    · go_wp2_with fail
      go_meet
      exact ⟨(-(r + 1)).toNat, by rw [Int.toNat_of_nonneg (by omega)], by omega, rfl⟩
    · have hd : decide (r < 0) = false := by simpa using hneg
      go_wp2_with fail
      go_meet
      exact ⟨r.toNat, by rw [Int.toNat_of_nonneg (by omega)], by omega, rfl⟩
  case rest =>
    obtain ⟨s, rfl, hs2, hwc⟩ := hcut
    rw [hwc]
    clear hwc hr1 hr2 hr3
    have hf0 : W.frozen? ⟨w.heap.size, 0, none⟩ = false := HBW.out.frozenAt 0
    have hc0 : W.cell? ⟨w.heap.size, 0, none⟩ = some (.int .i64 0) := HBW.out.cell 0 (by rw [List.getElem?_replicate, if_pos hM3])
    have hM3i : (0 : Int) < (M : Int) := by omega
    go_upto_region 6 with (fail)
    refine wp_gen (fun W' => ∃ Z : List Int, Z.length = M ∧ usedN Z N ≤ 0 ∧ Wf64 Z ∧ Bal W' w.heap.size w.heap.size M Z ∧ Below w.heap.size w W') ⟨(List.replicate M 0).set 0 (m : Int), by simp, by rw [usedN_head, usedN_zeros]; exact Nat.le_refl _, (wf_zeros M).set 0 (wf_small (by omega) (by omega)), HBW.out.set 0 _, HBB.out.setCell (p := ⟨w.heap.size, 0, none⟩) (Nat.le_refl _) _⟩ ?_
    rintro W2 ⟨Z0, hZ0, hu0, hw0, hb0, hB0⟩
    have HW0 := Lib.hid hw0
    have HB0 := Lib.hid hB0
    have HBL0 := Lib.hid hb0
    have HZ0 := Lib.hid hZ0
    clear hw0 hB0 hb0 hZ0 hf0 hc0 HBW HBB HBAL
    go_wp2
    go_loopw [8] (fun v wr => ∃ (i : Nat) (Z : List Int), i ≤ m ∧ v = .int .i64 i ∧ Z.length = M ∧ usedN Z N ≤ i ∧ Wf64 Z ∧ Bal wr w.heap.size w.heap.size M Z ∧ Below w.heap.size w wr) (fun v _ => m - (intOf v).toNat)
    case atStart => exact ⟨0, Z0, Nat.zero_le _, rfl, HZ0.out, hu0, HW0.out, HBL0.out, HB0.out⟩
    case round =>
      obtain ⟨i, Z, hi, rfl, hZ, hu, hw, hb, hB⟩ := hrel
      obtain ⟨wA, rfl⟩ : ∃ wA : World, wA = wr := ⟨_, rfl⟩
      clear hu0
      by_cases hlt : i < m
      · obtain ⟨j, hj, hjm⟩ : ∃ j : Nat, ((i : Int) + (s : Int)).tmod (m : Int) = j ∧ j < m := by
          refine ⟨(i + s) % m, ?_, Nat.mod_lt _ (by omega)⟩
          rw [Int.tmod_eq_emod_of_nonneg (by omega)]
          simp
        obtain ⟨⟨key, val⟩, hlj⟩ : ∃ x, l[j]? = some x := ⟨_, List.getElem?_eq_getElem (by rw [HM.out]; exact hjm)⟩
        obtain ⟨ad, o, had, hcs⟩ := HS.out.below hB
        obtain rfl := had (by intro e; rw [e] at hlj; simp at hlj)
        obtain ⟨e1, e2⟩ := hcs j _ hlj
        have hwe := HI.out _ (List.mem_of_getElem? hlj)
        obtain ⟨fr, hfr, hfz⟩ := usedN_free (Z := Z) (N := N) (by omega)
        have HWE := Lib.hid hwe
        have HU := Lib.hid hu
        have HW := Lib.hid hw
        have HB := Lib.hid hB
        have HBL := Lib.hid hb
        have HZ := Lib.hid hZ
        have HFZ := Lib.hid hfz
        have hmz : ((m : Int) == 0) = false := by simp; omega
        have hj0 : (0 : Int) ≤ (j : Int) := by omega
        have hj1 : (j : Int) < (m : Int) := by omega
        have hwadd : IntKind.i64.wrap ((i : Int) + (s : Int)) = (i : Int) + (s : Int) := IntWalk.i64_in _ (by omega)
        have hk0 := homeN_lt key (n := N) (by omega)
        clear hcs hlj hwe hu hw hB hb hZ hfz
        go_upto_region 10 with (fail)
        refine wp_gen (fun W' => W'.heap[wA.heap.size]? = some (.cells #[.int .i64 key, .int .i64 val] 36) ∧ Bal W' w.heap.size w.heap.size M Z ∧ Below w.heap.size w W') ⟨heap_new _ _ _ rfl, HBL.out.below ((Below.refl _ _).alloc (Nat.le_refl _) _), HB.out.alloc HB.out.size _⟩ ?_
        rintro W3 ⟨hd3, hb3, hB3⟩
        have d0 := cell_of_row _ _ 0 _ _ _ hd3
        have d1 := cell_of_row _ _ 1 _ _ _ hd3
        have HD3 := Lib.hid hd3
        have HB3 := Lib.hid hB3
        have HBL3 := Lib.hid hb3
        have hne : wA.heap.size ≠ w.heap.size := by have := HBL.out.lt.1; omega
        clear hd3 hB3 hb3 HBL HB e1 e2
        go_upto_region 11 with (go_at_call 29; go_must (refine (refHome_any key N hn hn2 _).mono ?_; rintro e W4 ⟨rfl, rfl⟩))
        have hnz : ((N : Int) == 0) = false := by simp; omega
        go_loopw [10] (fun v wr' => ∃ k : Nat, k < N ∧ v = .int .i64 k ∧ wr' = W4) (fun v _ => distN N (intOf v).toNat fr)
        case atStart => exact ⟨_, hk0, rfl, rfl⟩
        case round =>
          obtain ⟨k, hk, rfl, hwr⟩ := hrel
          rw [hwr]
          clear hwr
          obtain ⟨z, hzk⟩ : ∃ z, Z[1 + 3 * k]? = some z := ⟨_, List.getElem?_eq_getElem (by rw [HZ.out, HMN.out]; omega)⟩
          have hck := HBL3.out.cell (1 + 3 * k) hzk
          have g1 : IntKind.i64.wrap (3 * (k : Int)) = 3 * (k : Int) := IntWalk.i64_in _ (by omega)
          have g2 : IntKind.i64.wrap (1 + 3 * (k : Int)) = 1 + 3 * (k : Int) := IntWalk.i64_in _ (by omega)
          have g3 : IntKind.i64.wrap (2 + 3 * (k : Int)) = 2 + 3 * (k : Int) := IntWalk.i64_in _ (by omega)
          have g4 : IntKind.i64.wrap (3 + 3 * (k : Int)) = 3 + 3 * (k : Int) := IntWalk.i64_in _ (by omega)
          have g5 : IntKind.i64.wrap ((k : Int) + 1) = (k : Int) + 1 := IntWalk.i64_in _ (by omega)
          have t1 : (1 + 3 * (k : Int)).toNat = 1 + 3 * k := by omega
          have t2 : (2 + 3 * (k : Int)).toNat = 2 + 3 * k := by omega
          have t3 : (3 + 3 * (k : Int)).toNat = 3 + 3 * k := by omega
          have b1 : (0 : Int) ≤ 1 + 3 * (k : Int) := by omega
          have b2 : (0 : Int) ≤ 2 + 3 * (k : Int) := by omega
          have b3 : (0 : Int) ≤ 3 + 3 * (k : Int) := by omega
          have b4 : 1 + 3 * (k : Int) < (M : Int) := by rw [HMN.out]; omega
          have b5 : 2 + 3 * (k : Int) < (M : Int) := by rw [HMN.out]; omega
          have b6 : 3 + 3 * (k : Int) < (M : Int) := by rw [HMN.out]; omega
          by_cases hz1 : z = 1
          · subst hz1
            have hkf : k ≠ fr := by
              rintro rfl
              exact HFZ.out (by rw [List.getD_eq_getElem?_getD, hzk]; rfl)
            obtain ⟨k', hk', hkl, hkd⟩ : ∃ k' : Nat, ((k : Int) + 1).tmod (N : Int) = k' ∧ k' < N ∧ distN N k' fr < distN N k fr := by
              refine ⟨(k + 1) % N, by rw [Int.tmod_eq_emod_of_nonneg (by omega)]; simp, Nat.mod_lt _ (by omega), ?_⟩
              by_cases e : k + 1 < N
              · rw [Nat.mod_eq_of_lt e]
                unfold distN
                split <;> split <;> omega
              · obtain rfl : k + 1 = N := by omega
                rw [Nat.mod_self]
                unfold distN
                split <;> split <;> omega
            have HKL := Lib.hid hkl
            have HKD := Lib.hid hkd
            clear hzk hkf hkl hkd d0 d1
            go_wp2
            go_roundw
            case rel => exact ⟨k', HKL.out, rfl, by first | rfl | trivial⟩
            case measure => simpa [intOf] using HKD.out
          · have hd : (z == 1) = false := by simpa using hz1
            obtain ⟨z2, hz2⟩ : ∃ z, (Z.set (1 + 3 * k) 1)[2 + 3 * k]? = some z := ⟨_, List.getElem?_eq_getElem (by rw [List.length_set, HZ.out, HMN.out]; omega)⟩
            obtain ⟨z3, hz3⟩ : ∃ z, ((Z.set (1 + 3 * k) 1).set (2 + 3 * k) key)[3 + 3 * k]? = some z := ⟨_, List.getElem?_eq_getElem (by rw [List.length_set, List.length_set, HZ.out, HMN.out]; omega)⟩
            have hB1 := HBL3.out.set (1 + 3 * k) 1
            have hB2 := hB1.set (2 + 3 * k) key
            have hB3 := hB2.set (3 + 3 * k) val
            have hf1 := HBL3.out.frozenAt (1 + 3 * k)
            have hf2 := hB1.frozenAt (2 + 3 * k)
            have hf3 := hB2.frozenAt (3 + 3 * k)
            have hc2 := hB1.cell (2 + 3 * k) hz2
            have hc3 := hB2.cell (3 + 3 * k) hz3
            have hd1 := (heap_setCell_other W4 ⟨w.heap.size, 1 + 3 * k, none⟩ wA.heap.size (.int .i64 1) hne).trans HD3.out
            have hd2 := (heap_setCell_other _ ⟨w.heap.size, 2 + 3 * k, none⟩ wA.heap.size (.int .i64 key) hne).trans hd1
            have d2 := cell_of_row _ _ 0 _ _ _ hd1
            have d3 := cell_of_row _ _ 1 _ _ _ hd2
            have HBF := Lib.hid hB3
            have HDD := Lib.hid (((HB3.out.setCell (p := ⟨w.heap.size, 1 + 3 * k, none⟩) (Nat.le_refl _) (.int .i64 1)).setCell (p := ⟨w.heap.size, 2 + 3 * k, none⟩) (Nat.le_refl _) (.int .i64 key)).setCell (p := ⟨w.heap.size, 3 + 3 * k, none⟩) (Nat.le_refl _) (.int .i64 val))
            have HUU := Lib.hid (usedN_put Z k N 1 key val)
            clear hz1 hzk hz2 hz3 hB1 hB2 hB3 hd1 hd2
            go_wp2
            go_roundw
            case rel => exact ⟨i + 1, _, by omega, by go_num, by simp only [List.length_set]; exact HZ.out, Nat.le_trans HUU.out (by have := HU.out; omega), ((HW.out.set _ (wf_small (by omega) (by omega))).set _ HWE.out.1).set _ HWE.out.2, HBF.out, HDD.out⟩
            case measure => simp [intOf]; omega
      · obtain rfl : i = m := by omega
        have HW := Lib.hid hw
        have HB := Lib.hid hB
        have HBL := Lib.hid hb
        have HZ := Lib.hid hZ
        clear hw hB hb hZ hu
        go_wp2
        go_loopw [11] (fun v wr' => ∃ (q : Nat) (Z : List Int), q ≤ N ∧ v = .int .i64 q ∧ Z.length = M ∧ Wf64 Z ∧ Bal wr' w.heap.size w.heap.size M Z ∧ Below w.heap.size w wr') (fun v _ => N - (intOf v).toNat)
        case atStart => exact ⟨0, Z, Nat.zero_le _, rfl, HZ.out, HW.out, HBL.out, HB.out⟩
        case round =>
          clear HW HB HBL HZ
          obtain ⟨q, Z, hq, rfl, hZ, hw, hb, hB⟩ := hrel
          by_cases hqn : q < N
          · obtain ⟨z, hzk⟩ : ∃ z, Z[1 + 3 * q]? = some z := ⟨_, List.getElem?_eq_getElem (by rw [hZ, HMN.out]; omega)⟩
            have hck := hb.cell (1 + 3 * q) hzk
            have g1 : IntKind.i64.wrap (3 * (q : Int)) = 3 * (q : Int) := IntWalk.i64_in _ (by omega)
            have g2 : IntKind.i64.wrap (1 + 3 * (q : Int)) = 1 + 3 * (q : Int) := IntWalk.i64_in _ (by omega)
            have g3 : IntKind.i64.wrap (2 + 3 * (q : Int)) = 2 + 3 * (q : Int) := IntWalk.i64_in _ (by omega)
            have g4 : IntKind.i64.wrap (3 + 3 * (q : Int)) = 3 + 3 * (q : Int) := IntWalk.i64_in _ (by omega)
            have t1 : (1 + 3 * (q : Int)).toNat = 1 + 3 * q := by omega
            have t2 : (2 + 3 * (q : Int)).toNat = 2 + 3 * q := by omega
            have t3 : (3 + 3 * (q : Int)).toNat = 3 + 3 * q := by omega
            have b1 : (0 : Int) ≤ 1 + 3 * (q : Int) := by omega
            have b2 : (0 : Int) ≤ 2 + 3 * (q : Int) := by omega
            have b3 : (0 : Int) ≤ 3 + 3 * (q : Int) := by omega
            have b4 : 1 + 3 * (q : Int) < (M : Int) := by rw [HMN.out]; omega
            have b5 : 2 + 3 * (q : Int) < (M : Int) := by rw [HMN.out]; omega
            have b6 : 3 + 3 * (q : Int) < (M : Int) := by rw [HMN.out]; omega
            by_cases hz0 : z = 0
            · subst hz0
              obtain ⟨y, hy, hy0, hy1⟩ : ∃ y : Int, (q : Int).tmod 20 = y ∧ 0 ≤ y ∧ y ≤ 64 := ⟨(q : Int) % 20, Int.tmod_eq_emod_of_nonneg (by omega), by omega, by omega⟩
              obtain ⟨x, hx, hx0, hx1⟩ : ∃ x : Int, (s : Int).tmod 9 = x ∧ 0 ≤ x ∧ x ≤ 9 := ⟨(s : Int) % 9, Int.tmod_eq_emod_of_nonneg (by omega), by omega, by omega⟩
              obtain ⟨z2, hz2⟩ : ∃ z, (Z.set (1 + 3 * q) 2)[2 + 3 * q]? = some z := ⟨_, List.getElem?_eq_getElem (by rw [List.length_set, hZ, HMN.out]; omega)⟩
              obtain ⟨z3, hz3⟩ : ∃ z, ((Z.set (1 + 3 * q) 2).set (2 + 3 * q) x)[3 + 3 * q]? = some z := ⟨_, List.getElem?_eq_getElem (by rw [List.length_set, List.length_set, hZ, HMN.out]; omega)⟩
              have hB1 := hb.set (1 + 3 * q) 2
              have hB2 := hB1.set (2 + 3 * q) x
              have hB3 := hB2.set (3 + 3 * q) (q : Int)
              have hf1 := hb.frozenAt (1 + 3 * q)
              have hf2 := hB1.frozenAt (2 + 3 * q)
              have hf3 := hB2.frozenAt (3 + 3 * q)
              have hc2 := hB1.cell (2 + 3 * q) hz2
              have hc3 := hB2.cell (3 + 3 * q) hz3
              have HBF := Lib.hid hB3
              have HDD := Lib.hid (((hB.setCell (p := ⟨w.heap.size, 1 + 3 * q, none⟩) (Nat.le_refl _) (.int .i64 2)).setCell (p := ⟨w.heap.size, 2 + 3 * q, none⟩) (Nat.le_refl _) (.int .i64 x)).setCell (p := ⟨w.heap.size, 3 + 3 * q, none⟩) (Nat.le_refl _) (.int .i64 (q : Int)))
              have HZ := Lib.hid hZ
              have HW := Lib.hid hw
              have HWX := Lib.hid (((hw.set (1 + 3 * q) (wf_small (z := 2) (by omega) (by omega))).set (2 + 3 * q) (wf_small (z := x) (by omega) (by omega))).set (3 + 3 * q) (wf_small (z := (q : Int)) (by omega) (by omega)))
              have HB := Lib.hid hB
              have HBL := Lib.hid hb
              clear hzk hz2 hz3 hB1 hB2 hB3 hZ hw hb hB
              go_wp2
              all_goals
                go_roundw
                case rel => first
                  | exact ⟨q + 1, Z, by omega, by go_num, HZ.out, HW.out, HBL.out, HB.out⟩
                  | exact ⟨q + 1, _, by omega, by go_num, by simp only [List.length_set]; exact HZ.out, HWX.out, HBF.out, HDD.out⟩
                case measure => simp [intOf]; omega
            · have hd : (z == 0) = false := by simpa using hz0
              have HZ := Lib.hid hZ
              have HW := Lib.hid hw
              have HB := Lib.hid hB
              have HBL := Lib.hid hb
              clear hzk hz0 hZ hw hb hB
              go_wp2
              go_roundw
              case rel => exact ⟨q + 1, Z, by omega, by go_num, HZ.out, HW.out, HBL.out, HB.out⟩
              case measure => simp [intOf]; omega
          · obtain rfl : q = N := by omega
            have HZ := Lib.hid hZ
            clear hZ
            go_wp2
            go_ret
            exact ⟨_, Z, rfl, by rw [HZ.out, HMN.out], hb, hB, hw⟩
end Go.Proofs.YtochpdailleilaaGreatDoor
