/-
  quash/quashref15.Verify: every list of instructions. No condition.
-/
import Derived.Test.YtojgdabkdbchnaaGreatDoorRefVMem15
namespace Go.Proofs.YtojgdabkdbchnaaGreatDoor
open Go.RowKit
set_option maxRecDepth 100000

theorem refVerify_bad (ao : Option Addr) (n c : Nat) (l : List (Int × Int)) (w : World) (hl : l.length = n) (hs : SeesP w ao l) (hn : n ≤ maxLen) (h0 : (checkL l).1 ≠ 0) :
    Calls Tryz.prog 10 #[.slice ao n c] w fun e w' => e = .returned (.tuple #[.int .i64 (verifyL l).1, .int .i64 (verifyL l).2]) ∧ Below w.heap.size w w' := by
  have hv : verifyL l = checkL l := by unfold verifyL; rw [if_neg h0]
  rw [hv]
  have HC := Lib.hid (refCheck_any ao n c l w hl hs hn)
  generalize checkL l = R at h0 HC
  obtain ⟨r1, r2⟩ := R
  have h1 : (r1 == 0) = false := by simpa using h0
  clear hl hs hv hn h0
  go_enter Tryz.func10, Tryz.ntmps10
  go_wp2_with (go_at_call 21; refine HC.out.mono ?_; rintro e w1 ⟨rfl, rfl⟩)
  go_ret2
  exact ⟨rfl, Below.refl _ _⟩
theorem five (w : World) (a b c d e : Obj) : ((((((w.alloc a).alloc b).alloc c).alloc d).alloc e).heap[w.heap.size]? = some a ∧ (((((w.alloc a).alloc b).alloc c).alloc d).alloc e).heap[w.heap.size + 1]? = some b ∧ (((((w.alloc a).alloc b).alloc c).alloc d).alloc e).heap[w.heap.size + 2]? = some c ∧
    (((((w.alloc a).alloc b).alloc c).alloc d).alloc e).heap[w.heap.size + 3]? = some d ∧ (((((w.alloc a).alloc b).alloc c).alloc d).alloc e).heap[w.heap.size + 4]? = some e) ∧ Below w.heap.size w (((((w.alloc a).alloc b).alloc c).alloc d).alloc e) ∧ w.heap.size + 5 ≤ (((((w.alloc a).alloc b).alloc c).alloc d).alloc e).heap.size := by
  refine ⟨⟨?_, ?_, ?_, ?_, heap_new _ _ _ (by simp <;> omega)⟩, ((((((Below.refl _ _).alloc (Nat.le_refl _) _).alloc (by simp <;> omega) _).alloc (by simp <;> omega) _).alloc (by simp <;> omega) _).alloc (by simp <;> omega) _), by simp⟩
  · exact (Below.heap_alloc _ _ _ (by simp <;> omega)).trans ((Below.heap_alloc _ _ _ (by simp <;> omega)).trans ((Below.heap_alloc _ _ _ (by simp <;> omega)).trans ((Below.heap_alloc _ _ _ (by simp <;> omega)).trans (heap_new _ _ _ rfl))))
  · exact (Below.heap_alloc _ _ _ (by simp <;> omega)).trans ((Below.heap_alloc _ _ _ (by simp <;> omega)).trans ((Below.heap_alloc _ _ _ (by simp <;> omega)).trans (heap_new _ _ _ (by simp <;> omega))))
  · exact (Below.heap_alloc _ _ _ (by simp <;> omega)).trans ((Below.heap_alloc _ _ _ (by simp <;> omega)).trans (heap_new _ _ _ (by simp <;> omega)))
  · exact (Below.heap_alloc _ _ _ (by simp <;> omega)).trans (heap_new _ _ _ (by simp <;> omega))
theorem cntD_le (D : List VP) (k : Nat) : 0 ≤ cntD D k ∧ cntD D k ≤ D.length := by
  unfold cntD
  have := List.countP_le_length (p := fun p : VP => p.1.toNat == k) (l := D)
  omega
theorem take_snoc' {L : List VP} {i : Nat} {p : VP} (h : L[i]? = some p) (t : List VP) : (L ++ t).take (i + 1) = L.take i ++ [p] := by
  have hi := (List.getElem?_eq_some_iff.1 h).1
  rw [List.take_append_of_le_length (by omega), List.take_add_one, h]
  rfl
/-- ahead of a round -/
def RRel (l : List (Int × Int)) (B H : Nat) (w : World) (i : Nat) (wr : World) : Prop :=
  ∃ (L : List VP) (vt : Value), i ≤ L.length ∧ BInv l i L ∧ RV l B H vt L (L.take i) w wr
theorem amissS_vals (op d b : Int) : amissS op d b = 0 ∨ amissS op d b = 155 ∨ amissS op d b = 156 := by
  unfold amissS
  repeat' split
  all_goals simp
set_option maxHeartbeats 8000000 in
theorem refVerify_loop (l : List (Int × Int)) (b o c : Nat) (w : World) (h1 : 1 ≤ l.length) (h2 : l.length ≤ 400) (hl : ∀ (j : Nat) (x : Int × Int), l[j]? = some x → isOp x.1 = true ∧ mayB (takes x.1) x.2 l.length = true) (h0 : (checkL l).1 = 0)
    (hc : ∀ j x, l[j]? = some x → w.cell? ⟨b, o + j * 2, none⟩ = some (.int .i64 x.1) ∧ w.cell? ⟨b, o + j * 2 + 1, none⟩ = some (.int .i64 x.2)) :
    Calls Tryz.prog 10 #[.slice (some ⟨b, o, none⟩) l.length c] w fun e w' => e = .returned (.tuple #[.int .i64 (verifyL l).1, .int .i64 (verifyL l).2]) ∧ Below w.heap.size w w' := by
  have HCHK := Lib.hid (refCheck_any (some ⟨b, o, none⟩) l.length c l w rfl ⟨b, o, fun _ => rfl, hc⟩ (by unfold maxLen; omega))
  have HWH := Lib.hid (fun E (hE : Whole l E) => verify_whole h0 hE)
  generalize hcl : checkL l = R0 at h0 HCHK
  obtain ⟨r1, r2⟩ := R0
  simp only at h0
  subst h0
  have HLL := Lib.hid hl
  have HCL := Lib.hid hc
  obtain ⟨R, hR⟩ : ∃ R, R = verifyL l := ⟨_, rfl⟩
  have HR := Lib.hid hR
  rw [← hR]
  obtain ⟨N, hN⟩ : ∃ N, N = l.length := ⟨_, rfl⟩
  have HN := Lib.hid hN
  rw [← hN] at h1 h2 HCHK
  rw [← hN]
  obtain ⟨H, hH⟩ : ∃ H, H = (N + 1) * 33 * 34 := ⟨_, rfl⟩
  have hH5 : H ≤ 449922 := by omega
  have mkH : ∀ w, (Instr.makeSlice 62 (.int .i64 (((N : Int) + 1) * 33 * 34)) (.int .i64 (((N : Int) + 1) * 33 * 34))).run Tryz.prog w = .ok (.slice (some ⟨w.heap.size, 0, none⟩) H H) (w.alloc (.cells (madeCells #[.bool false] H) 4)) := fun w => by
    have := makeBools H (by omega) w
    rw [show ((H : Nat) : Int) = ((N : Int) + 1) * 33 * 34 by omega] at this
    exact this
  have mkB : ∀ w, (Instr.makeSlice 62 (.int .i64 ((N : Int) + 1)) (.int .i64 ((N : Int) + 1))).run Tryz.prog w = .ok (.slice (some ⟨w.heap.size, 0, none⟩) (N + 1) (N + 1)) (w.alloc (.cells (madeCells #[.bool false] (N + 1)) 4)) := fun w => by
    have := makeBools (N + 1) (by omega) w
    rw [show ((N + 1 : Nat) : Int) = (N : Int) + 1 by omega] at this
    exact this
  have mkI : ∀ w, (Instr.makeSlice 55 (.int .i64 ((N : Int) + 1)) (.int .i64 ((N : Int) + 1))).run Tryz.prog w = .ok (.slice (some ⟨w.heap.size, 0, none⟩) (N + 1) (N + 1)) (w.alloc (.cells (madeCells #[.int .i64 0] (N + 1)) 3)) := fun w => by
    have := makeIntsV (N + 1) (by omega) w
    rw [show ((N + 1 : Nat) : Int) = (N : Int) + 1 by omega] at this
    exact this
  have HH := Lib.hid hH
  clear hl hc hR hN hH hcl
  go_enter Tryz.func10, Tryz.ntmps10
  go_upto_region 9 with (go_at_call 21; refine HCHK.out.mono ?_; rintro e w1 ⟨rfl, rfl⟩)
  refine wp_gen (fun W => RV l w.heap.size H (.slice none 0 0) [] [] w W) (by
    have := five w (.cells (madeCells #[.bool false] H) 4) (.cells #[.slice (some ⟨w.heap.size, 0, none⟩) H H, .slice none 0 0] 64) (.cells (madeCells #[.int .i64 0] (N + 1)) 3) (.cells (madeCells #[.bool false] (N + 1)) 4) (.cells (madeCells #[.bool false] (N + 1)) 4)
    obtain ⟨⟨k0, k1, k2, k3, k4⟩, k5, k6⟩ := this
    rw [HN.out] at k0 k1 k2 k3 k4 k5 k6
    have q := RV.start l k0 k1 k2 k3 k4 k5 k6
    rw [← HN.out] at q
    exact q) ?_
  rintro W0 hR0
  have HADD := Lib.hid (add_at w.heap.size (w.heap.size + 5) (w.heap.size + 1) w.heap.size H N (.slice none 0 0) [] 0 0 0 W0 (by omega) HH.out hR0.tm ⟨by decide, by show (0 : Int) ≤ N; omega, by decide, by decide, by decide, by decide⟩ (fun q hq => by cases hq) (by decide))
  have HR0 := Lib.hid hR0
  clear hR0 mkH mkB mkI
  go_wp2_with (go_at_call 22; refine HADD.out.mono ?_; rintro e w2 ⟨rfl, vt0, hT0, hB0, hF0, -⟩)
  have hRS : RRel l w.heap.size H w 0 w2 := ⟨[(0, 0, -1)], vt0, Nat.zero_le _, bstart l, HR0.out.after hT0 hB0 hF0⟩
  have HRS := Lib.hid hRS
  clear hT0 hB0 hF0 hRS HADD HR0
  go_loopw [11] (fun v wr => ∃ i : Nat, v = .int .i64 i ∧ RRel l w.heap.size H w i wr) (fun v _ => H + 1 - (intOf v).toNat)
  case atStart => exact ⟨0, rfl, HRS.out⟩
  case round =>
    clear HRS
    obtain ⟨i, rfl, L, vt, hi, hI, hRV⟩ := hrel
    have hLH := hI.len
    rw [← HN.out, ← HH.out] at hLH
    obtain ⟨ao', cp, hvt⟩ := hRV.tm.form
    subst hvt
    obtain ⟨M, hM⟩ : ∃ M, M = L.length := ⟨_, rfl⟩
    have HM := Lib.hid hM
    rw [← hM] at hi hLH
    obtain ⟨-, q1, -, -, -⟩ := hRV.tm.cells
    rw [← hM] at q1
    have HI := Lib.hid hI
    have HRV := Lib.hid hRV
    clear hI hM
    by_cases hlt : i < M
    · obtain ⟨⟨a, d, b'⟩, hp⟩ : ∃ p, L[i]? = some p := ⟨_, List.getElem?_eq_getElem (by rw [← HM.out]; exact hlt)⟩
      have hok := HI.out.ok _ (List.mem_of_getElem? hp)
      obtain ⟨g, cap', hv⟩ := Joins.ownsRow_form HRV.out.tm.todo (by rw [← HM.out]; omega)
      injection hv with hv1 hv2 hv3
      subst hv1
      have hcell := HRV.out.tm.todo.cellAt i (by rw [← HM.out]; omega)
      have hci : (intCells (codesV L))[i]? = some (.int .i64 (codeP (a, d, b'))) := by simp [intCells, codesV, hp]
      have ck := hcell.trans hci
      clear hcell hci hv2 hv3
      obtain ⟨k1, k2, k3, k4, k5, k6⟩ := hok
      simp only at k1 k2 k3 k4 k5 k6
      obtain ⟨A, rfl⟩ : ∃ A : Nat, a = A := ⟨a.toNat, by omega⟩
      obtain ⟨dd, rfl⟩ : ∃ dd : Nat, d = dd := ⟨d.toNat, by omega⟩
      obtain ⟨be, hbe⟩ : ∃ be : Nat, be = (b' + 1).toNat := ⟨_, rfl⟩
      obtain rfl : b' = (be : Int) - 1 := by omega
      obtain ⟨C, hC⟩ : ∃ C, C = codeP ((A : Int), (dd : Int), (be : Int) - 1) := ⟨_, rfl⟩
      rw [← hC] at ck
      have hCe : C = (A * 33 + dd) * 34 + be := by
        rw [hC]
        show ((A : Int).toNat * 33 + (dd : Int).toNat) * 34 + ((be : Int) - 1 + 1).toNat = _
        omega
      have hAN : A ≤ N := by rw [HN.out]; omega
      have hd32 : dd ≤ 32 := by omega
      have hb33 : be ≤ 33 := by omega
      have m1 : (C : Int) % 34 = (be : Int) := by omega
      have m2 : (C : Int) / 34 % 33 = (dd : Int) := by omega
      have m3 : (C : Int) / 34 / 33 = (A : Int) := by omega
      have HPL := Lib.hid hp
      have hOK : okP l.length ((A : Int), (dd : Int), (be : Int) - 1) := ⟨k1, k2, k3, k4, k5, k6⟩
      have HOK := Lib.hid hOK
      have hm := HRV.out.manyAt (A := A) (by rw [← HN.out]; exact hAN)
      have hz := cntD_le (L.take i) A
      rw [List.length_take] at hz
      have hz2 : cntD (L.take i) A ≤ 449922 := by omega
      obtain ⟨z, hz0⟩ : ∃ z, z = cntD (L.take i) A := ⟨_, rfl⟩
      have HZ := Lib.hid hz0
      rw [← hz0] at hm hz2 hz
      obtain ⟨hm1, hm2⟩ := hm
      have hz1 := hz.1
      have hA0 : (0 : Int) ≤ (A : Int) := by omega
      have hAN1 : (A : Int) < (N : Int) + 1 := by omega
      clear hp hbe hC hCe hOK hz hz0 k1 k2 k3 k4 k5 k6
      by_cases hend : A = N
      · subst hend
        have ht := HRV.out.txAt (A := A) (by rw [← HN.out]; exact Nat.le_refl _)
        obtain ⟨x6, hx6⟩ : ∃ x6, x6 = hasD l (L.take i) A 156 := ⟨_, rfl⟩
        rw [← hx6] at ht
        obtain ⟨ht1, ht2⟩ := ht
        have FIN := Lib.hid (show ∀ y6 : Bool, y6 = (x6 || decide (0 < be)) → ∀ W, W = (wr.setCell ⟨w.heap.size + 2, A, none⟩ (.int .i64 (z + 1))).setCell ⟨w.heap.size + 4, A, none⟩ (.bool y6) → RRel l w.heap.size H w (i + 1) W from fun y6 hy W hW => by
          have hE : errV l ((A : Int), (dd : Int), (be : Int) - 1) = if 0 < be then 156 else 0 := by
            unfold errV
            rw [if_pos (by show (A : Int).toNat = _; rw [Int.toNat_natCast]; exact HN.out)]
            by_cases e : 0 < be
            · rw [if_pos e, if_pos (by show (0 : Int) ≤ (be : Int) - 1; omega)]
            · rw [if_neg e, if_neg (by show ¬ (0 : Int) ≤ (be : Int) - 1; omega)]
          have hS : succV l ((A : Int), (dd : Int), (be : Int) - 1) = [] := by
            unfold succV
            rw [if_pos (by show (A : Int).toNat = _; rw [Int.toNat_natCast]; exact HN.out)]
          have hst := HI.out.step HLL.out HPL.out
          rw [hS] at hst
          have hrv := HRV.out.step2 (p := ((A : Int), (dd : Int), (be : Int) - 1)) (A := A) (x6 := y6) (Int.toNat_natCast A) (by rw [hE]; split <;> decide) (by
            rw [hasD_snoc, hE, ← hx6, hy]
            by_cases e : 0 < be <;> simp [e])
          rw [← HZ.out, ← hW] at hrv
          refine ⟨L, .slice (some ⟨g, 0, none⟩) L.length cp, by rw [← HM.out]; omega, hst, ?_⟩
          rw [List.take_add_one, HPL.out]
          exact hrv)
        clear hx6
        cases x6 with
        | true =>
          go_wp2
          go_roundw
          case rel => exact ⟨i + 1, by go_num, FIN.out true rfl _ rfl⟩
          case measure => simp [intOf]; omega
        | false =>
          by_cases hbp : 0 < be
          · have hbp1 : (0 : Int) < (be : Int) := by omega
            have HBP := Lib.hid (show true = (false || decide (0 < be)) by simp [hbp])
            go_wp2
            go_roundw
            case rel => exact ⟨i + 1, by go_num, FIN.out true HBP.out _ rfl⟩
            case measure => simp [intOf]; omega
          · obtain rfl : be = 0 := by omega
            go_wp2
            go_roundw
            case rel => exact ⟨i + 1, by go_num, FIN.out false rfl _ rfl⟩
            case measure => simp [intOf]; omega
      · have hlA : A < N := by omega
        have hend' : ((A : Int) == (N : Int)) = false := by simp; omega
        obtain ⟨⟨op, x⟩, hx⟩ : ∃ y, l[A]? = some y := ⟨_, List.getElem?_eq_getElem (by rw [← HN.out]; exact hlA)⟩
        obtain ⟨q0, q2⟩ := HCL.out A _ hx
        have hbw : b < w.heap.size := block_lt_of_cell q0
        have C0 := Lib.hid ((HRV.out.below.cell (p := ⟨b, _, none⟩) hbw).trans q0)
        have C1 := Lib.hid ((HRV.out.below.cell (p := ⟨b, _, none⟩) hbw).trans q2)
        have ht := HRV.out.txAt (A := A) (by rw [← HN.out]; exact hAN)
        have hd := HRV.out.depAt (A := A) (by rw [← HN.out]; exact hAN)
        obtain ⟨x6, hx6⟩ : ∃ x6, x6 = hasD l (L.take i) A 156 := ⟨_, rfl⟩
        obtain ⟨x5, hx5⟩ : ∃ x5, x5 = hasD l (L.take i) A 155 := ⟨_, rfl⟩
        rw [← hx6] at ht
        rw [← hx5] at hd
        have HT := Lib.hid ht
        have HD := Lib.hid hd
        obtain ⟨er, her⟩ : ∃ er, er = amissS op dd ((be : Int) - 1) := ⟨_, rfl⟩
        have hev := amissS_vals op dd ((be : Int) - 1)
        have HAM := fun w => Lib.hid (refAmiss_any op dd be w (by omega) (by omega) (by omega))
        rw [← her] at hev HAM
        have hgd : l.getD ((A : Int), (dd : Int), (be : Int) - 1).1.toNat (0, 0) = (op, x) := by
          show l.getD (A : Int).toNat (0, 0) = _
          rw [Int.toNat_natCast, List.getD_eq_getElem?_getD, hx]; rfl
        have hne : ¬ ((A : Int), (dd : Int), (be : Int) - 1).1.toNat = l.length := by
          show ¬ (A : Int).toNat = l.length
          rw [Int.toNat_natCast, ← HN.out]; exact hend
        have hE : errV l ((A : Int), (dd : Int), (be : Int) - 1) = er := by
          unfold errV
          rw [if_neg hne, hgd, her]
        have hSn : er ≠ 0 → succV l ((A : Int), (dd : Int), (be : Int) - 1) = [] := fun e => by
          unfold succV
          rw [if_neg hne]
          simp only [hgd]
          rw [if_neg (by rw [← her]; exact e)]
        have hSy : er = 0 → succV l ((A : Int), (dd : Int), (be : Int) - 1) = sucs op x A dd ((be : Int) - 1) := fun e => by
          unfold succV
          rw [if_neg hne]
          simp only [hgd]
          rw [if_pos (by rw [← her]; exact e)]
          rfl
        have FIN := Lib.hid (show ∀ y5 y6 : Bool, y5 = (x5 || er == 155) → y6 = (x6 || er == 156) → ∀ W, W = ((wr.setCell ⟨w.heap.size + 2, A, none⟩ (.int .i64 (z + 1))).setCell ⟨w.heap.size + 3, A, none⟩ (.bool y5)).setCell ⟨w.heap.size + 4, A, none⟩ (.bool y6) → RV l w.heap.size H (.slice (some ⟨g, 0, none⟩) L.length cp) L (L.take (i + 1)) w W from fun y5 y6 h5 h6 W hW => by
          have hrv := HRV.out.step3 (p := ((A : Int), (dd : Int), (be : Int) - 1)) (A := A) (x5 := y5) (x6 := y6) (Int.toNat_natCast A) (by rw [hasD_snoc, hE, ← hx5, h5]; simp) (by rw [hasD_snoc, hE, ← hx6, h6]; simp)
          rw [← HZ.out, ← hW] at hrv
          rw [List.take_add_one, HPL.out]
          exact hrv)
        have STEP := Lib.hid (HI.out.step HLL.out HPL.out)
        have HSN := Lib.hid hSn
        have HSY := Lib.hid hSy
        have HMAY := Lib.hid (HLL.out A _ hx).2
        have HER := Lib.hid her
        clear q0 q2 hx hx5 hx6 ht hd hgd hne hE hSn hSy her hend
        go_upto_region 18 with (fail)
        refine wp_gen (fun W => W = wr.setCell ⟨w.heap.size + 2, A, none⟩ (.int .i64 (z + 1))) rfl ?_
        intro W hW
        have hBW : Below w.heap.size wr W := by rw [hW]; exact (Below.refl _ _).setCell (p := ⟨w.heap.size + 2, A, none⟩) (by show w.heap.size ≤ w.heap.size + 2; omega) _
        have c0 := (hBW.cell (p := ⟨b, _, none⟩) hbw).trans C0.out
        have c1 := (hBW.cell (p := ⟨b, _, none⟩) hbw).trans C1.out
        simp only at c0 c1
        have e5 : W.cell? ⟨w.heap.size + 3, A, none⟩ = some (.bool x5) := by rw [hW]; exact (World.cell?_of_block (heap_setCell_other _ _ _ _ (by show w.heap.size + 3 ≠ w.heap.size + 2; omega))).trans HD.out.1
        have e6 : W.cell? ⟨w.heap.size + 4, A, none⟩ = some (.bool x6) := by rw [hW]; exact (World.cell?_of_block (heap_setCell_other _ _ _ _ (by show w.heap.size + 4 ≠ w.heap.size + 2; omega))).trans HT.out.1
        have f5 : W.frozen? ⟨w.heap.size + 3, A, none⟩ = false := by rw [hW]; exact (World.frozen?_of_block (heap_setCell_other _ _ _ _ (by show w.heap.size + 3 ≠ w.heap.size + 2; omega))).trans HD.out.2
        have f6 : W.frozen? ⟨w.heap.size + 4, A, none⟩ = false := by rw [hW]; exact (World.frozen?_of_block (heap_setCell_other _ _ _ _ (by show w.heap.size + 4 ≠ w.heap.size + 2; omega))).trans HT.out.2
        have HW := Lib.hid hW
        clear hW hBW hm1 hm2 q1 ck
        have BAD := Lib.hid (show er ≠ 0 → ∀ y5 y6 : Bool, y5 = (x5 || er == 155) → y6 = (x6 || er == 156) → ∀ W', W' = (W.setCell ⟨w.heap.size + 3, A, none⟩ (.bool y5)).setCell ⟨w.heap.size + 4, A, none⟩ (.bool y6) → RRel l w.heap.size H w (i + 1) W' from fun hne y5 y6 h5 h6 W' hW' => by
          have hst := STEP.out
          rw [HSN.out hne] at hst
          exact ⟨L, .slice (some ⟨g, 0, none⟩) L.length cp, by rw [← HM.out]; omega, hst, FIN.out y5 y6 h5 h6 W' (by rw [← HW.out]; exact hW')⟩)
        have GOOD := Lib.hid (show er = 0 → ∀ W', W' = (W.setCell ⟨w.heap.size + 3, A, none⟩ (.bool x5)).setCell ⟨w.heap.size + 4, A, none⟩ (.bool x6) →
            Calls Tryz.prog 24 #[.pointer (some ⟨w.heap.size + 1, 0, none⟩), .agg #[.int .i64 op, .int .i64 x], .int .i64 A, .int .i64 dd, .int .i64 be] W' fun e w' => e = .returned (.tuple #[]) ∧ RRel l w.heap.size H w (i + 1) w' from fun he0 W' hW' => by
          have hrv := FIN.out x5 x6 (by rw [he0]; simp) (by rw [he0]; simp) W' (by rw [← HW.out]; exact hW')
          have hst := STEP.out
          rw [HSY.out he0] at hst
          obtain ⟨t, ht⟩ := addAllB_pre (sucs op x A dd ((be : Int) - 1)) L
          refine (follow_any w.heap.size (w.heap.size + 5) (w.heap.size + 1) w.heap.size H N _ L op x A dd be W' (by omega) HH.out hrv.tm (by rw [HN.out]; exact HOK.out) (by omega) (by rw [HN.out]; exact HMAY.out) (by rw [← HER.out]; exact he0) (fun q hq => by rw [HN.out]; exact HI.out.ok q hq) (by rw [← HM.out]; omega)).mono ?_
          rintro e w' ⟨h1, vt', h2, h3, h4⟩
          refine ⟨h1, _, vt', ?_, hst, ?_⟩
          · rw [ht, List.length_append, ← HM.out]; omega
          · have := hrv.after h2 h3 h4
            rw [ht, List.take_append_of_le_length (by rw [← HM.out]; omega)]
            rw [ht] at this
            exact this)
        have HE5 := Lib.hid (show ∀ x : Bool, x = (x || (0 : Int) == 155) from fun x => by simp)
        clear FIN STEP HSN HSY
        rcases hev with hev | hev | hev
        · subst hev
          have GOOD2 := Lib.hid (GOOD.out rfl)
          clear GOOD BAD
          cases x5 <;> cases x6
          all_goals
            go_upto_region 23 with (go_at_call 23; refine (HAM _).out.mono ?_; rintro e w3 ⟨rfl, rfl⟩)
            refine wp_gen (fun W2 => W2 = _) rfl ?_
            intro W2 hW2
            have hB2 : Below w.heap.size W W2 := by rw [hW2]; exact ((Below.refl _ _).setCell (p := ⟨w.heap.size + 3, A, none⟩) (by show w.heap.size ≤ w.heap.size + 3; omega) _).setCell (p := ⟨w.heap.size + 4, A, none⟩) (by show w.heap.size ≤ w.heap.size + 4; omega) _
            have d0 := (hB2.cell (p := ⟨b, _, none⟩) hbw).trans c0
            have d1 := (hB2.cell (p := ⟨b, _, none⟩) hbw).trans c1
            have HW2 := Lib.hid hW2
            clear hW2 hB2 c0 c1 e5 e6 f5 f6
            go_wp2_with (go_at_call 24; refine (GOOD2.out _ HW2.out).mono ?_; rintro e w4 ⟨rfl, hrr⟩)
            go_roundw
            case rel => exact ⟨i + 1, by go_num, hrr⟩
            case measure => simp [intOf]; omega
        · subst hev
          cases x5 <;> cases x6
          all_goals
            go_wp2_with (go_at_call 23; refine (HAM _).out.mono ?_; rintro e w3 ⟨rfl, rfl⟩)
            go_roundw
            case rel => exact ⟨i + 1, by go_num, BAD.out (by decide) _ _ rfl rfl _ rfl⟩
            case measure => simp [intOf]; omega
        · subst hev
          cases x5 <;> cases x6
          all_goals
            go_wp2_with (go_at_call 23; refine (HAM _).out.mono ?_; rintro e w3 ⟨rfl, rfl⟩)
            go_roundw
            case rel => exact ⟨i + 1, by go_num, BAD.out (by decide) _ _ rfl rfl _ rfl⟩
            case measure => simp [intOf]; omega
    · obtain rfl : i = M := by omega
      have hI := HI.out
      have hrv := HRV.out
      rw [HM.out] at hI hrv
      rw [List.take_length] at hrv
      have hfin := HWH.out L hI.whole
      rw [← HR.out, ← HN.out] at hfin
      have HFI := Lib.hid hfin
      have HRV2 := Lib.hid hrv
      clear hI hrv hfin HI HRV
      go_wp2
      go_loopw [17] (fun v wr' => ∃ k : Nat, k ≤ N + 1 ∧ v = .int .i64 k ∧ finishD l L (N + 1 - k) k = R ∧ wr' = wr) (fun v _ => N + 2 - (intOf v).toNat)
      case atStart => exact ⟨0, by omega, rfl, HFI.out.symm, rfl⟩
      case round =>
        obtain ⟨k, hk, rfl, hF, rfl⟩ := hrel
        have HF := Lib.hid hF
        clear hF
        by_cases hkN : k ≤ N
        · have hd := HRV2.out.depAt (A := k) (by rw [← HN.out]; exact hkN)
          have ht := HRV2.out.txAt (A := k) (by rw [← HN.out]; exact hkN)
          have hm := HRV2.out.manyAt (A := k) (by rw [← HN.out]; exact hkN)
          have hstep : finishD l L (N + 1 - k) k = if verdictD l L k = 0 then finishD l L (N + 1 - (k + 1)) (k + 1) else (verdictD l L k, (k : Int)) := by
            rw [show N + 1 - k = (N + 1 - (k + 1)) + 1 by omega, finishD]
          rw [HF.out] at hstep
          unfold verdictD badD at hstep
          rw [← HN.out] at hstep
          obtain ⟨hd, -⟩ := hd
          obtain ⟨ht, -⟩ := ht
          obtain ⟨hm, -⟩ := hm
          generalize hasD l L k 155 = x5 at hd hstep
          generalize hasD l L k 156 = x6 at ht hstep
          generalize cntD L k = z at hm hstep
          have hk1 : (k : Int) < (N : Int) + 1 := by omega
          have hk2 : (k : Int) ≤ (N : Int) := by omega
          have hk0 : (0 : Int) ≤ (k : Int) := by omega
          cases x5 with
          | true =>
            have HS := Lib.hid (show R = (155, (k : Int)) by rw [hstep]; simp)
            clear hstep
            go_wp2
            go_ret2
            rw [HS.out]
            exact ⟨rfl, HRV2.out.below⟩
          | false =>
            cases x6 with
            | true =>
              have HS := Lib.hid (show R = (156, (k : Int)) by rw [hstep]; simp)
              clear hstep
              go_wp2
              go_ret2
              rw [HS.out]
              exact ⟨rfl, HRV2.out.below⟩
            | false =>
              by_cases hz1 : 1 < z
              · by_cases hkl : k < N
                · have hkl' : (k : Int) < (N : Int) := by omega
                  have HS := Lib.hid (show R = (157, (k : Int)) by rw [hstep]; simp [hz1, hkl])
                  clear hstep
                  go_wp2
                  go_ret2
                  rw [HS.out]
                  exact ⟨rfl, HRV2.out.below⟩
                · have hkl' : decide (k < N) = false := by simp; omega
                  have HS := Lib.hid (show finishD l L (N + 1 - (k + 1)) (k + 1) = R by rw [hstep]; simp [hkl])
                  clear hstep
                  go_wp2
                  go_roundw
                  case rel => exact ⟨k + 1, by omega, by go_num, HS.out, trivial⟩
                  case measure => simp [intOf]; omega
              · have HS := Lib.hid (show finishD l L (N + 1 - (k + 1)) (k + 1) = R by rw [hstep]; simp [hz1])
                clear hstep
                go_wp2
                go_roundw
                case rel => exact ⟨k + 1, by omega, by go_num, HS.out, trivial⟩
                case measure => simp [intOf]; omega
        · obtain rfl : k = N + 1 := by omega
          have HS := Lib.hid (show R = (0, 0) by rw [← HF.out, Nat.sub_self]; rfl)
          have hk1 : ¬ ((N : Int) + 1) ≤ (N : Int) := by omega
          go_wp2
          go_ret2
          rw [HS.out]
          exact ⟨rfl, HRV2.out.below⟩
theorem refVerify_any (ao : Option Addr) (n c : Nat) (l : List (Int × Int)) (w : World) (hl : l.length = n) (hs : SeesP w ao l) (hn : n ≤ maxLen) :
    Calls Tryz.prog 10 #[.slice ao n c] w fun e w' => e = .returned (.tuple #[.int .i64 (verifyL l).1, .int .i64 (verifyL l).2]) ∧ Below w.heap.size w w' := by
  by_cases h0 : (checkL l).1 = 0
  · subst hl
    obtain ⟨h1, h2, h3⟩ := checkL_ok h0
    obtain ⟨b, o, hao, hc⟩ := hs
    obtain rfl := hao (by intro e; subst e; simp at h1)
    exact refVerify_loop l b o c w h1 h2 h3 h0 hc
  · exact refVerify_bad ao n c l w hl hs hn h0
end Go.Proofs.YtojgdabkdbchnaaGreatDoor
