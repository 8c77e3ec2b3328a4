/-
  WHAT THE READING OF A SCRIPT GIVES. No condition.
  And: quash/quashref08.Check, quash/quashref23.Check: every script. Condition: what it sees in memory (SV.Sees).
-/
import Derived.Test.YtoiokbdipcecnaaGreatDoorScrVal
import Derived.Test.YtoiokbdipcecnaaGreatDoorLaw
import Derived.Test.YtoiokbdipcecnaaGreatDoorOpenP
import Derived.Test.YtoiokbdipcecnaaGreatDoorScrPrint
namespace Go.Proofs.YtoiokbdipcecnaaGreatDoor
open Go.RowKit
set_option maxRecDepth 100000

theorem refIn_any (n lo hi : Int) (w : World) : Calls Tryz.prog 37 #[.int .i64 n, .int .i64 lo, .int .i64 hi] w fun e w' => e = .returned (.bool (inB n lo hi)) ∧ w = w' := by
  by_cases h1 : lo ≤ n
  · by_cases h2 : n ≤ hi
    · have h : inB n lo hi = true := by simp [inB, h1, h2]
      rw [h]
      go_enter Tryz.func37, Tryz.ntmps37
      go_wp2
      go_ret
      exact ⟨rfl, rfl⟩
    · have h : inB n lo hi = false := by simp [inB, h2]
      rw [h]
      go_enter Tryz.func37, Tryz.ntmps37
      go_wp2
      go_ret
      exact ⟨rfl, rfl⟩
  · have h : inB n lo hi = false := by simp [inB, h1]
    rw [h]
    go_enter Tryz.func37, Tryz.ntmps37
    go_wp2
    go_ret
    exact ⟨rfl, rfl⟩
set_option maxHeartbeats 2000000 in
theorem refSpace_any (c : List Int) (w : World) : Calls Tryz.prog 17 #[cfgV c] w fun e w' => e = .returned (.int .i64 (if cfgB c then 0 else 1)) ∧ Below w.heap.size w w' := by
  unfold cfgV cfgB
  generalize c.getD 0 0 = c0
  generalize c.getD 1 0 = c1
  generalize c.getD 2 0 = c2
  generalize c.getD 3 0 = c3
  generalize c.getD 4 0 = c4
  generalize c.getD 5 0 = c5
  cases e0 : inB c0 1 256 with
  | false =>
    have He0 := Lib.hid e0
    clear e0
    go_enter Tryz.func17, Tryz.ntmps17
    go_wp2_with (go_at_call 37; refine (refIn_any _ _ _ _).mono ?_; rintro e w2 ⟨rfl, rfl⟩; first | rw [He0.out])
    go_ret
    exact ⟨rfl, (Below.refl _ _).alloc (Nat.le_refl _) _⟩
  | true =>
    cases e1 : inB c1 1 8 with
    | false =>
      have He0 := Lib.hid e0
      have He1 := Lib.hid e1
      clear e0 e1
      go_enter Tryz.func17, Tryz.ntmps17
      go_wp2_with (go_at_call 37; refine (refIn_any _ _ _ _).mono ?_; rintro e w2 ⟨rfl, rfl⟩; first | rw [He0.out] | rw [He1.out])
      go_ret
      exact ⟨rfl, (Below.refl _ _).alloc (Nat.le_refl _) _⟩
    | true =>
      cases e2 : inB c2 1 128 with
      | false =>
        have He0 := Lib.hid e0
        have He1 := Lib.hid e1
        have He2 := Lib.hid e2
        clear e0 e1 e2
        go_enter Tryz.func17, Tryz.ntmps17
        go_wp2_with (go_at_call 37; refine (refIn_any _ _ _ _).mono ?_; rintro e w2 ⟨rfl, rfl⟩; first | rw [He0.out] | rw [He1.out] | rw [He2.out])
        go_ret
        exact ⟨rfl, (Below.refl _ _).alloc (Nat.le_refl _) _⟩
      | true =>
        cases e3 : inB c3 1 3 with
        | false =>
          have He0 := Lib.hid e0
          have He1 := Lib.hid e1
          have He2 := Lib.hid e2
          have He3 := Lib.hid e3
          clear e0 e1 e2 e3
          go_enter Tryz.func17, Tryz.ntmps17
          go_wp2_with (go_at_call 37; refine (refIn_any _ _ _ _).mono ?_; rintro e w2 ⟨rfl, rfl⟩; first | rw [He0.out] | rw [He1.out] | rw [He2.out] | rw [He3.out])
          go_ret
          exact ⟨rfl, (Below.refl _ _).alloc (Nat.le_refl _) _⟩
        | true =>
          cases e4 : inB c4 0 8 with
          | false =>
            have He0 := Lib.hid e0
            have He1 := Lib.hid e1
            have He2 := Lib.hid e2
            have He3 := Lib.hid e3
            have He4 := Lib.hid e4
            clear e0 e1 e2 e3 e4
            go_enter Tryz.func17, Tryz.ntmps17
            go_wp2_with (go_at_call 37; refine (refIn_any _ _ _ _).mono ?_; rintro e w2 ⟨rfl, rfl⟩; first | rw [He0.out] | rw [He1.out] | rw [He2.out] | rw [He3.out] | rw [He4.out])
            go_ret
            exact ⟨rfl, (Below.refl _ _).alloc (Nat.le_refl _) _⟩
          | true =>
            cases e5 : inB c5 0 64 with
            | false =>
              have He0 := Lib.hid e0
              have He1 := Lib.hid e1
              have He2 := Lib.hid e2
              have He3 := Lib.hid e3
              have He4 := Lib.hid e4
              have He5 := Lib.hid e5
              clear e0 e1 e2 e3 e4 e5
              go_enter Tryz.func17, Tryz.ntmps17
              go_wp2_with (go_at_call 37; refine (refIn_any _ _ _ _).mono ?_; rintro e w2 ⟨rfl, rfl⟩; first | rw [He0.out] | rw [He1.out] | rw [He2.out] | rw [He3.out] | rw [He4.out] | rw [He5.out])
              go_ret
              exact ⟨rfl, (Below.refl _ _).alloc (Nat.le_refl _) _⟩
            | true =>
              have He0 := Lib.hid e0
              have He1 := Lib.hid e1
              have He2 := Lib.hid e2
              have He3 := Lib.hid e3
              have He4 := Lib.hid e4
              have He5 := Lib.hid e5
              clear e0 e1 e2 e3 e4 e5
              go_enter Tryz.func17, Tryz.ntmps17
              go_wp2_with (go_at_call 37; refine (refIn_any _ _ _ _).mono ?_; rintro e w2 ⟨rfl, rfl⟩; first | rw [He0.out] | rw [He1.out] | rw [He2.out] | rw [He3.out] | rw [He4.out] | rw [He5.out])
              go_ret
              exact ⟨rfl, (Below.refl _ _).alloc (Nat.le_refl _) _⟩
set_option maxHeartbeats 4000000 in
theorem refScrCheck_any (x : SV) (w : World) (h : x.Sees w) :
    Calls Tryz.prog 10 #[x.v] w fun e w' => e = .returned (.int .i64 x.check) ∧ Below w.heap.size w w' := by
  have H := Lib.hid h
  obtain ⟨K, hK⟩ : ∃ K, x.check = K := ⟨_, rfl⟩
  rw [hK]
  unfold SV.check scrCheckS at hK
  unfold SV.v
  have hcfg := fun W => refSpace_any x.c W
  unfold cfgV at hcfg
  obtain ⟨cb, hcb⟩ : ∃ b, cfgB x.c = b := ⟨_, rfl⟩
  rw [hcb] at hcfg hK
  have HPL := Lib.hid (progsV_length x.P)
  rw [progsV_length] at hK
  generalize x.c.getD 0 0 = c0 at *
  generalize x.c.getD 1 0 = c1 at *
  generalize x.c.getD 2 0 = c2 at *
  generalize x.c.getD 3 0 = c3 at *
  generalize x.c.getD 4 0 = c4 at *
  generalize x.c.getD 5 0 = c5 at *
  obtain ⟨ns, hns⟩ : ∃ n, n = x.s.length := ⟨_, rfl⟩
  obtain ⟨np, hnp⟩ : ∃ n, n = x.P.length := ⟨_, rfl⟩
  obtain ⟨nk, hnk⟩ : ∃ n, n = x.k.length := ⟨_, rfl⟩
  have hs1 := h.sl
  have hp1 := h.pl
  have hk1 := h.kl
  rw [← hns] at hK hs1 ⊢
  rw [← hnp] at hK hp1 ⊢
  rw [← hnk] at hK hk1 ⊢
  have HN := Lib.hid hnp
  generalize x.so = so
  generalize x.sc = sc
  generalize x.pc = pc
  generalize x.ko = ko
  generalize x.kc = kc
  generalize x.d = d at hK ⊢
  unfold maxLen at hs1 hp1 hk1
  clear h hns hnp hnk hcb
  cases cb with
  | false =>
    have HC := Lib.hid hcfg
    rw [if_pos rfl] at hK
    have HK := Lib.hid hK
    clear hcfg hK
    go_enter Tryz.func10, Tryz.ntmps10
    go_wp2_with (go_at_call 17; go_must (refine (HC.out _).mono ?_; rintro e w1 ⟨rfl, hb1⟩))
    go_ret
    exact ⟨by rw [← HK.out]; rfl, ((Below.refl _ _).alloc (Nat.le_refl _) _).trans (hb1.mono (by simp))⟩
  | true =>
    rw [if_neg (by decide)] at hK
    by_cases h1 : c0 < (ns : Int)
    · rw [if_pos h1] at hK
      have HC := Lib.hid hcfg
      have HK := Lib.hid hK
      clear hcfg hK
      go_enter Tryz.func10, Tryz.ntmps10
      go_wp2_with (go_at_call 17; go_must (refine (HC.out _).mono ?_; rintro e w1 ⟨rfl, hb1⟩; have q := (hb1.block _ (by simp)).trans (heap_new w _ w.heap.size rfl); have q6 := cell_of_row _ _ 6 _ _ _ q; have q0 := cell_of_row _ _ 0 _ _ _ q; clear q))
      go_ret
      exact ⟨by rw [← HK.out]; rfl, ((Below.refl _ _).alloc (Nat.le_refl _) _).trans (hb1.mono (by simp))⟩
    · rw [if_neg h1] at hK
      by_cases h2 : np < 1 ∨ 8 < np
      · rw [if_pos h2] at hK
        have HC := Lib.hid hcfg
        have HK := Lib.hid hK
        clear hcfg hK
        rcases h2 with h2 | h2
        · obtain rfl : np = 0 := by omega
          clear h2
          go_enter Tryz.func10, Tryz.ntmps10
          go_wp2_with (go_at_call 17; go_must (refine (HC.out _).mono ?_; rintro e w1 ⟨rfl, hb1⟩; have q := (hb1.block _ (by simp)).trans (heap_new w _ w.heap.size rfl); have q6 := cell_of_row _ _ 6 _ _ _ q; have q0 := cell_of_row _ _ 0 _ _ _ q; have q7 := cell_of_row _ _ 7 _ _ _ q; clear q))
          go_ret
          exact ⟨by rw [← HK.out]; rfl, ((Below.refl _ _).alloc (Nat.le_refl _) _).trans (hb1.mono (by simp))⟩
        · have h3 : ¬ (np : Int) < 1 := by omega
          have h4 : (8 : Int) < (np : Int) := by omega
          clear h2
          go_enter Tryz.func10, Tryz.ntmps10
          go_wp2_with (go_at_call 17; go_must (refine (HC.out _).mono ?_; rintro e w1 ⟨rfl, hb1⟩; have q := (hb1.block _ (by simp)).trans (heap_new w _ w.heap.size rfl); have q6 := cell_of_row _ _ 6 _ _ _ q; have q0 := cell_of_row _ _ 0 _ _ _ q; have q7 := cell_of_row _ _ 7 _ _ _ q; clear q))
          go_ret
          exact ⟨by rw [← HK.out]; rfl, ((Below.refl _ _).alloc (Nat.le_refl _) _).trans (hb1.mono (by simp))⟩
      · rw [if_neg h2] at hK
        have h3 : ¬ (np : Int) < 1 := by omega
        have h4 : ¬ (8 : Int) < (np : Int) := by omega
        have HC := Lib.hid hcfg
        have HK := Lib.hid hK
        clear hcfg hK h2
        go_enter Tryz.func10, Tryz.ntmps10
        go_wp2_with (go_at_call 17; go_must (refine (HC.out _).mono ?_; rintro e w1 ⟨rfl, hb1⟩; have q := (hb1.block _ (by simp)).trans (heap_new w _ w.heap.size rfl); have q6 := cell_of_row _ _ 6 _ _ _ q; have q0 := cell_of_row _ _ 0 _ _ _ q; have q7 := cell_of_row _ _ 7 _ _ _ q; have Q := Lib.hid q; clear q))
        have HB1 := Lib.hid (((Below.refl _ _).alloc (Nat.le_refl _) _).trans (hb1.mono (by simp)) : Below w.heap.size w w1)
        have hlt0 : w.heap.size < w1.heap.size := lt_of_block Q.out
        clear hb1 q6 q0 q7
        go_loopw [4] (fun i wr => ∃ k : Nat, k ≤ np ∧ i = .int .i64 k ∧ Below w1.heap.size w1 wr ∧ badP ((progsV x.P).drop k) = badP (progsV x.P)) (fun i _ => np - (intOf i).toNat)
        case atStart => exact ⟨0, Nat.zero_le _, rfl, Below.refl _ _, rfl⟩
        case round =>
          obtain ⟨k, hk, rfl, hB, hbad⟩ := hrel
          have HB := Lib.hid hB
          have HBAD := Lib.hid hbad
          have HBR := Lib.hid (HB1.out.trans (hB.mono HB1.out.size))
          have q7' := cell_of_row _ _ 7 _ _ _ ((HB.out.block _ hlt0).trans Q.out)
          clear hB hbad
          by_cases hlt : k < np
          · obtain ⟨y, hy⟩ : ∃ y, x.P[k]? = some y := ⟨_, List.getElem?_eq_getElem (by rw [← HN.out]; exact hlt)⟩
            obtain ⟨b, o, hpo, hc, hsp⟩ := H.out.part hy
            have c0' := (HBR.out.cell (p := ⟨b, _, none⟩) (block_lt_of_cell hc)).trans hc
            have hck := fun W (hb : Below w.heap.size w W) => refCheck_any y.1 y.2.2.length y.2.1 y.2.2 W rfl (hsp.below hb) (H.out.ok y (List.mem_of_getElem? hy))
            have hbs := badP_at (progsV_at hy)
            rw [HBAD.out] at hbs
            rw [hpo] at q7' ⊢
            obtain ⟨y1, y2, y3⟩ := y
            simp only at hck hbs c0'
            generalize y3.length = yn at hck c0'
            have HCK := Lib.hid hck
            have hi0 : (0 : Int) ≤ (k : Int) := by omega
            have hi1 : (k : Int) < (np : Int) := by omega
            by_cases hz : (checkL y3).1 = 0
            · rw [if_pos hz] at hbs
              have HBS := Lib.hid hbs
              have HZ := Lib.hid hz
              clear hy hc hsp hck hbs hz hpo
              go_wp2_with (go_at_call 18; go_must (refine (HCK.out _ HBR.out).mono ?_; rintro e w2 ⟨rfl, rfl⟩; rw [HZ.out]))
              go_roundw
              case rel => exact ⟨k + 1, by omega, by go_num, HB.out, HBS.out.symm⟩
              case measure => simp [intOf]; omega
            · rw [if_neg hz] at hbs
              have hz1 : ((checkL y3).1 != 0) = true := by simpa using hz
              have HKK := Lib.hid (show (checkL y3).1 = K by rw [← HK.out, if_pos (by rw [hbs]; exact hz), hbs])
              generalize (checkL y3).1 = z1 at hz1 HKK HCK
              clear hy hc hsp hck hbs hz hpo
              go_wp2_with (go_at_call 18; go_must (refine (HCK.out _ HBR.out).mono ?_; rintro e w2 ⟨rfl, rfl⟩))
              go_ret
              exact ⟨by rw [← HKK.out]; rfl, HBR.out⟩
          · obtain rfl : k = np := by omega
            have hbz : badP (progsV x.P) = 0 := by rw [← HBAD.out, List.drop_eq_nil_of_le (by rw [HPL.out, ← HN.out]; exact Nat.le_refl _)]; rfl
            have hk2 := HK.out
            rw [hbz, if_neg (by simp)] at hk2
            have hq := (HB.out.block _ hlt0).trans Q.out
            have r8 := cell_of_row _ _ 8 _ _ _ hq
            have r9 := cell_of_row _ _ 9 _ _ _ hq
            clear hq hbz
            by_cases j1 : 65536 < nk
            · rw [if_pos (.inl j1)] at hk2
              have HKK := Lib.hid hk2
              have j1' : (65536 : Int) < (nk : Int) := by omega
              clear hk2 j1
              go_wp2
              go_ret
              exact ⟨by rw [← HKK.out]; rfl, HBR.out⟩
            · have j1' : ¬ (65536 : Int) < (nk : Int) := by omega
              by_cases j2 : d < 0
              · rw [if_pos (.inr (.inl j2))] at hk2
                have HKK := Lib.hid hk2
                clear hk2 j1
                go_wp2
                go_ret
                exact ⟨by rw [← HKK.out]; rfl, HBR.out⟩
              · by_cases j3 : 65536 < d
                · rw [if_pos (.inr (.inr j3))] at hk2
                  have HKK := Lib.hid hk2
                  clear hk2 j1
                  go_wp2
                  go_ret
                  exact ⟨by rw [← HKK.out]; rfl, HBR.out⟩
                · rw [if_neg (by omega)] at hk2
                  have HKK := Lib.hid hk2
                  clear hk2 j1
                  go_wp2
                  go_ret
                  exact ⟨by rw [← HKK.out]; rfl, HBR.out⟩
end Go.Proofs.YtoiokbdipcecnaaGreatDoor
namespace Go.Proofs.YtoiokbdipcecnaaGreatDoor
open Go.ChangeShapes Go.WideShapes Go.ChangeAt Go.RowKit Go.Deep
set_option maxRecDepth 100000

section
variable {H : Type} {enc : TypeId × Value → H} {W : World}
theorem cells64S : Tryz.prog.cellsOf 2 = 1 := by kernel_rfl
theorem cellsIntS : Tryz.prog.cellsOf 3 = 1 := by kernel_rfl
/-- a slice of int64, as a cell -/
theorem ints64_cells {v : Value} {fuel : Nat} {x : DataW H × List MemPlace} (hf : DataW.trod enc Tryz.prog W 0 (fun _ => true) true fuel 25 [v] = some x) :
    ∃ (ao : Option Addr) (c : Nat) (zs : List Int), v = .slice ao zs.length c ∧ Sees W ao zs ∧ zs.length ≤ maxLen ∧ InZ zs := by
  rcases open_ints Tryz.underlying25 Tryz.underlying2 cells64S hf with ⟨hcs, hx⟩ | ⟨a', len', cap', ys, hcs, _, hl, hm, hz, hx, hcell, hwz⟩
  · injection hcs with hcs
    exact ⟨none, 0, [], hcs, Sees.nil _ _, by decide, fun z hz => by cases hz⟩
  · injection hcs with hcs
    simp only [if_true] at hz
    have htl : (ys.take len').length = len' := by rw [List.length_take, Nat.min_eq_left (by omega)]
    refine ⟨some a', cap', ys.take len', by rw [htl]; exact hcs, ?_, by rw [htl]; omega, fun z hzm => ?_⟩
    · by_cases h0 : ys.length = 0
      · have : ys.take len' = [] := by rw [List.eq_nil_of_length_eq_zero h0]; simp
        rw [this]; exact Sees.nil _ _
      · obtain ⟨b, off, rfl, hc⟩ := Go.ints_at hcell (by omega)
        refine Sees.cells fun j hj => ?_
        have hj2 : j < len' := by rw [List.length_take] at hj; omega
        rw [hc j (by omega), List.getD_eq_getElem?_getD, List.getD_eq_getElem?_getD, List.getElem?_take, if_pos hj2]
    · have hw := hwz z (List.mem_of_mem_take hzm)
      simp [Lit.wf, IntKind.min, IntKind.max, IntKind.signed, IntKind.bits] at hw
      exact ⟨by omega, by omega⟩
/-- a slice of int, as a cell -/
theorem intsI_cells {v : Value} {fuel : Nat} {x : DataW H × List MemPlace} (hf : DataW.trod enc Tryz.prog W 0 (fun _ => true) true fuel 27 [v] = some x) :
    ∃ (ao : Option Addr) (c : Nat) (zs : List Int), v = .slice ao zs.length c ∧ Sees W ao zs ∧ zs.length ≤ maxLen ∧ InZ zs := by
  rcases open_ints Tryz.underlying27 Tryz.underlying3 cellsIntS hf with ⟨hcs, hx⟩ | ⟨a', len', cap', ys, hcs, _, hl, hm, hz, hx, hcell, hwz⟩
  · injection hcs with hcs
    exact ⟨none, 0, [], hcs, Sees.nil _ _, by decide, fun z hz => by cases hz⟩
  · injection hcs with hcs
    simp only [if_true] at hz
    have htl : (ys.take len').length = len' := by rw [List.length_take, Nat.min_eq_left (by omega)]
    refine ⟨some a', cap', ys.take len', by rw [htl]; exact hcs, ?_, by rw [htl]; omega, fun z hzm => ?_⟩
    · by_cases h0 : ys.length = 0
      · have : ys.take len' = [] := by rw [List.eq_nil_of_length_eq_zero h0]; simp
        rw [this]; exact Sees.nil _ _
      · obtain ⟨b, off, rfl, hc⟩ := Go.ints_at hcell (by omega)
        refine Sees.cells fun j hj => ?_
        have hj2 : j < len' := by rw [List.length_take] at hj; omega
        rw [hc j (by omega), List.getD_eq_getElem?_getD, List.getD_eq_getElem?_getD, List.getElem?_take, if_pos hj2]
    · have hw := hwz z (List.mem_of_mem_take hzm)
      simp [Lit.wf, IntKind.min, IntKind.max, IntKind.signed, IntKind.bits] at hw
      exact ⟨by omega, by omega⟩
/-- a slice of programs, as a cell -/
theorem rows_cells {v : Value} {fuel : Nat} {x : DataW H × List MemPlace} (hf : DataW.trod enc Tryz.prog W 0 (fun _ => true) true fuel 26 [v] = some x) :
    ∃ (ro : Option Addr) (c : Nat) (P : List PartV), v = .slice ro P.length c ∧ SeesR W ro P ∧ P.length ≤ maxLen ∧ ∀ y ∈ P, y.2.2.length ≤ maxLen ∧ InI y.2.2 := by
  rcases open_slice Tryz.underlying26 hf with ⟨h1, h2⟩ | ⟨a', len, cap, m, n, D, Pl, hcs, _, hl, hm, hmm, hx, hi⟩
  · injection h1 with h1
    exact ⟨none, 0, [], h1, SeesR.nil _ _, by decide, fun y hy => by cases hy⟩
  · injection hcs with hcs
    simp only [if_true] at hmm
    subst hmm
    have c1 : Tryz.prog.cellsOf 45 = 1 := by kernel_rfl
    have hq : ∀ i, ∃ q : PartV, i < len → W.cell? (a'.add i) = some (.slice q.1 q.2.2.length q.2.1) ∧ SeesP W q.1 q.2.2 ∧ q.2.2.length ≤ maxLen ∧ InI q.2.2 := by
      intro i
      by_cases hil : i < len
      · obtain ⟨cs', hc, ht⟩ := hi i (by omega)
        rw [c1, Nat.mul_one] at hc
        obtain ⟨_, hcl, hat⟩ := World.cells?_some hc
        have hc0 := hat 0 (by decide)
        rcases instrs_cells ht with ⟨e1, e2⟩ | ⟨ad, c, l, es, sp, e1, hs, hlc, hcm, e5, e6, e7⟩
        · subst e1
          refine ⟨(none, 0, []), fun _ => ⟨?_, SeesP.nil _ _, by decide, fun z hz => by cases hz⟩⟩
          simpa [Go.Deep.add_add] using hc0
        · subst e1
          refine ⟨(some ad, c, l), fun _ => ⟨?_, hs, by show l.length ≤ maxLen; omega, e5⟩⟩
          simpa [Go.Deep.add_add] using hc0
      · exact ⟨(none, 0, []), fun h => absurd h hil⟩
    obtain ⟨f, hf'⟩ : ∃ f : Nat → PartV, ∀ i, i < len → W.cell? (a'.add i) = some (.slice (f i).1 (f i).2.2.length (f i).2.1) ∧ SeesP W (f i).1 (f i).2.2 ∧ (f i).2.2.length ≤ maxLen ∧ InI (f i).2.2 :=
      ⟨fun i => Classical.choose (hq i), fun i => Classical.choose_spec (hq i)⟩
    have hpl : ((List.range len).map f).length = len := by simp
    refine ⟨some a', m, (List.range len).map f, by rw [hpl]; exact hcs, ?_, by rw [hpl]; omega, ?_⟩
    · by_cases h0 : len = 0
      · subst h0; exact SeesR.nil _ _
      · obtain ⟨b, o, spot⟩ := a'
        have hc0 := (hf' 0 (by omega)).1
        have hspot : spot = none := by simpa [Addr.add] using World.cell?_spot hc0
        subst hspot
        refine ⟨b, o, fun _ => rfl, fun j q hj => ?_⟩
        rw [List.getElem?_map] at hj
        obtain ⟨i, hi', rfl⟩ := Option.map_eq_some_iff.1 hj
        have hjl : j < len := by have := (List.getElem?_eq_some_iff.1 hi').1; simpa using this
        have : i = j := by
          rw [List.getElem?_range hjl] at hi'
          injection hi' with hi'; exact hi'.symm
        subst this
        have := hf' i hjl
        rw [Addr.add_lit] at this
        exact ⟨this.1, this.2.1⟩
    · intro y hy
      obtain ⟨i, hi', rfl⟩ := List.mem_map.1 hy
      exact (hf' i (List.mem_range.1 hi')).2.2
/-- a script that came in -/
theorem script_open {b0 : Nat} {v : Value} {d : DataW H} {p : List MemPlace} (hv : Value.okWide Tryz.prog W .any b0 29 v) (h : DataW.Trod enc Tryz.prog W 0 (fun _ => true) true 29 v d p) :
    ∃ x : SV, v = x.v ∧ x.Sees W ∧ x.In := by
  obtain ⟨cs, rfl, hsz⟩ := okWide_struct Tryz.underlying29 hv
  obtain ⟨l⟩ := cs
  have h10 : l.length = 10 := hsz.trans (by kernel_rfl)
  obtain ⟨n, hf⟩ := h
  obtain ⟨xs, m, _, _, _, hlen, hg⟩ := DataW.trod_struct Tryz.underlying29 hf
  have hx5 : xs.length = 5 := hlen
  have k6 : Tryz.prog.cellsOf 24 = 6 := by kernel_rfl
  have ks : Tryz.prog.cellsOf 25 = 1 := by kernel_rfl
  have kp : Tryz.prog.cellsOf 26 = 1 := by kernel_rfl
  have kk : Tryz.prog.cellsOf 27 = 1 := by kernel_rfl
  match l, h10, xs, hx5 with
  | [v0, v1, v2, v3, v4, v5, v6, v7, v8, v9], _, [x0, x1, x2, x3, x4], _ =>
    have e0 : DataW.trod enc Tryz.prog W 0 (fun _ => true) true m 24 [v0, v1, v2, v3, v4, v5] = some x0 := by simpa [k6, Value.cells] using hg 0 _ rfl
    have e1 : DataW.trod enc Tryz.prog W 0 (fun _ => true) true m 25 [v6] = some x1 := by simpa [ks, Value.cells] using hg 1 _ rfl
    have e2 : DataW.trod enc Tryz.prog W 0 (fun _ => true) true m 26 [v7] = some x2 := by simpa [kp, Value.cells] using hg 2 _ rfl
    have e3 : DataW.trod enc Tryz.prog W 0 (fun _ => true) true m 27 [v8] = some x3 := by simpa [kk, Value.cells] using hg 3 _ rfl
    have e4 : DataW.trod enc Tryz.prog W 0 (fun _ => true) true m 3 [v9] = some x4 := by simpa [cellsIntS, Value.cells] using hg 4 _ rfl
    obtain ⟨ys, m2, _, _, _, hlen2, hg2⟩ := DataW.trod_struct Tryz.underlying24 e0
    have hy6 : ys.length = 6 := hlen2
    match ys, hy6 with
    | [y0, y1, y2, y3, y4, y5], _ =>
      have c0 : DataW.trod enc Tryz.prog W 0 (fun _ => true) true m2 3 [v0] = some y0 := by simpa [cellsIntS, Value.cells] using hg2 0 _ rfl
      have c1 : DataW.trod enc Tryz.prog W 0 (fun _ => true) true m2 3 [v1] = some y1 := by simpa [cellsIntS, Value.cells] using hg2 1 _ rfl
      have c2 : DataW.trod enc Tryz.prog W 0 (fun _ => true) true m2 3 [v2] = some y2 := by simpa [cellsIntS, Value.cells] using hg2 2 _ rfl
      have c3 : DataW.trod enc Tryz.prog W 0 (fun _ => true) true m2 3 [v3] = some y3 := by simpa [cellsIntS, Value.cells] using hg2 3 _ rfl
      have c4 : DataW.trod enc Tryz.prog W 0 (fun _ => true) true m2 3 [v4] = some y4 := by simpa [cellsIntS, Value.cells] using hg2 4 _ rfl
      have c5 : DataW.trod enc Tryz.prog W 0 (fun _ => true) true m2 3 [v5] = some y5 := by simpa [cellsIntS, Value.cells] using hg2 5 _ rfl
      obtain ⟨n0, h0, _⟩ := DataW.trod_int Tryz.underlying3 c0
      obtain ⟨n1, h1, _⟩ := DataW.trod_int Tryz.underlying3 c1
      obtain ⟨n2, h2, _⟩ := DataW.trod_int Tryz.underlying3 c2
      obtain ⟨n3, h3, _⟩ := DataW.trod_int Tryz.underlying3 c3
      obtain ⟨n4, h4, _⟩ := DataW.trod_int Tryz.underlying3 c4
      obtain ⟨n5, h5, _⟩ := DataW.trod_int Tryz.underlying3 c5
      obtain ⟨n9, h9, _⟩ := DataW.trod_int Tryz.underlying3 e4
      injection h0 with h0; injection h1 with h1; injection h2 with h2; injection h3 with h3; injection h4 with h4; injection h5 with h5; injection h9 with h9
      subst h0 h1 h2 h3 h4 h5 h9
      obtain ⟨so, sc, s, rfl, hs1, hs2, hs3⟩ := ints64_cells e1
      obtain ⟨po, pc, P, rfl, hp1, hp2, hp3⟩ := rows_cells e2
      obtain ⟨ko, kc, k, rfl, hk1, hk2, hk3⟩ := intsI_cells e3
      exact ⟨⟨[n0, n1, n2, n3, n4, n5], so, sc, s, po, pc, P, ko, kc, k, n9⟩, rfl, ⟨hs1, hp1, hk1, fun y hy => (hp3 y hy).1, hs2, hp2, hk2⟩, ⟨hs3, hk3, fun y hy => (hp3 y hy).2⟩⟩
end
end Go.Proofs.YtoiokbdipcecnaaGreatDoor
