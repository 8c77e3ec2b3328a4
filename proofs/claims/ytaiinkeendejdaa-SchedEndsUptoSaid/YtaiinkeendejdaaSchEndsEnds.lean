/-
  quash/quashlaw04.SchedEnds from every start: it answers true. No condition.
-/
import Derived.Test.YtaiinkeendejdaaSchUpto
import Derived.Test.YtaiinkeendejdaaSchEnds
namespace Go.Proofs.Ytaiinkeendejdaa
open Go.RowKit Go.Conc Go.ConcR.Gen Go.ConcN.Gen
open Go.ConcN (sumTo upd sumTo_upd upd_ne upd_same WgLive)
set_option maxRecDepth 100000
theorem inits_ends : Try.prog.inits.idxOf? 6 = none := by kernel_rfl
theorem cutL_300 (L : List PV) : ∀ x ∈ cutL L, x.2.2.length ≤ 300 := fun x hx => by
  obtain ⟨y, _, rfl⟩ := List.mem_map.1 hx
  show (y.2.2.take 300).length ≤ 300
  rw [List.length_take]; omega
theorem sum_cut (L : List PV) : sumTo (cutL L).length (planLen (cutL L)) ≤ 3000 := by
  have h : sumTo (cutL L).length (planLen (cutL L)) ≤ 301 * (cutL L).length := Go.ConcN.sumTo_le fun i hi => by
    obtain ⟨x, hx⟩ : ∃ x, (cutL L)[i]? = some x := ⟨_, List.getElem?_eq_getElem hi⟩
    rw [planLen_at hx]
    have := cutL_300 L x (List.mem_of_getElem? hx)
    omega
  have := cutL_le L
  omega
theorem Sees.at_ {w : World} {ao : Option Addr} {l : List Int} (h : Sees w ao l) {i : Nat} {x : Int} (hx : l[i]? = some x) : ∃ p o, ao = some ⟨p, o, none⟩ ∧ w.cell? ⟨p, o + i, none⟩ = some (.int .i64 x) := by
  obtain ⟨b, o, h1, h2⟩ := h
  have h3 := h2 i (List.getElem?_eq_some_iff.1 hx).1
  rw [List.getD_eq_getElem?_getD, hx, Option.getD_some] at h3
  exact ⟨b, o, h1 (by intro e; rw [e] at hx; simp at hx), h3⟩
section
variable {Post : Value → World → Prop}
set_option maxHeartbeats 2000000 in
theorem ends_ends {W : World} {ao pa : Option Addr} {n cc np pc : Nat} {L : List PV} {picks : List Int} (hL : L.length = n) (hsees : SeesV W ao L) (hpv : PVs (fun x => x < W.heap.size) W L) (hnp : picks.length = np) (hpk : Sees W pa picks) (hnpm : np ≤ 2000000) (h64 : ∀ x ∈ picks, -9223372036854775808 ≤ x ∧ x ≤ 9223372036854775807)
    (fin : ∀ w, Kept W w → Post (.bool true) w) : Ends Try.prog Post (solo (G (Frame.enter Try.prog 6 #[.slice ao n cc, .slice pa np pc] .normal) []) W) #[] := by
  refine ends_of_at (ty := 64) (Z := oddZ W) (fun _ => oddZ_low) even_odd ?_
  have hrest := @ends_rest
  have lrest := ends_lone
  have hloop := @ends_loop
  have lloop := endsL_lone
  simp only [restEnds, bodyEnds, Try.f6, Option.getD_some] at hrest
  simp only [restEnds, bodyEnds, Try.f6, Option.getD_some] at lrest
  rw [enter_at _ Try.func6 rfl]
  walk_nrmf Try.f6
  have K0 := Ends0.start W
  have hear0 : (Bd.start (oddZ W) W).ear = true := rfl
  have hwt0 : (Bd.start (oddZ W) W).wait = none := rfl
  have hcell0 : ∀ a x, W.cell? a = some x → (startV W).cell? a = some x := fun a x h => by
    obtain ⟨cc, t, f, hc⟩ := cells_of_cell h
    exact (World.cell?_of_block (a := a) ((startV_cells hc).trans hc.symm)).trans h
  have hsz0 : (startV W).heap.size = W.heap.size := startV_size
  generalize hb0 : Bd.start (oddZ W) W = b0 at K0 hear0 hwt0
  obtain ⟨v0, hv0⟩ : ∃ v0, v0 = startV W := ⟨_, rfl⟩
  rw [← hv0] at K0 hcell0 hsz0
  have hF : Off b0.shun W W := Off.refl _ _
  refine At.goes0 (n := 10) ?_
  u_c stepG_seq ro_off2 hF
  u_reg ro_off2 hF
  u_op ro_off2 hF
  u_c stepG_region_end ro_off2 hF
  u_c stepG_seq ro_off2 hF
  u_reg ro_off2 hF
  refine Goes.stop (fun wA q => ?_)
  replace hF := ro_off2 hF q
  clear q
  refine At.list rfl (fun wB q => ⟨_, #[], stepG_call rfl rfl (by decide) rfl Try.func9 nm_awake rfl, by simp, ?_⟩)
  replace hF := ro_off2 hF q
  clear q
  walk_nrm
  refine awake_whole (v := v0) hear0 hwt0 (hF.sim K0.sim) K0.even K0.tidy (fun b1 v1 w1 S1 => ?_)
  have K1 := K0.still S1
  have hz1 := S1.size
  rw [Frame.finish_at]
  walk_nrm
  have hF : Off b1.shun w1 w1 := Off.refl _ _
  have hcell1 : ∀ a x, W.cell? a = some x → v1.cell? a = some x := fun a x h => (World.cell?_of_block (a := a) (S1.same a.block (block_lt_of_cell (hcell0 a x h)))).trans (hcell0 a x h)
  refine At.goes0 (n := 20) ?_
  u_op ro_off2 hF
  u_c stepG_region_end ro_off2 hF
  u_c stepG_seq ro_off2 hF
  u_reg ro_off2 hF
  u_op ro_off2 hF
  refine Goes.stop (fun wC q => ?_)
  replace hF := ro_off2 hF q
  clear q
  refine At.list rfl (fun wD q => ⟨_, #[], stepG_call rfl rfl (by decide) rfl Try.func10 nm_some rfl, by simp, ?_⟩)
  replace hF := ro_off2 hF q
  clear q
  walk_nrm
  refine At.someC K1.even (hF.sim K1.sim) hL (hsees.cells hcell1) (hpv.cells hcell1) (fun ro rc v2 w2 hs2 hp2 hr2 hz2 hsame2 he2 hsim2 => ?_)
  have K2 := K1.piece hz2 hsame2 hsim2 he2
  obtain ⟨m, hm⟩ : ∃ m, m = (cutL L).length := ⟨_, rfl⟩
  have hm9 : m ≤ 9 := by rw [hm]; exact cutL_le L
  rw [← hm]
  have HM := Lib.hid hm
  clear hm
  rw [Frame.finish_at]
  walk_nrm
  have hF : Off b1.shun w2 w2 := Off.refl _ _
  have hcell2 : ∀ a x, W.cell? a = some x → v2.cell? a = some x := fun a x h => (World.cell?_of_block (a := a) (hsame2 a.block (block_lt_of_cell (hcell1 a x h)))).trans (hcell1 a x h)
  by_cases h1 : m < 1
  · obtain rfl : m = 0 := by omega
    refine At.goes0 (n := 60) ?_
    u_op ro_off2 hF
    u_c stepG_region_end ro_off2 hF
    u_c stepG_seq ro_off2 hF
    u_c stepG_seq ro_off2 hF
    u_reg ro_off2 hF
    u_op ro_off2 hF
    u_op ro_off2 hF
    u_op ro_off2 hF
    u_op ro_off2 hF
    u_skip ro_off2 hF
    u_skip ro_off2 hF
    u_skip ro_off2 hF
    u_op ro_off2 hF
    u_op ro_off2 hF
    u_skip ro_off2 hF
    u_skip ro_off2 hF
    u_skip ro_off2 hF
    u_op ro_off2 hF
    u_c stepG_region_end ro_off2 hF
    u_cond true ro_off2 hF
    u_c stepG_seq ro_off2 hF
    u_reg ro_off2 hF
    u_op ro_off2 hF
    u_op ro_off2 hF
    u_c stepG_region_end ro_off2 hF
    u_c stepG_ret' ro_off2 hF
    refine Goes.stop (fun wD q => ?_)
    replace hF := ro_off2 hF q
    refine At.finish (r := 4) (K2.grew.ear) (fun i => ?_) inits_ends rfl rfl Try.func6 rfl fun w₁ o k => ?_
    · rw [K2.grew.role]; rfl
    · exact fin w₁ (K2.kept (hF.trans o) k)
  · by_cases h8 : 8 < m
    · obtain rfl : m = 9 := by omega
      refine At.goes0 (n := 60) ?_
      u_op ro_off2 hF
      u_c stepG_region_end ro_off2 hF
      u_c stepG_seq ro_off2 hF
      u_c stepG_seq ro_off2 hF
      u_reg ro_off2 hF
      u_op ro_off2 hF
      u_op ro_off2 hF
      u_op ro_off2 hF
      u_op ro_off2 hF
      u_op ro_off2 hF
      u_op ro_off2 hF
      u_op ro_off2 hF
      u_op ro_off2 hF
      u_op ro_off2 hF
      u_skip ro_off2 hF
      u_skip ro_off2 hF
      u_skip ro_off2 hF
      u_op ro_off2 hF
      u_c stepG_region_end ro_off2 hF
      u_cond true ro_off2 hF
      u_c stepG_seq ro_off2 hF
      u_reg ro_off2 hF
      u_op ro_off2 hF
      u_op ro_off2 hF
      u_c stepG_region_end ro_off2 hF
      u_c stepG_ret' ro_off2 hF
      refine Goes.stop (fun wD q => ?_)
      replace hF := ro_off2 hF q
      refine At.finish (r := 4) (K2.grew.ear) (fun i => ?_) inits_ends rfl rfl Try.func6 rfl fun w₁ o k => ?_
      · rw [K2.grew.role]; rfl
      · exact fin w₁ (K2.kept (hF.trans o) k)
    · have ht1 : decide ((m : Int) < 1) = false := by rw [decide_eq_false_iff_not]; omega
      have ht2 : decide (m < 1) = false := by rw [decide_eq_false_iff_not]; omega
      have ht3 : decide ((8 : Int) < (m : Int)) = false := by rw [decide_eq_false_iff_not]; omega
      have ht4 : decide (8 < m) = false := by rw [decide_eq_false_iff_not]; omega
      have ht5 : decide (m = 0) = false := by rw [decide_eq_false_iff_not]; omega
      by_cases h6 : 65536 < np
      · have hq1 : decide ((65536 : Int) < (np : Int)) = true := by rw [decide_eq_true_eq]; omega
        have hq2 : decide (65536 < np) = true := by rw [decide_eq_true_eq]; omega
        refine At.goes0 (n := 60) ?_
        u_op ro_off2 hF
        u_c stepG_region_end ro_off2 hF
        u_c stepG_seq ro_off2 hF
        u_c stepG_seq ro_off2 hF
        u_reg ro_off2 hF
        u_op ro_off2 hF
        u_op ro_off2 hF
        u_op ro_off2 hF
        u_op ro_off2 hF
        u_op ro_off2 hF
        u_op ro_off2 hF
        u_op ro_off2 hF
        u_op ro_off2 hF
        u_op ro_off2 hF
        u_op ro_off2 hF
        u_op ro_off2 hF
        u_op ro_off2 hF
        u_op ro_off2 hF
        u_c stepG_region_end ro_off2 hF
        u_cond true ro_off2 hF
        u_c stepG_seq ro_off2 hF
        u_reg ro_off2 hF
        u_op ro_off2 hF
        u_op ro_off2 hF
        u_c stepG_region_end ro_off2 hF
        u_c stepG_ret' ro_off2 hF
        refine Goes.stop (fun wD q => ?_)
        replace hF := ro_off2 hF q
        refine At.finish (r := 4) (K2.grew.ear) (fun i => ?_) inits_ends rfl rfl Try.func6 rfl fun w₁ o k => ?_
        · rw [K2.grew.role]; rfl
        · exact fin w₁ (K2.kept (hF.trans o) k)
      · have hq1 : decide ((65536 : Int) < (np : Int)) = false := by rw [decide_eq_false_iff_not]; omega
        have hq2 : decide (65536 < np) = false := by rw [decide_eq_false_iff_not]; omega
        refine At.goes0 (n := 60) ?_
        u_op ro_off2 hF
        u_c stepG_region_end ro_off2 hF
        u_c stepG_seq ro_off2 hF
        u_c stepG_seq ro_off2 hF
        u_reg ro_off2 hF
        u_op ro_off2 hF
        u_op ro_off2 hF
        u_op ro_off2 hF
        u_op ro_off2 hF
        u_op ro_off2 hF
        u_op ro_off2 hF
        u_op ro_off2 hF
        u_op ro_off2 hF
        u_op ro_off2 hF
        u_op ro_off2 hF
        u_op ro_off2 hF
        u_op ro_off2 hF
        u_op ro_off2 hF
        u_c stepG_region_end ro_off2 hF
        u_cond false ro_off2 hF
        u_c stepG_skip ro_off2 hF
        u_c stepG_seq ro_off2 hF
        u_reg ro_off2 hF
        u_op ro_off2 hF
        u_c stepG_region_end ro_off2 hF
        u_c stepG_seq ro_off2 hF
        refine Goes.stop (fun wE q => ?_)
        replace hF := ro_off2 hF q
        clear q
        refine At.piece (c := loopEnds) (M := bare) (R := fun a' w' => (∃ y8 y34 y35 y36 y37 y38 y39 y40 y41 y42 y43 y44 y45 y46 y47, a'.tmps = #[.slice ao n cc, .slice pa np pc, undef, undef, .bool false, .bool true, .slice ro m rc, .int .i64 (sumTo m (planLen (cutL L)) : Nat), y8, undef, undef, undef, undef, undef, undef, undef, undef, .bool true, .slice ao n cc, .slice ro m rc, .slice ro m rc, .int .i64 (m : Nat), .bool false, .bool false, .slice ro m rc, .int .i64 (m : Nat), .bool false, .bool false, .bool false, .slice pa np pc, .int .i64 (np : Nat), .bool false, .bool false, undef, y34, y35, y36, y37, y38, y39, y40, y41, y42, y43, y44, y45, y46, y47, undef, undef, undef, undef, undef, undef, undef, undef, undef, undef, undef, undef, undef, undef, undef, undef, undef, undef, undef, undef, undef, undef, undef, undef, undef, undef, undef, undef, undef, undef, undef, undef, undef, undef, undef, undef, undef, undef, undef, undef, undef, undef, undef, undef, undef, undef, undef, undef, undef, undef, undef, undef, undef, undef, undef, undef, undef, undef, undef, undef, undef, undef, undef, undef, undef, undef, undef, undef, undef, undef, undef, undef, undef, undef, undef, undef, undef, undef, undef, undef, undef, undef, undef, undef, undef, undef, undef, undef, undef, undef, undef, undef, undef, undef, undef, undef, undef, undef, undef, undef, undef, undef, undef, undef, undef, undef, undef, undef, undef, undef, undef, undef, undef, undef, undef, undef, undef, undef, undef, undef, undef, undef, undef, undef, undef, undef, undef, undef, undef, undef, undef, undef, undef, undef, undef, undef, undef, undef, undef, undef, undef, undef, undef]) ∧ w'.heap = v2.heap) lones_fun ⟨_, Try.func6⟩ lloop (slots_of fun x hx => .any _) K2.even (hF.sim K2.sim) (fun T => ?_) (fun t3 v3 T d w3 _ he3 hR hs3 => ?_)
        · refine Code.wp_mono ?_ (hloop (w := onT v2 T 0) (L := cutL L) HM.out.symm (by omega) hs2 (cutL_300 L))
          rintro e a' w'' ⟨k1, _, k3, k4⟩
          exact ⟨k1, k3, k4⟩
        obtain ⟨⟨y8, y34, y35, y36, y37, y38, y39, y40, y41, y42, y43, y44, y45, y46, y47, ht3⟩, hv3⟩ := hR
        have hv3 : v3.heap = v2.heap := hv3
        obtain rfl := ht3
        have K3 := K2.piece (v' := v3) (w' := w3) (by rw [hv3]; exact Nat.le_refl _) (fun x _ => by rw [hv3]) hs3 he3
        have hcE : ∀ a, v3.cell? a = v2.cell? a := fun a => by unfold World.cell?; rw [hv3]
        obtain ⟨A, hA⟩ : ∃ A, A = sumTo m (planLen (cutL L)) := ⟨_, rfl⟩
        have hA6 : A ≤ 65536 := by
          have := sum_cut L
          rw [← HM.out] at this
          omega
        rw [← hA]
        have HA := Lib.hid hA
        clear hA
        have hF : Off b1.shun w3 w3 := Off.refl _ _
        refine At.goes0 (n := 40) ?_
        u_c stepG_seq ro_off2 hF
        u_reg ro_off2 hF
        u_op ro_off2 hF
        u_op ro_off2 hF
        u_op ro_off2 hF
        refine Goes.stop (fun wE q => ?_)
        replace hF := ro_off2 hF q
        clear q
        refine At.list rfl (fun wD q => ⟨_, #[], stepG_call rfl rfl (by decide) rfl Try.func12 nm_play rfl, by simp, ?_⟩)
        replace hF := ro_off2 hF q
        clear q
        walk_nrm
        have hplen : ((cutL L).map (·.2.2)).length = m := by rw [List.length_map, HM.out]
        obtain ⟨q1, q2, q3, q4, q5⟩ := ends_play ((cutL L).map (·.2.2)) picks (by omega) (by omega) (by omega) A (by rw [HA.out, hplen]; rfl) hA6
        rw [hplen] at q5
        rw [hnp] at q3 q4
        have hs3' : SeesV v3 ro (cutL L) := hs2.cells fun a x h => (hcE a).trans h
        have hp3 : PVs (fun x => x < v3.heap.size) v3 (cutL L) := hp2.cells fun a x h => (hcE a).trans h
        have hpk3 : Sees v3 pa picks := hpk.cellsOf fun a x h => (hcE a).trans (hcell2 a x h)
        refine play_whole (v := v3) (ps := (cutL L).map (·.2.2)) (l := picks) (by rw [K3.grew.ear]; rfl) (by rw [K3.grew.wait]; rfl) (hF.sim K3.sim) K3.even K3.tidy (plans_of hs3' (fun p o e => by rw [hv3]; exact hr2 p o e) hp3) hplen (by omega) (.any _) (.any _) (fun i x hx => hpk3.at_ hx) hnp (by unfold maxLen; omega) h64 (fun b4 v4 w4 mv D4 => ?_)
        rw [q1]
        generalize (playR ((cutL L).map (·.2.2)) picks (A : Int)).1 = ms at q2 q3 q4 q5 D4
        obtain ⟨mo, mc, rfl, hms, _⟩ := D4.row.slice
        have K4 := K3.done D4
        have hcell4 : ∀ a x, v3.cell? a = some x → v4.cell? a = some x := fun a x h => (World.cell?_of_block (a := a) (D4.same a.block (block_lt_of_cell h))).trans h
        rw [Frame.finish_at]
        walk_nrm
        have hF : Off b4.shun w4 w4 := Off.refl _ _
        refine At.goes0 (n := 40) ?_
        u_op ro_off2 hF
        u_op ro_off2 hF
        u_op ro_off2 hF
        u_op ro_off2 hF
        u_op ro_off2 hF
        u_c stepG_region_end ro_off2 hF
        refine Goes.stop (fun wF q => ?_)
        replace hF := ro_off2 hF q
        clear q
        refine At.rest (M := bare) (R := fun a' w' => a'.tmps.getD 4 undef = .bool true ∧ v4.heap.size ≤ w'.heap.size ∧ ∀ x, x < v4.heap.size → w'.heap[x]? = v4.heap[x]?) lones_fun ⟨_, Try.func6⟩ lrest (slots_of fun x hx => .any _) K4.even (hF.sim K4.sim) (fun T => ?_) (fun t' v5 T d w5 todo _ he5 hR hs5 => ?_)
        · refine Code.wp_mono ?_ (hrest (w := onT v4 T 0) (m := m) (A := A) (L := cutL L) (picks := picks) (ms := ms) HM.out.symm (by omega) (by omega) (hs3'.cells hcell4) (hp3.cells hcell4) (hpk3.cellsOf hcell4) hnp (by omega) hA6 h64 hms rfl q2 q3 q4 q5)
          rintro e a' w'' ⟨k1, k2, k3⟩
          exact ⟨k1, k2, k3.size, k3.block⟩
        obtain ⟨k2, k3, k4⟩ := hR
        have k2 : t'.getD 4 undef = .bool true := k2
        have K5 := K4.piece (v' := v5) (w' := w5) k3 k4 hs5 he5
        refine At.finish (r := 4) (K5.grew.ear) (fun i => ?_) inits_ends rfl rfl Try.func6 rfl fun w₁ o k => ?_
        · rw [K5.grew.role]; rfl
        · show Post (t'.getD 4 undef) w₁
          rw [k2]
          exact fin w₁ (K5.kept o k)
end
end Go.Proofs.Ytaiinkeendejdaa
