/-
  quash/quashlaw04.SchedFair from every start: it answers true. No condition.
-/
import Derived.Test.YtaiinkeendejdaaSchUpto
import Derived.Test.YtaiinkeendejdaaSchFair
namespace Go.Proofs.Ytaiinkeendejdaa
open Go.RowKit Go.Conc Go.ConcR.Gen Go.ConcN.Gen
open Go.ConcN (sumTo upd sumTo_upd upd_ne upd_same WgLive)
set_option maxRecDepth 100000
theorem inits_fair : Try.prog.inits.idxOf? 8 = none := by kernel_rfl
theorem bits_small (D : Int) : ∃ K : Nat, K ≤ 1023 ∧ bits .and .i64 D 1023 = (K : Int) := by
  refine ⟨(BitVec.ofInt 64 D &&& BitVec.ofInt 64 1023).toNat, ?_, ?_⟩
  · rw [BitVec.toNat_and]
    exact Nat.and_le_right
  · have h : (BitVec.ofInt 64 D &&& BitVec.ofInt 64 1023).toNat ≤ 1023 := by
      rw [BitVec.toNat_and]
      exact Nat.and_le_right
    show IntKind.i64.wrap ((BitVec.ofInt 64 D &&& BitVec.ofInt 64 1023).toNat : Int) = _
    rw [IntKind.wrap_i64]
    omega
section
variable {Post : Value → World → Prop}
set_option maxHeartbeats 1000000 in
theorem fair_ends {W : World} {ao : Option Addr} {n cc : Nat} {L : List PV} {D : Int} (hL : L.length = n) (hsees : SeesV W ao L) (hpv : PVs (fun x => x < W.heap.size) W L)
    (fin : ∀ w, Kept W w → Post (.bool true) w) : Ends Try.prog Post (solo (G (Frame.enter Try.prog 8 #[.slice ao n cc, .int .i64 D] .normal) []) W) #[] := by
  refine ends_of_at (ty := 64) (Z := oddZ W) (fun _ => oddZ_low) even_odd ?_
  obtain ⟨K, hK, hbits⟩ := bits_small D
  have hrest := @fair_rest
  have lrest := fair_lone
  simp only [restFair, bodyFair, Try.f8, Option.getD_some] at hrest lrest
  rw [enter_at _ Try.func8 rfl]
  walk_nrmf Try.f8
  have K0 := Ends0.start W
  have hear0 : (Bd.start (oddZ W) W).ear = true := rfl
  have hwt0 : (Bd.start (oddZ W) W).wait = none := rfl
  have hcell0 : ∀ a x, W.cell? a = some x → (startV W).cell? a = some x := fun a x h => by
    obtain ⟨cc, t, f, hc⟩ := cells_of_cell h
    exact (World.cell?_of_block (a := a) ((startV_cells hc).trans hc.symm)).trans h
  have hsz0 : (startV W).heap.size = W.heap.size := startV_size
  generalize hb0 : Bd.start (oddZ W) W = b0 at K0 hear0 hwt0
  obtain ⟨v0, hv0⟩ : ∃ v0, v0 = startV W := ⟨_, rfl⟩
  rw [← hv0] at K0 hcell0 hsz0
  have hF : Off b0.shun W W := Off.refl _ _
  refine At.goes0 (n := 10) ?_
  u_c stepG_seq ro_off2 hF
  u_reg ro_off2 hF
  u_op ro_off2 hF
  u_c stepG_region_end ro_off2 hF
  u_c stepG_seq ro_off2 hF
  u_reg ro_off2 hF
  refine Goes.stop (fun wA q => ?_)
  replace hF := ro_off2 hF q
  clear q
  refine At.list rfl (fun wB q => ⟨_, #[], stepG_call rfl rfl (by decide) rfl Try.func9 nm_awake rfl, by simp, ?_⟩)
  replace hF := ro_off2 hF q
  clear q
  walk_nrm
  refine awake_whole (v := v0) hear0 hwt0 (hF.sim K0.sim) K0.even K0.tidy (fun b1 v1 w1 S1 => ?_)
  have K1 := K0.still S1
  have hz1 := S1.size
  rw [Frame.finish_at]
  walk_nrm
  have hF : Off b1.shun w1 w1 := Off.refl _ _
  have hcell1 : ∀ a x, W.cell? a = some x → v1.cell? a = some x := fun a x h => (World.cell?_of_block (a := a) (S1.same a.block (block_lt_of_cell (hcell0 a x h)))).trans (hcell0 a x h)
  refine At.goes0 (n := 20) ?_
  u_op ro_off2 hF
  u_c stepG_region_end ro_off2 hF
  u_c stepG_seq ro_off2 hF
  u_reg ro_off2 hF
  u_op ro_off2 hF
  refine Goes.stop (fun wC q => ?_)
  replace hF := ro_off2 hF q
  clear q
  refine At.list rfl (fun wD q => ⟨_, #[], stepG_call rfl rfl (by decide) rfl Try.func10 nm_some rfl, by simp, ?_⟩)
  replace hF := ro_off2 hF q
  clear q
  walk_nrm
  refine At.someC K1.even (hF.sim K1.sim) hL (hsees.cells hcell1) (hpv.cells hcell1) (fun ro rc v2 w2 hs2 hp2 hr2 hz2 hsame2 he2 hsim2 => ?_)
  have K2 := K1.piece hz2 hsame2 hsim2 he2
  obtain ⟨m, hm⟩ : ∃ m, m = (cutL L).length := ⟨_, rfl⟩
  have hm9 : m ≤ 9 := by rw [hm]; exact cutL_le L
  rw [← hm]
  have HM := Lib.hid hm
  clear hm
  rw [Frame.finish_at]
  walk_nrm
  have hF : Off b1.shun w2 w2 := Off.refl _ _
  have hcell2 : ∀ a x, W.cell? a = some x → v2.cell? a = some x := fun a x h => (World.cell?_of_block (a := a) (hsame2 a.block (block_lt_of_cell (hcell1 a x h)))).trans (hcell1 a x h)
  by_cases h1 : m < 1
  · obtain rfl : m = 0 := by omega
    refine At.goes0 (n := 40) ?_
    u_op ro_off2 hF
    u_c stepG_region_end ro_off2 hF
    u_c stepG_seq ro_off2 hF
    u_c stepG_seq ro_off2 hF
    u_reg ro_off2 hF
    u_op ro_off2 hF
    u_op ro_off2 hF
    u_op ro_off2 hF
    u_op ro_off2 hF
    u_skip ro_off2 hF
    u_skip ro_off2 hF
    u_skip ro_off2 hF
    u_op ro_off2 hF
    u_c stepG_region_end ro_off2 hF
    u_cond true ro_off2 hF
    u_c stepG_seq ro_off2 hF
    u_reg ro_off2 hF
    u_op ro_off2 hF
    u_op ro_off2 hF
    u_c stepG_region_end ro_off2 hF
    u_c stepG_ret' ro_off2 hF
    refine Goes.stop (fun wD q => ?_)
    replace hF := ro_off2 hF q
    refine At.finish (r := 4) (K2.grew.ear) (fun i => ?_) inits_fair rfl rfl Try.func8 rfl fun w₁ o k => ?_
    · rw [K2.grew.role]; rfl
    · exact fin w₁ (K2.kept (hF.trans o) k)
  · by_cases h8 : 8 < m
    · obtain rfl : m = 9 := by omega
      refine At.goes0 (n := 40) ?_
      u_op ro_off2 hF
      u_c stepG_region_end ro_off2 hF
      u_c stepG_seq ro_off2 hF
      u_c stepG_seq ro_off2 hF
      u_reg ro_off2 hF
      u_op ro_off2 hF
      u_op ro_off2 hF
      u_op ro_off2 hF
      u_op ro_off2 hF
      u_op ro_off2 hF
      u_op ro_off2 hF
      u_op ro_off2 hF
      u_op ro_off2 hF
      u_c stepG_region_end ro_off2 hF
      u_cond true ro_off2 hF
      u_c stepG_seq ro_off2 hF
      u_reg ro_off2 hF
      u_op ro_off2 hF
      u_op ro_off2 hF
      u_c stepG_region_end ro_off2 hF
      u_c stepG_ret' ro_off2 hF
      refine Goes.stop (fun wD q => ?_)
      replace hF := ro_off2 hF q
      refine At.finish (r := 4) (K2.grew.ear) (fun i => ?_) inits_fair rfl rfl Try.func8 rfl fun w₁ o k => ?_
      · rw [K2.grew.role]; rfl
      · exact fin w₁ (K2.kept (hF.trans o) k)
    · have ht1 : decide ((m : Int) < 1) = false := by rw [decide_eq_false_iff_not]; omega
      have ht2 : decide (m < 1) = false := by rw [decide_eq_false_iff_not]; omega
      have ht3 : decide ((8 : Int) < (m : Int)) = false := by rw [decide_eq_false_iff_not]; omega
      have ht4 : decide (8 < m) = false := by rw [decide_eq_false_iff_not]; omega
      have ht5 : decide (m = 0) = false := by rw [decide_eq_false_iff_not]; omega
      refine At.goes0 (n := 40) ?_
      u_op ro_off2 hF
      u_c stepG_region_end ro_off2 hF
      u_c stepG_seq ro_off2 hF
      u_c stepG_seq ro_off2 hF
      u_reg ro_off2 hF
      u_op ro_off2 hF
      u_op ro_off2 hF
      u_op ro_off2 hF
      u_op ro_off2 hF
      u_op ro_off2 hF
      u_op ro_off2 hF
      u_op ro_off2 hF
      u_op ro_off2 hF
      u_c stepG_region_end ro_off2 hF
      u_cond false ro_off2 hF
      u_c stepG_skip ro_off2 hF
      u_c stepG_seq ro_off2 hF
      u_reg ro_off2 hF
      u_op ro_off2 hF
      u_op ro_off2 hF
      u_op ro_off2 hF
      refine Goes.stop (fun wE q => ?_)
      replace hF := ro_off2 hF q
      clear q
      refine At.list rfl (fun wD q => ⟨_, #[], stepG_call rfl rfl (by decide) rfl Try.func12 nm_play rfl, by simp, ?_⟩)
      replace hF := ro_off2 hF q
      clear q
      walk_nrm
      have hplen : ((cutL L).map (·.2.2)).length = m := by rw [List.length_map, HM.out]
      have hwr : wrongS m 0 (K : Int) = 0 := by unfold wrongS; rw [if_neg (by omega), if_neg (by omega)]
      obtain ⟨q1, q2, q3, q4⟩ := fair_play ((cutL L).map (·.2.2)) (K : Int) (by rw [hplen]; exact hwr)
      rw [hplen] at q2 q4
      rw [Int.toNat_natCast] at q3 q4
      refine play_whole (v := v2) (ps := (cutL L).map (·.2.2)) (l := []) (by rw [K2.grew.ear]; rfl) (by rw [K2.grew.wait]; rfl) (hF.sim K2.sim) K2.even K2.tidy (plans_of hs2 hr2 hp2) hplen (by omega) (.any _) (.any _) (fun i x hx => by simp at hx) rfl (by unfold maxLen; omega) (fun x hx => by cases hx) (fun b3 v3 w3 mv D3 => ?_)
      rw [q1]
      generalize (playR ((cutL L).map (·.2.2)) [] (K : Int)).1 = ms at q2 q3 q4 D3
      obtain ⟨mo, mc, rfl, hms, _⟩ := D3.row.slice
      have K3 := K2.done D3
      rw [Frame.finish_at]
      walk_nrm
      have hF : Off b3.shun w3 w3 := Off.refl _ _
      refine At.goes0 (n := 40) ?_
      u_op ro_off2 hF
      u_op ro_off2 hF
      u_op ro_off2 hF
      u_op ro_off2 hF
      u_op ro_off2 hF
      u_c stepG_region_end ro_off2 hF
      refine Goes.stop (fun wF q => ?_)
      replace hF := ro_off2 hF q
      clear q
      refine At.rest (M := bare) (R := fun a' w' => a'.tmps.getD 4 undef = .bool true ∧ v3.heap.size ≤ w'.heap.size ∧ ∀ x, x < v3.heap.size → w'.heap[x]? = v3.heap[x]?) lones_fun ⟨_, Try.func8⟩ lrest (slots_of fun x hx => .any _) K3.even (hF.sim K3.sim) (fun T => ?_) (fun t' v4 T d w4 todo _ he4 hR hs4 => ?_)
      · refine Code.wp_mono ?_ (hrest (w := onT v3 T 0) (n := m) (K := K) (ms := ms) (by omega) hbits hK hms rfl q2 q3 q4)
        rintro e a' w'' ⟨k1, k2, k3⟩
        exact ⟨k1, k2, k3.size, k3.block⟩
      obtain ⟨k2, k3, k4⟩ := hR
      have k2 : t'.getD 4 undef = .bool true := k2
      have K4 := K3.piece (v' := v4) (w' := w4) k3 k4 hs4 he4
      refine At.finish (r := 4) (K4.grew.ear) (fun i => ?_) inits_fair rfl rfl Try.func8 rfl fun w₁ o k => ?_
      · rw [K4.grew.role]; rfl
      · show Post (t'.getD 4 undef) w₁
        rw [k2]
        exact fin w₁ (K4.kept o k)
end
end Go.Proofs.Ytaiinkeendejdaa
