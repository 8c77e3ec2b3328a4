/-
  quash/quashlaw04.SchedPlays from every start: it answers true. No condition.
-/
import Derived.Test.YtaiinkeendejdaaSchUpto
import Derived.Test.YtaiinkeendejdaaSchPlaysB
namespace Go.Proofs.Ytaiinkeendejdaa
open Go.RowKit Go.Conc Go.ConcR.Gen Go.ConcN.Gen
open Go.ConcN (sumTo upd sumTo_upd upd_ne upd_same WgLive)
set_option maxRecDepth 100000
theorem inits_plays : Try.prog.inits.idxOf? 3 = none := by kernel_rfl
theorem nm_lent : ((Try.f11).name == "runtime.NumGoroutine") = false := by kernel_rfl
theorem Ends0.piece' {W v v' w w' : World} {b : Bd} (h : Ends0 W b v w) (hz : v.heap.size ≤ v'.heap.size) (hb : ∀ x, x < W.heap.size → v'.heap[x]? = v.heap[x]?) (hs : Sim b.shun b.F v' w') (he : Even (ZT b.shun v'.heap.size) v') : Ends0 W b v' w' :=
  ⟨h.grew, ⟨fun x st s e c hc => Nat.lt_of_lt_of_le (h.tidy.seat x st s e c hc) hz, fun x hx => Nat.lt_of_lt_of_le (h.tidy.wg x hx) hz, fun x hx => Nat.lt_of_lt_of_le (h.tidy.rung x hx) hz⟩, fun x hx => (hb x hx).trans (h.same x hx), hs, he, Nat.le_trans h.size hz⟩
theorem Sees.at2 {w : World} {ao : Option Addr} {l : List Int} (h : Sees w ao l) {i : Nat} {x : Int} (hx : l[i]? = some x) : ∃ p o, ao = some ⟨p, o, none⟩ ∧ w.cell? ⟨p, o + i, none⟩ = some (.int .i64 x) := by
  obtain ⟨b, o, h1, h2⟩ := h
  have h3 := h2 i (List.getElem?_eq_some_iff.1 hx).1
  rw [List.getD_eq_getElem?_getD, hx, Option.getD_some] at h3
  exact ⟨b, o, h1 (by intro e; rw [e] at hx; simp at hx), h3⟩
theorem cutL_300' (L : List PV) : ∀ x ∈ cutL L, x.2.2.length ≤ 300 := fun x hx => by
  obtain ⟨y, _, rfl⟩ := List.mem_map.1 hx
  show (y.2.2.take 300).length ≤ 300
  rw [List.length_take]; omega
theorem Bal.heap {w w' : World} {B g cap : Nat} {zs : List Int} (h : Bal w B g cap zs) (hb : ∀ x, x < w.heap.size → w'.heap[x]? = w.heap[x]?) : Bal w' B g cap zs := by
  refine ownsRow_at h fun g' hg' => hb g' ?_
  obtain rfl : g = g' := by simpa [Value.ownBlock] using hg'
  exact h.lt.1
theorem LentAll.pvs {w : World} {B : Nat} {GS L : List PV} (h : LentAll w B GS L) : PVs (fun x => x < w.heap.size) w GS := fun y hy => by
  obtain ⟨i, hi⟩ := List.getElem?_of_mem hy
  obtain ⟨g, x, h1, h2, h3, h4⟩ := h.2 i y hi
  have hc := h4.caps
  rw [List.length_append] at hc
  rw [h2, h3]
  refine ⟨fun e => (by cases e), by omega, by omega, fun j z hj => ⟨g, 0, rfl, h4.lt.1, ?_⟩⟩
  rw [Nat.zero_add]
  exact h4.cell j (by rw [List.getElem?_append_left (List.getElem?_eq_some_iff.1 hj).1]; exact hj)
theorem LentAll.map {w : World} {B : Nat} {GS L : List PV} (h : LentAll w B GS L) : GS.map (·.2.2) = L.map (·.2.2) := by
  refine List.ext_getElem? fun i => ?_
  rw [List.getElem?_map, List.getElem?_map]
  cases hy : GS[i]? with
  | none =>
    have : L[i]? = none := by
      rw [List.getElem?_eq_none_iff] at hy ⊢
      have := h.1; omega
    rw [this]
  | some y =>
    obtain ⟨g, x, h1, h2, h3, h4⟩ := h.2 i y hy
    rw [h1, Option.map_some, Option.map_some, h3]
theorem LentAll.lower {w : World} {B B' : Nat} {GS L : List PV} (h : LentAll w B GS L) (hb : B' ≤ B) : LentAll w B' GS L := ⟨h.1, fun i y hy => by
  obtain ⟨g, x, h1, h2, h3, h4⟩ := h.2 i y hy
  exact ⟨g, x, h1, h2, h3, own_lower h4 hb⟩⟩
theorem LentAll.heap {w w' : World} {B : Nat} {GS L : List PV} (h : LentAll w B GS L) (hb : ∀ x, x < w.heap.size → w'.heap[x]? = w.heap[x]?) : LentAll w' B GS L := ⟨h.1, fun i y hy => by
  obtain ⟨g, x, h1, h2, h3, h4⟩ := h.2 i y hy
  exact ⟨g, x, h1, h2, h3, h4.heap hb⟩⟩
theorem drainS_len {σ : Type} {next : σ → Int → Int × σ} {n : Nat} : ∀ (d fr : Nat) (x : σ × (Nat → Bool) × List Mk), (drainS next n d fr x).2.2.length ≤ x.2.2.length + d
  | 0, _, _ => Nat.le_refl _
  | d + 1, fr, x => by
    cases hk : nextS x.2.1 n fr with
    | none => rw [drainS_none hk]; omega
    | some k =>
      rw [drainS_some hk]
      have := drainS_len (next := next) (n := n) d (k + 1) (rstep next x k)
      rw [rstep_len] at this
      omega
theorem playR_len (ps : List (List Int)) (l : List Int) (D : Int) : (playR ps l D).1.length < 1000000 := by
  unfold playR runR
  split
  · rename_i h
    obtain ⟨_, _, _, h4, h5⟩ := wrong_ok h
    have h1 := drainS_len (next := planNext ps) (n := ps.length) D.toNat 0 (picksX (planNext ps) ps.length l fun _ => 0)
    rw [picksX_len] at h1
    show (drainS (planNext ps) ps.length D.toNat 0 (picksX (planNext ps) ps.length l fun _ => 0)).2.2.length < 1000000
    omega
  · show (0 : Nat) < 1000000
    omega
section
variable {Post : Value → World → Prop}
set_option maxHeartbeats 4000000 in
theorem plays_ends {W : World} {ao pa : Option Addr} {n cc np pc : Nat} {L : List PV} {picks : List Int} {D : Int} (hL : L.length = n) (hsees : SeesV W ao L) (hpv : PVs (fun x => x < W.heap.size) W L) (hnp : picks.length = np) (hpk : Sees W pa picks) (hpn : pa = none → pc = 0) (hnpm : np ≤ 2000000) (h64 : ∀ x ∈ picks, -9223372036854775808 ≤ x ∧ x ≤ 9223372036854775807) (hD64 : -9223372036854775808 ≤ D ∧ D ≤ 9223372036854775807)
    (fin : ∀ w, Kept W w → Post (.bool true) w) : Ends Try.prog Post (solo (G (Frame.enter Try.prog 3 #[.slice ao n cc, .slice pa np pc, .int .i64 D] .normal) []) W) #[] := by
  refine ends_of_at (ty := 64) (Z := oddZ W) (fun _ => oddZ_low) even_odd ?_
  have hrest := @plays_rest
  have lrest := restP_lone
  simp only [restPlays, bodyPlays, Try.f3, Option.getD_some] at hrest
  simp only [restPlays, bodyPlays, Try.f3, Option.getD_some] at lrest
  rw [enter_at _ Try.func3 rfl]
  walk_nrmf Try.f3
  have K0 := Ends0.start W
  have hear0 : (Bd.start (oddZ W) W).ear = true := rfl
  have hwt0 : (Bd.start (oddZ W) W).wait = none := rfl
  have hcell0 : ∀ a x, W.cell? a = some x → (startV W).cell? a = some x := fun a x h => by
    obtain ⟨cc, t, f, hc⟩ := cells_of_cell h
    exact (World.cell?_of_block (a := a) ((startV_cells hc).trans hc.symm)).trans h
  have hsz0 : (startV W).heap.size = W.heap.size := startV_size
  generalize hb0 : Bd.start (oddZ W) W = b0 at K0 hear0 hwt0
  obtain ⟨v0, hv0⟩ : ∃ v0, v0 = startV W := ⟨_, rfl⟩
  rw [← hv0] at K0 hcell0 hsz0
  have hF : Off b0.shun W W := Off.refl _ _
  refine At.goes0 (n := 10) ?_
  u_c stepG_seq ro_off2 hF
  u_reg ro_off2 hF
  u_op ro_off2 hF
  u_c stepG_region_end ro_off2 hF
  u_c stepG_seq ro_off2 hF
  u_reg ro_off2 hF
  refine Goes.stop (fun wA q => ?_)
  replace hF := ro_off2 hF q
  clear q
  refine At.list rfl (fun wB q => ⟨_, #[], stepG_call rfl rfl (by decide) rfl Try.func9 nm_awake rfl, by simp, ?_⟩)
  replace hF := ro_off2 hF q
  clear q
  walk_nrm
  refine awake_whole (v := v0) hear0 hwt0 (hF.sim K0.sim) K0.even K0.tidy (fun b1 v1 w1 S1 => ?_)
  have K1 := K0.still S1
  have hz1 := S1.size
  rw [Frame.finish_at]
  walk_nrm
  have hF : Off b1.shun w1 w1 := Off.refl _ _
  have hcell1 : ∀ a x, W.cell? a = some x → v1.cell? a = some x := fun a x h => (World.cell?_of_block (a := a) (S1.same a.block (block_lt_of_cell (hcell0 a x h)))).trans (hcell0 a x h)
  refine At.goes0 (n := 20) ?_
  u_op ro_off2 hF
  u_c stepG_region_end ro_off2 hF
  u_c stepG_seq ro_off2 hF
  u_reg ro_off2 hF
  u_op ro_off2 hF
  refine Goes.stop (fun wC q => ?_)
  replace hF := ro_off2 hF q
  clear q
  refine At.list rfl (fun wD q => ⟨_, #[], stepG_call rfl rfl (by decide) rfl Try.func10 nm_some rfl, by simp, ?_⟩)
  replace hF := ro_off2 hF q
  clear q
  walk_nrm
  refine At.someC K1.even (hF.sim K1.sim) hL (hsees.cells hcell1) (hpv.cells hcell1) (fun ro rc v2 w2 hs2 hp2 hr2 hz2 hsame2 he2 hsim2 => ?_)
  have K2 := K1.piece hz2 hsame2 hsim2 he2
  obtain ⟨m, hm⟩ : ∃ m, m = (cutL L).length := ⟨_, rfl⟩
  have hm9 : m ≤ 9 := by rw [hm]; exact cutL_le L
  rw [← hm]
  have HM := Lib.hid hm
  clear hm
  rw [Frame.finish_at]
  walk_nrm
  have hF : Off b1.shun w2 w2 := Off.refl _ _
  have hcell2 : ∀ a x, W.cell? a = some x → v2.cell? a = some x := fun a x h => (World.cell?_of_block (a := a) (hsame2 a.block (block_lt_of_cell (hcell1 a x h)))).trans (hcell1 a x h)
  refine At.goes0 (n := 60) ?_
  u_op ro_off2 hF
  u_c stepG_region_end ro_off2 hF
  u_c stepG_seq ro_off2 hF
  u_reg ro_off2 hF
  u_op ro_off2 hF
  u_op ro_off2 hF
  u_c stepG_region_end ro_off2 hF
  u_c stepG_seq ro_off2 hF
  refine Goes.stop (fun wE q => ?_)
  replace hF := ro_off2 hF q
  clear q
  refine At.piece (c := cutPlays) (M := bare) (R := fun a' w' => (∃ y26 y27 y28 y29 y30 y31 y32 y33, a'.tmps = #[.slice ao n cc, .slice pa np pc, .int .i64 D, undef, undef, undef, .bool false, .bool true, .slice ro m rc, .int .i64 (cutD D), undef, undef, undef, undef, undef, undef, undef, undef, undef, undef, undef, undef, .bool true, .slice ao n cc, .slice ro m rc, .int .i64 D, y26, y27, y28, y29, y30, y31, y32, y33, undef, undef, undef, undef, undef, undef, undef, undef, undef, undef, undef, undef, undef, undef, undef, undef, undef, undef, undef, undef, undef, undef, undef, undef, undef, undef, undef, undef, undef, undef, undef, undef, undef, undef, undef, undef, undef, undef, undef, undef, undef, undef, undef, undef, undef, undef, undef, undef, undef, undef, undef, undef, undef, undef, undef, undef, undef, undef, undef, undef, undef, undef, undef, undef, undef, undef, undef, undef, undef, undef, undef, undef, undef, undef, undef, undef, undef, undef, undef, undef, undef, undef, undef, undef, undef, undef, undef, undef, undef, undef, undef, undef, undef, undef, undef, undef, undef, undef, undef, undef, undef, undef, undef, undef]) ∧ w'.heap = v2.heap) lones_fun ⟨_, Try.func3⟩ cutP_lone (slots_of fun x hx => .any _) K2.even (hF.sim K2.sim) (fun T => ?_) (fun t3 v3 T d w3 _ he3 hR hs3 => ?_)
  · refine Code.wp_mono ?_ (plays_cut (w := onT v2 T 0) hD64)
    rintro e a' w'' ⟨k1, _, k3, k4⟩
    exact ⟨k1, k3, k4⟩
  obtain ⟨⟨y26, y27, y28, y29, y30, y31, y32, y33, ht3⟩, hv3⟩ := hR
  have hv3 : v3.heap = v2.heap := hv3
  obtain rfl := ht3
  have K3 := K2.piece (v' := v3) (w' := w3) (by rw [hv3]; exact Nat.le_refl _) (fun x _ => by rw [hv3]) hs3 he3
  have hcE : ∀ a x, v2.cell? a = some x → v3.cell? a = some x := fun a x h => (by unfold World.cell? at h ⊢; rw [hv3]; exact h)
  have hs3' : SeesV v3 ro (cutL L) := hs2.cells hcE
  have hp3 : PVs (fun x => x < v3.heap.size) v3 (cutL L) := hp2.cells hcE
  have hr3 : ∀ p o, ro = some ⟨p, o, none⟩ → p < v3.heap.size := fun p o e => by rw [hv3]; exact hr2 p o e
  have hpk3 : Sees v3 pa picks := hpk.cellsOf fun a x h => hcE a x (hcell2 a x h)
  obtain ⟨D2, hD2⟩ : ∃ D2, D2 = cutD D := ⟨_, rfl⟩
  rw [← hD2]
  clear hD2
  have hF : Off b1.shun w3 w3 := Off.refl _ _
  refine At.goes0 (n := 60) ?_
  u_c stepG_seq ro_off2 hF
  u_reg ro_off2 hF
  u_op ro_off2 hF
  u_c stepG_region_end ro_off2 hF
  u_c stepG_seq ro_off2 hF
  refine Goes.stop (fun wE q => ?_)
  replace hF := ro_off2 hF q
  clear q
  refine At.piece (c := lentPlays) (M := bare) (R := fun a' w' => (∃ ov z11 z34 z35 z36 z37 z38 z39 z40 z41 z42 z43 z44 z45 z46 z47, a'.tmps = #[.slice ao n cc, .slice pa np pc, .int .i64 D, undef, undef, undef, .bool false, .bool true, .slice ro m rc, .int .i64 D2, ov, z11, undef, undef, undef, undef, undef, undef, undef, undef, undef, undef, .bool true, .slice ao n cc, .slice ro m rc, .int .i64 D, y26, y27, y28, y29, y30, y31, y32, y33, z34, z35, z36, z37, z38, z39, z40, z41, z42, z43, z44, z45, z46, z47, undef, undef, undef, undef, undef, undef, undef, undef, undef, undef, undef, undef, undef, undef, undef, undef, undef, undef, undef, undef, undef, undef, undef, undef, undef, undef, undef, undef, undef, undef, undef, undef, undef, undef, undef, undef, undef, undef, undef, undef, undef, undef, undef, undef, undef, undef, undef, undef, undef, undef, undef, undef, undef, undef, undef, undef, undef, undef, undef, undef, undef, undef, undef, undef, undef, undef, undef, undef, undef, undef, undef, undef, undef, undef, undef, undef, undef, undef, undef, undef, undef, undef, undef, undef, undef, undef, undef, undef, undef, undef] ∧ ∃ GS, OwnS w' v3.heap.size ov GS ∧ LentAll w' v3.heap.size GS (cutL L)) ∧ v3.heap.size ≤ w'.heap.size ∧ ∀ x, x < v3.heap.size → w'.heap[x]? = v3.heap[x]?) lones_fun ⟨_, Try.func3⟩ lentP_lone (slots_of fun x hx => .any _) K3.even (hF.sim K3.sim) (fun T => ?_) (fun t4 v4 T d w4 _ he4 hR hs4 => ?_)
  · refine Code.wp_mono ?_ (plays_lent (w := onT v3 T 0) (L := cutL L) HM.out.symm hm9 hs3' hp3 (cutL_300' L))
    rintro e a' w'' ⟨k1, _, k3, k4⟩
    exact ⟨k1, k3, k4.size, k4.block⟩
  obtain ⟨⟨ov, z11, z34, z35, z36, z37, z38, z39, z40, z41, z42, z43, z44, z45, z46, z47, ht4, GS, hgs4, hla4⟩, hz4, hsame4⟩ := hR
  have hgs4 : OwnS v4 v3.heap.size ov GS := hgs4
  have hla4 : LentAll v4 v3.heap.size GS (cutL L) := hla4
  have hz4 : v3.heap.size ≤ v4.heap.size := hz4
  have hsame4 : ∀ x, x < v3.heap.size → v4.heap[x]? = v3.heap[x]? := hsame4
  obtain rfl := ht4
  have K4 := K3.piece (v' := v4) (w' := w4) hz4 hsame4 hs4 he4
  have up4 : ∀ a x, v3.cell? a = some x → v4.cell? a = some x := fun a x h => (World.cell?_of_block (a := a) (hsame4 a.block (block_lt_of_cell h))).trans h
  have hF : Off b1.shun w4 w4 := Off.refl _ _
  refine At.goes0 (n := 60) ?_
  u_c stepG_seq ro_off2 hF
  u_reg ro_off2 hF
  u_op ro_off2 hF
  refine Goes.stop (fun wE q => ?_)
  replace hF := ro_off2 hF q
  clear q
  refine At.list rfl (fun wD q => ⟨_, #[], stepG_call rfl rfl (by decide) rfl Try.func11 nm_lent rfl, by simp, ?_⟩)
  replace hF := ro_off2 hF q
  clear q
  walk_nrm
  refine At.callee (R := fun a v' => ∃ kg kc, a = .slice (some ⟨kg, 0, none⟩) np kc ∧ Bal v' v4.heap.size kg kc (picks ++ spare2) ∧ v4.heap.size ≤ v'.heap.size ∧ ∀ x, x < v4.heap.size → v'.heap[x]? = v4.heap[x]?) lones_fun (by kernel_rfl) Try.func11 rfl rfl rfl (fun x _ => .any _) K4.even (hF.sim K4.sim) (fun T => ?_) (fun a v5 T d w5 _ he5 hR hs5 => ?_)
  · refine (lent_any pa np pc picks (onT v4 T 0) hnp (hpk3.cellsOf up4) hpn (by omega)).mono ?_
    rintro e w' ⟨kg, kc, rfl, k2, k3⟩
    exact ⟨_, rfl, kg, kc, rfl, k2, k3.size, k3.block⟩
  obtain ⟨kg, kc, rfl, hk5, hz5, hsame5⟩ := hR
  have hk5 : Bal v5 v4.heap.size kg kc (picks ++ spare2) := hk5
  have hz5 : v4.heap.size ≤ v5.heap.size := hz5
  have hsame5 : ∀ x, x < v4.heap.size → v5.heap[x]? = v4.heap[x]? := hsame5
  have K5 := K4.piece (v' := v5) (w' := w5) hz5 hsame5 hs5 he5
  have up5 : ∀ a x, v4.cell? a = some x → v5.cell? a = some x := fun a x h => (World.cell?_of_block (a := a) (hsame5 a.block (block_lt_of_cell h))).trans h
  obtain ⟨oo, oc, hov, hso4⟩ := hgs4.slice
  have hoob : ∀ p o, oo = some ⟨p, o, none⟩ → p < v4.heap.size := fun p o e => (hgs4.block (by rw [hov, e]; rfl)).2
  have hgl : GS.length = m := hla4.1.trans HM.out.symm
  rw [hgl] at hov
  subst hov
  rw [Frame.finish_at]
  walk_nrm
  have hF : Off b1.shun w5 w5 := Off.refl _ _
  refine At.goes0 (n := 60) ?_
  u_op ro_off2 hF
  u_c stepG_region_end ro_off2 hF
  u_c stepG_seq ro_off2 hF
  u_reg ro_off2 hF
  u_op ro_off2 hF
  u_op ro_off2 hF
  u_op ro_off2 hF
  refine Goes.stop (fun wE q => ?_)
  replace hF := ro_off2 hF q
  clear q
  refine At.list rfl (fun wD q => ⟨_, #[], stepG_call rfl rfl (by decide) rfl Try.func12 nm_play rfl, by simp, ?_⟩)
  replace hF := ro_off2 hF q
  clear q
  walk_nrm
  have hso5 : SeesV v5 oo GS := hso4.cells up5
  have hla5 : LentAll v5 v3.heap.size GS (cutL L) := hla4.heap hsame5
  have hgm : GS.map (·.2.2) = (cutL L).map (·.2.2) := hla4.map
  have hplen : ((cutL L).map (·.2.2)).length = m := by rw [List.length_map, HM.out]
  have hpl5 : Plans (fun x => x < v5.heap.size) v5 oo ((cutL L).map (·.2.2)) := by rw [← hgm]; exact plans_of hso5 (fun p o e => Nat.lt_of_lt_of_le (hoob p o e) hz5) hla5.pvs
  obtain ⟨MS, hMS⟩ : ∃ MS, MS = (playR ((cutL L).map (·.2.2)) picks D2).1 := ⟨_, rfl⟩
  obtain ⟨E, hE⟩ : ∃ E, E = (playR ((cutL L).map (·.2.2)) picks D2).2 := ⟨_, rfl⟩
  have hRR : playR ((cutL L).map (·.2.2)) picks D2 = (MS, E) := by rw [hMS, hE]
  have hMSl : MS.length < 1000000 := by rw [hMS]; exact playR_len _ _ _
  clear hMS hE
  refine play_whole (v := v5) (ps := (cutL L).map (·.2.2)) (l := picks) (by rw [K5.grew.ear]; rfl) (by rw [K5.grew.wait]; rfl) (hF.sim K5.sim) K5.even K5.tidy hpl5 hplen (by omega) (.any _) (.any _) (fun i x hx => ⟨kg, 0, rfl, by rw [Nat.zero_add]; exact hk5.cell i (by rw [List.getElem?_append_left (List.getElem?_eq_some_iff.1 hx).1]; exact hx)⟩) hnp (by unfold maxLen; omega) h64 (fun b6 v6 w6 mv6 D6 => ?_)
  rw [hRR] at D6 ⊢
  have K6 := K5.done D6
  have D6 : Done b1 v5 b6 v6 w6 mv6 MS := D6
  have up6 : ∀ a x, v5.cell? a = some x → v6.cell? a = some x := fun a x h => (World.cell?_of_block (a := a) (D6.same a.block (block_lt_of_cell h))).trans h
  dsimp only
  rw [Frame.finish_at]
  walk_nrm
  have hF : Off b6.shun w6 w6 := Off.refl _ _
  refine At.goes0 (n := 60) ?_
  u_op ro_off2 hF
  u_op ro_off2 hF
  u_op ro_off2 hF
  u_op ro_off2 hF
  u_op ro_off2 hF
  u_c stepG_region_end ro_off2 hF
  u_c stepG_seq ro_off2 hF
  u_reg ro_off2 hF
  u_op ro_off2 hF
  u_op ro_off2 hF
  u_op ro_off2 hF
  refine Goes.stop (fun wE q => ?_)
  replace hF := ro_off2 hF q
  clear q
  refine At.list rfl (fun wD q => ⟨_, #[], stepG_call rfl rfl (by decide) rfl Try.func12 nm_play rfl, by simp, ?_⟩)
  replace hF := ro_off2 hF q
  clear q
  walk_nrm
  have hpl6 : Plans (fun x => x < v6.heap.size) v6 oo ((cutL L).map (·.2.2)) := hpl5.at (fun x hx => Nat.lt_of_lt_of_le hx D6.size) D6.same
  have hk6 : Bal v6 v4.heap.size kg kc (picks ++ spare2) := hk5.heap D6.same
  refine play_whole (v := v6) (ps := (cutL L).map (·.2.2)) (l := picks) (by rw [K6.grew.ear]; rfl) (by rw [K6.grew.wait]; rfl) (hF.sim K6.sim) K6.even K6.tidy hpl6 hplen (by omega) (.any _) (.any _) (fun i x hx => ⟨kg, 0, rfl, by rw [Nat.zero_add]; exact hk6.cell i (by rw [List.getElem?_append_left (List.getElem?_eq_some_iff.1 hx).1]; exact hx)⟩) hnp (by unfold maxLen; omega) h64 (fun b7 v7 w7 mv7 D7 => ?_)
  rw [hRR] at D7 ⊢
  have K7 := K6.done D7
  have D7 : Done b6 v6 b7 v7 w7 mv7 MS := D7
  have up7 : ∀ a x, v6.cell? a = some x → v7.cell? a = some x := fun a x h => (World.cell?_of_block (a := a) (D7.same a.block (block_lt_of_cell h))).trans h
  obtain ⟨m2, c2, hmv7, _, _⟩ := D7.row.slice
  obtain ⟨M, hM⟩ : ∃ M, MS.length = M := ⟨_, rfl⟩
  rw [hM] at hmv7 hMSl
  subst hmv7
  dsimp only
  rw [Frame.finish_at]
  walk_nrm
  have hF : Off b7.shun w7 w7 := Off.refl _ _
  refine At.goes0 (n := 60) ?_
  u_op ro_off2 hF
  u_op ro_off2 hF
  u_op ro_off2 hF
  u_op ro_off2 hF
  u_op ro_off2 hF
  u_c stepG_region_end ro_off2 hF
  refine Goes.stop (fun wE q => ?_)
  replace hF := ro_off2 hF q
  clear q
  have hrow6 : OwnM v7 v5.heap.size mv6 MS := D6.row.at fun g hg => D7.same g (D6.row.block hg).2
  have hz67 := D6.size
  have hz77 := D7.size
  have hzW := K3.size
  have hk7 : Bal v7 0 kg kc (picks ++ spare2) := own_lower (hk6.heap D7.same) (Nat.zero_le _)
  refine At.rest (M := bare) (R := fun a' w' => a'.tmps.getD 6 undef = .bool true ∧ v7.heap.size ≤ w'.heap.size ∧ ∀ x, x < W.heap.size → w'.heap[x]? = v7.heap[x]?) lones_fun ⟨_, Try.func3⟩ lrest (slots_of fun x hx => .any _) K7.even (hF.sim K7.sim) (fun T => ?_) (fun t' v8 T d w8 todo _ he8 hR hs8 => ?_)
  · refine Code.wp_mono ?_ (hrest (w := onT v7 T 0) (m := m) (L := cutL L) (GS := GS) (picks := picks) (MS := MS) (B := W.heap.size) (B1 := v5.heap.size) (B2 := v6.heap.size) HM.out.symm hm9 (((hs3'.cells up4).cells up5).cells fun a x h => up7 a x (up6 a x h)) (fun p o e => by have := hr3 p o e; show p < v7.heap.size; omega) (((hp3.cells up4).cells up5).cells fun a x h => up7 a x (up6 a x h)) (((hpk3.cellsOf up4).cellsOf up5).cellsOf fun a x h => up7 a x (up6 a x h)) hnp hnpm h64 (hso5.cells fun a x h => up7 a x (up6 a x h)) (((hla5.heap D6.same).heap D7.same).lower (Nat.zero_le _)) hk7 hRR hM hMSl hrow6 D7.row (fun g h1 h2 => by have := (D6.row.block h1).2; have := (D7.row.block h2).1; omega) (by omega) (by show W.heap.size ≤ v7.heap.size; omega) (by show v5.heap.size ≤ v7.heap.size; omega))
    rintro e a' w'' ⟨k1, k2, k3⟩
    exact ⟨k1, k2, k3.size, k3.block⟩
  obtain ⟨k2, k3, k4⟩ := hR
  have k2 : t'.getD 6 undef = .bool true := k2
  have K8 := K7.piece' (v' := v8) (w' := w8) k3 k4 hs8 he8
  refine At.finish (r := 6) (K8.grew.ear) (fun i => ?_) inits_plays rfl rfl Try.func3 rfl fun w₁ o k => ?_
  · rw [K8.grew.role]; rfl
  · show Post (t'.getD 6 undef) w₁
    rw [k2]
    exact fin w₁ (K8.kept o k)
end
end Go.Proofs.Ytaiinkeendejdaa
