/-
  quash/quashlaw04.SchedRuns from every start: it answers true. No condition.
-/
import Derived.Test.YtaiinkeendejdaaSchRunsD
import Derived.Test.YtaiinkeendejdaaSchPlaysEnds
namespace Go.Proofs.Ytaiinkeendejdaa
open Go.RowKit Go.Conc Go.ConcR.Gen Go.ConcN.Gen
open Go.ConcN (sumTo upd sumTo_upd upd_ne upd_same WgLive)
set_option maxRecDepth 100000
theorem inits_runs : Try.prog.inits.idxOf? 5 = none := by kernel_rfl
theorem nm_runs1 : ((Try.f20).name == "runtime.NumGoroutine") = false := by kernel_rfl
theorem Sim.over {b : Bd} {v w : World} (hs : Sim b.shun b.F v w) {x : Nat} (hx : v.heap.size ≤ x) : b.shun x = false ∧ b.F x = 0 := by
  constructor
  · cases e : b.shun x with
    | false => rfl
    | true => have := hs.low x e; rw [← hs.size] at this; omega
  · by_cases hf : b.F x = 0
    · exact hf
    · have := hs.iceLow hf
      rw [← hs.size] at this
      omega
theorem Ends0.ended {W : World} {b b' : Bd} {v v' w w' : World} {σ : Type} {O O' : Nat → Prop} {J : Nat → σ → (Nat → Prop) → World → Prop} {s : σ} {ms : List Mk} {mv : Value} (h : Ends0 W b v w) (E : Ended b v O v.heap.size J s ms b' v' w' O' mv) (hO : ∀ x, O x → W.heap.size ≤ x) : Ends0 W b' v' w' :=
  ⟨⟨Nat.le_trans h.grew.n E.grew.n, E.grew.role.trans h.grew.role, fun x hx => (E.grew.F x (Nat.lt_of_lt_of_le hx h.size)).trans (h.grew.F x hx), fun x => Nat.le_trans (h.grew.Fle x) (E.grew.Fle x), fun x hx => (E.grew.shun x (Nat.lt_of_lt_of_le hx h.size)).trans (h.grew.shun x hx), fun x hx => (E.grew.rung x (Nat.lt_of_lt_of_le hx h.size)).trans (h.grew.rung x hx), E.grew.wg.trans h.grew.wg, E.grew.wait.trans h.grew.wait, E.grew.ear.trans h.grew.ear, E.grew.old.1.trans h.grew.old.1, E.grew.old.2.trans h.grew.old.2⟩,
    E.tidy, fun x hx => (E.same x (Nat.lt_of_lt_of_le hx h.size) (fun e => by have := hO x e; omega)).trans (h.same x hx), E.sim, E.even, Nat.le_trans h.size E.size⟩
section
variable {Post : Value → World → Prop}
set_option maxHeartbeats 4000000 in
theorem runs_ends {W : World} {ao pa : Option Addr} {n cc np pc : Nat} {L : List PV} {picks : List Int} {D : Int} (hL : L.length = n) (hsees : SeesV W ao L) (hpv : PVs (fun x => x < W.heap.size) W L) (hnp : picks.length = np) (hpk : Sees W pa picks) (hnpm : np ≤ 2000000) (h64 : ∀ x ∈ picks, -9223372036854775808 ≤ x ∧ x ≤ 9223372036854775807) (hD64 : -9223372036854775808 ≤ D ∧ D ≤ 9223372036854775807)
    (fin : ∀ w, Kept W w → Post (.bool true) w) : Ends Try.prog Post (solo (G (Frame.enter Try.prog 5 #[.slice ao n cc, .slice pa np pc, .int .i64 D] .normal) []) W) #[] := by
  refine ends_of_at (ty := 64) (Z := oddZ W) (fun _ => oddZ_low) even_odd ?_
  rw [enter_at _ Try.func5 rfl]
  walk_nrmf Try.f5
  have K0 := Ends0.start W
  have hear0 : (Bd.start (oddZ W) W).ear = true := rfl
  have hwt0 : (Bd.start (oddZ W) W).wait = none := rfl
  have hcell0 : ∀ a x, W.cell? a = some x → (startV W).cell? a = some x := fun a x h => by
    obtain ⟨cc, t, f, hc⟩ := cells_of_cell h
    exact (World.cell?_of_block (a := a) ((startV_cells hc).trans hc.symm)).trans h
  have hsz0 : (startV W).heap.size = W.heap.size := startV_size
  generalize hb0 : Bd.start (oddZ W) W = b0 at K0 hear0 hwt0
  obtain ⟨v0, hv0⟩ : ∃ v0, v0 = startV W := ⟨_, rfl⟩
  rw [← hv0] at K0 hcell0 hsz0
  have hF : Off b0.shun W W := Off.refl _ _
  refine At.goes0 (n := 10) ?_
  u_c stepG_seq ro_off2 hF
  u_reg ro_off2 hF
  u_op ro_off2 hF
  u_c stepG_region_end ro_off2 hF
  u_c stepG_seq ro_off2 hF
  u_reg ro_off2 hF
  refine Goes.stop (fun wA q => ?_)
  replace hF := ro_off2 hF q
  clear q
  refine At.list rfl (fun wB q => ⟨_, #[], stepG_call rfl rfl (by decide) rfl Try.func9 nm_awake rfl, by simp, ?_⟩)
  replace hF := ro_off2 hF q
  clear q
  walk_nrm
  refine awake_whole (v := v0) hear0 hwt0 (hF.sim K0.sim) K0.even K0.tidy (fun b1 v1 w1 S1 => ?_)
  have K1 := K0.still S1
  have hz1 := S1.size
  rw [Frame.finish_at]
  walk_nrm
  have hF : Off b1.shun w1 w1 := Off.refl _ _
  have hcell1 : ∀ a x, W.cell? a = some x → v1.cell? a = some x := fun a x h => (World.cell?_of_block (a := a) (S1.same a.block (block_lt_of_cell (hcell0 a x h)))).trans (hcell0 a x h)
  refine At.goes0 (n := 20) ?_
  u_op ro_off2 hF
  u_c stepG_region_end ro_off2 hF
  u_c stepG_seq ro_off2 hF
  refine Goes.stop (fun wE q => ?_)
  replace hF := ro_off2 hF q
  clear q
  refine At.piece (c := pRuns) (M := bare) (R := fun a' w' => ∃ pvb ro rc y21 y22, a'.tmps = #[.slice ao n cc, .slice pa np pc, .int .i64 D, undef, undef, undef, .bool false, .bool true, .pointer (some ⟨pvb, 0, none⟩), undef, undef, undef, undef, undef, undef, undef, undef, undef, undef, undef, .bool true, y21, y22, undef, undef, undef, undef, undef, undef, undef, undef, undef, undef, undef, undef, undef, undef, undef, undef, undef, undef, undef, undef, undef, undef, undef, undef, undef, undef, undef, undef, undef, undef, undef, undef, undef, undef, undef, undef, undef, undef, undef, undef, undef, undef, undef, undef, undef, undef, undef, undef, undef, undef, undef, undef, undef, undef, undef, undef, undef, undef, undef, undef, undef, undef, undef, undef, undef, undef, undef, undef, undef, undef, undef, undef, undef] ∧ PVar L (cutL L).length pvb ro rc v1 w') lones_fun ⟨_, Try.func5⟩ pR_lone (slots_of fun x hx => .any _) K1.even (hF.sim K1.sim) (fun T => ?_) (fun t2 v2 T d w2 _ he2 hR hs2 => ?_)
  · refine Code.wp_mono ?_ (runs_p (w := onT v1 T 0) hL (hsees.cells hcell1) (hpv.cells hcell1))
    rintro e a' w'' ⟨k1, _, pvb, ro, rc, y21, y22, k3, k4⟩
    exact ⟨k1, pvb, ro, rc, y21, y22, k3, ⟨k4.sees, k4.pvs, k4.row, k4.cell, k4.low, k4.size, k4.same⟩⟩
  obtain ⟨pvb, ro, rc, y21, y22, ht2, hP0⟩ := hR
  have hP2 : PVar L (cutL L).length pvb ro rc v1 v2 := ⟨hP0.sees, hP0.pvs, hP0.row, hP0.cell, hP0.low, hP0.size, hP0.same⟩
  clear hP0
  obtain rfl := ht2
  have K2 := K1.piece hP2.size hP2.same hs2 he2
  obtain ⟨PS, hPS⟩ : ∃ PS, PS = (cutL L).map (·.2.2) := ⟨_, rfl⟩
  have hPL : PS.length = (cutL L).length := by rw [hPS, List.length_map]
  have hp9 : PS.length ≤ 9 := by rw [hPL]; exact cutL_le L
  have hcell2 : ∀ a x, W.cell? a = some x → v2.cell? a = some x := fun a x h => (World.cell?_of_block (a := a) (hP2.same a.block (block_lt_of_cell (hcell1 a x h)))).trans (hcell1 a x h)
  have hplans2 : Plans (fun x => x < v2.heap.size) v2 ro PS := by rw [hPS]; exact plans_of hP2.sees hP2.row hP2.pvs
  have hpc2 := hP2.cell
  rw [← hPL] at hpc2
  have hpk2 : Sees v2 pa picks := hpk.cellsOf hcell2
  have hF : Off b1.shun w2 w2 := Off.refl _ _
  refine At.goes0 (n := 60) ?_
  u_c stepG_seq ro_off2 hF
  u_reg ro_off2 hF
  u_op ro_off2 hF
  u_op ro_off2 hF
  u_c stepG_region_end ro_off2 hF
  u_c stepG_seq ro_off2 hF
  refine Goes.stop (fun wE q => ?_)
  replace hF := ro_off2 hF q
  clear q
  refine At.piece (c := cutRuns) (M := bare) (R := fun a' w' => (∃ y24 y25 y26 y27 y28 y29 y30 y31, a'.tmps = #[.slice ao n cc, .slice pa np pc, .int .i64 D, undef, undef, undef, .bool false, .bool true, .pointer (some ⟨pvb, 0, none⟩), .int .i64 (cutD D), undef, undef, undef, undef, undef, undef, undef, undef, undef, undef, .bool true, y21, y22, .int .i64 D, y24, y25, y26, y27, y28, y29, y30, y31, undef, undef, undef, undef, undef, undef, undef, undef, undef, undef, undef, undef, undef, undef, undef, undef, undef, undef, undef, undef, undef, undef, undef, undef, undef, undef, undef, undef, undef, undef, undef, undef, undef, undef, undef, undef, undef, undef, undef, undef, undef, undef, undef, undef, undef, undef, undef, undef, undef, undef, undef, undef, undef, undef, undef, undef, undef, undef, undef, undef, undef, undef, undef, undef]) ∧ w'.heap = v2.heap) lones_fun ⟨_, Try.func5⟩ cutR_lone (slots_of fun x hx => .any _) K2.even (hF.sim K2.sim) (fun T => ?_) (fun t3 v3 T d w3 _ he3 hR hs3 => ?_)
  · refine Code.wp_mono ?_ (runs_cut (w := onT v2 T 0) hD64)
    rintro e a' w'' ⟨k1, _, k3, k4⟩
    exact ⟨k1, k3, k4⟩
  obtain ⟨⟨y24, y25, y26, y27, y28, y29, y30, y31, ht3⟩, hv3⟩ := hR
  have hv3 : v3.heap = v2.heap := hv3
  obtain rfl := ht3
  have K3 := K2.piece (v' := v3) (w' := w3) (by rw [hv3]; exact Nat.le_refl _) (fun x _ => by rw [hv3]) hs3 he3
  obtain ⟨D2, hD2⟩ : ∃ D2, D2 = cutD D := ⟨_, rfl⟩
  rw [← hD2]
  clear hD2
  have hF : Off b1.shun w3 w3 := Off.refl _ _
  refine At.goes0 (n := 60) ?_
  u_c stepG_seq ro_off2 hF
  refine Goes.stop (fun wE q => ?_)
  replace hF := ro_off2 hF q
  clear q
  refine At.piece (c := atRuns) (M := bare) (R := fun a' w' => a'.tmps = #[.slice ao n cc, .slice pa np pc, .int .i64 D, undef, undef, undef, .bool false, .bool true, .pointer (some ⟨pvb, 0, none⟩), .int .i64 D2, .pointer (some ⟨v3.heap.size, 0, none⟩), undef, undef, undef, undef, undef, undef, undef, undef, undef, .bool true, y21, y22, .int .i64 D, y24, y25, y26, y27, y28, y29, y30, y31, undef, undef, undef, undef, undef, undef, undef, undef, undef, undef, undef, undef, undef, undef, undef, undef, undef, undef, undef, undef, undef, undef, undef, undef, undef, undef, undef, undef, undef, undef, undef, undef, undef, undef, undef, undef, undef, undef, undef, undef, undef, undef, undef, undef, undef, undef, undef, undef, undef, undef, undef, undef, undef, undef, undef, undef, undef, undef, undef, undef, undef, undef, undef, undef] ∧ w'.heap = v3.heap.push (.cells zeros9 39)) lones_fun ⟨_, Try.func5⟩ atR_lone (slots_of fun x hx => .any _) K3.even (hF.sim K3.sim) (fun T => ?_) (fun t4 v4 T d w4 _ he4 hR hs4 => ?_)
  · refine Code.wp_mono ?_ (runs_at (w := onT v3 T 0))
    rintro e a' w'' ⟨k1, _, k3, k4⟩
    exact ⟨k1, k3, k4⟩
  obtain ⟨ht4, hv4⟩ := hR
  have hv4 : v4.heap = v3.heap.push (.cells zeros9 39) := hv4
  obtain rfl := ht4
  have K4 := K3.piece (v' := v4) (w' := w4) (by rw [hv4]; simp) (fun x hx => by rw [hv4, Array.getElem?_push, if_neg (by omega)]) hs4 he4
  obtain ⟨N2, hN2⟩ : ∃ N2, N2 = v3.heap.size := ⟨_, rfl⟩
  rw [← hN2]
  have hN2' : v2.heap.size = N2 := by rw [hN2, hv3]
  have hz4 : v4.heap.size = N2 + 1 := by rw [hv4, Array.size_push, hN2]
  have hF : Off b1.shun w4 w4 := Off.refl _ _
  refine At.goes0 (n := 60) ?_
  u_c stepG_seq ro_off2 hF
  refine Goes.stop (fun wE q => ?_)
  replace hF := ro_off2 hF q
  clear q
  refine At.piece (c := ovRuns) (M := bare) (R := fun a' w' => a'.tmps = #[.slice ao n cc, .slice pa np pc, .int .i64 D, undef, undef, undef, .bool false, .bool true, .pointer (some ⟨pvb, 0, none⟩), .int .i64 D2, .pointer (some ⟨N2, 0, none⟩), .pointer (some ⟨v4.heap.size, 0, none⟩), undef, undef, undef, undef, undef, undef, undef, undef, .bool true, y21, y22, .int .i64 D, y24, y25, y26, y27, y28, y29, y30, y31, undef, undef, undef, undef, undef, undef, undef, undef, undef, undef, undef, undef, undef, undef, undef, undef, undef, undef, undef, undef, undef, undef, undef, undef, undef, undef, undef, undef, undef, undef, undef, undef, undef, undef, undef, undef, undef, undef, undef, undef, undef, undef, undef, undef, undef, undef, undef, undef, undef, undef, undef, undef, undef, undef, undef, undef, undef, undef, undef, undef, undef, undef, undef, undef] ∧ w'.heap = v4.heap.push (.cells #[.slice none 0 0] 23)) lones_fun ⟨_, Try.func5⟩ ovR_lone (slots_of fun x hx => .any _) K4.even (hF.sim K4.sim) (fun T => ?_) (fun t5 v5 T d w5 _ he5 hR hs5 => ?_)
  · refine Code.wp_mono ?_ (runs_ov (w := onT v4 T 0))
    rintro e a' w'' ⟨k1, _, k3, k4⟩
    exact ⟨k1, k3, k4⟩
  obtain ⟨ht5, hv5⟩ := hR
  have hv5 : v5.heap = v4.heap.push (.cells #[.slice none 0 0] 23) := hv5
  obtain rfl := ht5
  have K5 := K4.piece (v' := v5) (w' := w5) (by rw [hv5]; simp) (fun x hx => by rw [hv5, Array.getElem?_push, if_neg (by omega)]) hs5 he5
  rw [hz4]
  have hz5 : v5.heap.size = N2 + 2 := by rw [hv5, Array.size_push, hz4]
  have hold : ∀ x, x < N2 → v5.heap[x]? = v2.heap[x]? := fun x hx => by
    rw [hv5, Array.getElem?_push, if_neg (by omega), hv4, Array.getElem?_push, if_neg (by omega), hv3]
  have hsb : v5.heap[N2]? = some (.cells zeros9 39) := by
    rw [hv5, Array.getElem?_push, if_neg (by omega), hv4, Array.getElem?_push, if_pos hN2]
  have hob : v5.heap[N2 + 1]? = some (.cells #[.slice none 0 0] 23) := by
    rw [hv5, Array.getElem?_push, if_pos hz4.symm]
  have hpvl : pvb < N2 := by have := block_lt_of_cell hpc2; simp only at this; omega
  have hpc5 : v5.cell? ⟨pvb, 0, none⟩ = some (.slice ro PS.length rc) := (World.cell?_of_block (a := ⟨pvb, 0, none⟩) (hold pvb hpvl)).trans hpc2
  have hsh : b1.shun pvb = false := (Sim.over K1.sim hP2.low).1
  have hWN : W.heap.size ≤ N2 := by have := K2.size; omega
  have hpw5 : w5.cell? ⟨pvb, 0, none⟩ = some (.slice ro PS.length rc) := (hs5.cell (a := ⟨pvb, 0, none⟩) hsh).symm.trans hpc5
  have hF : Off b1.shun w5 w5 := Off.refl _ _
  refine At.goes0 (n := 10) ?_
  u_c stepG_seq ro_off2 hF
  u_reg ro_off2 hF
  refine Goes.stop (fun wE q => ?_)
  replace hF := ro_off2 hF q
  clear q
  refine At.ld rfl rfl (by decide) (ad := ⟨pvb, 0, none⟩) (x := .slice ro PS.length rc) (by rw [hF.cell hsh]; exact hpw5) hsh (fun _ hv => ?_) ?_
  · exact ⟨by simp [go_sem, execOp, Act.eval, hv], by simp [go_sem, execOp, Act.eval, hv]⟩
  walk_nrm
  have HOLD := Lib.hid hold
  have HSB := Lib.hid hsb
  have HOB := Lib.hid hob
  have HPC2 := Lib.hid hpc2
  have HPC5 := Lib.hid hpc5
  have HPLN := Lib.hid hplans2
  have HP2 := Lib.hid hP2
  have HPKK := Lib.hid hpk2
  have HHS5 := Lib.hid hs5
  have HHPS := Lib.hid hPS
  have HHPL := Lib.hid hPL
  have HZ5 := Lib.hid hz5
  have HNN := Lib.hid hN2'
  clear hold hsb hob hv3 hv4 hv5 hpw5 hpc2 hpc5 hplans2 hP2 hpk2 hs5 hPS hPL hcell1 hcell2 hcell0 hs2 hs3 hs4 he2 he3 he4 hpk hsees hpv hz5 hz4 hN2 hN2'
  refine At.goes0 (n := 20) ?_
  u_op ro_off2 hF
  u_op ro_off2 hF
  u_op ro_off2 hF
  u_op ro_off2 hF
  refine Goes.stop (fun wE q => ?_)
  replace hF := ro_off2 hF q
  clear q
  refine At.list rfl (fun wD q => ⟨_, #[], stepG_call rfl rfl (by decide) rfl Try.func19 nm_run rfl, by simp, ?_⟩)
  replace hF := ro_off2 hF q
  clear q
  walk_nrm
  have hold := HOLD.out
  have hsb := HSB.out
  have hob := HOB.out
  have hpc2 := HPC2.out
  have hpc5 := HPC5.out
  have hplans2 := HPLN.out
  have hP2 := HP2.out
  have hpk2 := HPKK.out
  have hs5 := HHS5.out
  have hPS := HHPS.out
  have hPL := HHPL.out
  have hz5 := HZ5.out
  have hN2' := HNN.out
  have hrow5 : Plans (fun x => x < N2 + 2 ∧ x ≠ N2 + 1 ∧ x ≠ N2) v5 ro PS := hplans2.at (fun x hx => ⟨by omega, by omega, by omega⟩) fun x hx => hold x (by omega)
  have hov5 : v5.cell? ⟨N2 + 1, 0, none⟩ = some (.slice none 0 0) := by rw [cell_of_row _ _ _ _ _ _ hob]; rfl
  refine run_whole (J := RunsSt (N2 + 2) (N2 + 1) pvb N2 ro rc PS) (next := runsNext PS) (s0 := (fun _ => 0, [])) (O := fun x => x = N2 + 1 ∨ x = N2 ∨ ∃ ov, v5.cell? ⟨N2 + 1, 0, none⟩ = some ov ∧ ov.ownBlock = some x) (v := v5) (l := picks) (fun h8 => runs_step h8) Try.func20 nm_runs1 rfl (by rw [hz5]; exact RunsSt.still _ _ _ _ _ _ _) (by rw [K5.grew.ear]; rfl) (by rw [K5.grew.wait]; rfl) ?_ (fun x hx => ?_) (fun a ha => .any _) (hF.sim K5.sim) K5.even K5.tidy (fun i x hx => ?_) hnp (.any _) (by unfold maxLen; omega) h64 (fun b6 v6 w6 O6 mv E => ?_)
  · refine ⟨fun x => Iff.rfl, ⟨by omega, by omega, by omega, by omega, by omega, by omega⟩, by omega, ⟨_, hov5, Own.nil _ _⟩, Nat.zero_le _, hpc5, hrow5, fun t ht ht8 => ⟨?_, Nat.zero_le _⟩, fun i => ⟨by simp [World.frozen?, hob], by simp [World.frozen?, hsb]⟩⟩
    rw [cell_of_row _ _ _ _ _ _ hsb]
    have nine : t = 0 ∨ t = 1 ∨ t = 2 ∨ t = 3 ∨ t = 4 ∨ t = 5 ∨ t = 6 ∨ t = 7 := by omega
    rcases nine with rfl | rfl | rfl | rfl | rfl | rfl | rfl | rfl <;> rfl
  · rcases hx with rfl | rfl | ⟨ov, h1, h2⟩
    · obtain ⟨g1, g2⟩ := Sim.over K1.sim (x := N2 + 1) (by have := hP2.size; omega)
      exact ⟨g2, g1, by omega⟩
    · obtain ⟨g1, g2⟩ := Sim.over K1.sim (x := x) (by have := hP2.size; omega)
      exact ⟨g2, g1, by omega⟩
    · rw [hov5] at h1
      obtain rfl := Option.some.inj h1
      cases h2
  · obtain ⟨p, o, rfl, g2⟩ := hpk2.at2 hx
    have hpl := block_lt_of_cell g2
    simp only at hpl
    have g5 : v5.cell? ⟨p, o + i, none⟩ = some (.int .i64 x) := (World.cell?_of_block (a := ⟨p, o + i, none⟩) (hold p (by omega))).trans g2
    refine ⟨p, o, rfl, g5, fun h => ?_, hs5.lively g5⟩
    rcases h with h | h | ⟨ov, h1, h2⟩
    · omega
    · omega
    · rw [hov5] at h1
      obtain rfl := Option.some.inj h1
      cases h2
  obtain ⟨q1, q2⟩ := runs_play PS picks D2
  obtain ⟨MS, hMS⟩ : ∃ MS, MS = (playR PS picks D2).1 := ⟨_, rfl⟩
  obtain ⟨EE, hEE⟩ : ∃ EE, EE = (playR PS picks D2).2 := ⟨_, rfl⟩
  have hRR : playR PS picks D2 = (MS, EE) := by rw [hMS, hEE]
  have hMSl : MS.length < 1000000 := by rw [hMS]; exact playR_len _ _ _
  have hMT : ThL 8 MS := by rw [hMS]; exact thL_play _ _ _
  rw [hRR] at q1 q2
  obtain ⟨st, hst⟩ : ∃ st, st = (runR (runsNext PS) PS.length picks D2 (fun _ => 0, [])).1 := ⟨_, rfl⟩
  rw [q1, ← hst] at E
  rw [q1]
  rw [← hst] at q2
  clear hMS hEE
  have hOW : ∀ x, (x = N2 + 1 ∨ x = N2 ∨ ∃ ov, v5.cell? ⟨N2 + 1, 0, none⟩ = some ov ∧ ov.ownBlock = some x) → N2 ≤ x := fun x hx => by
    rcases hx with rfl | rfl | ⟨ov, h1, h2⟩
    · omega
    · omega
    · rw [hov5] at h1
      obtain rfl := Option.some.inj h1
      cases h2
  have K6 := K5.ended E fun x hx => Nat.le_trans hWN (hOW x hx)
  have same6 : ∀ x, x < N2 → v6.heap[x]? = v2.heap[x]? := fun x hx => (E.same x (by omega) (fun h => by have := hOW x h; omega)).trans (hold x hx)
  have up6 : ∀ a x, v2.cell? a = some x → v6.cell? a = some x := fun a x h => (World.cell?_of_block (a := a) (same6 a.block (by have := block_lt_of_cell h; omega))).trans h
  obtain ⟨mm, _, hJ⟩ := E.J
  obtain ⟨ov, o1, o2⟩ := hJ.order
  have q2 : st.2 = callsL MS := q2
  rw [q2] at o2
  obtain ⟨m1, c1, hmv, hsm, _⟩ := E.row.slice
  subst hmv
  have hz6 := E.size
  dsimp only
  rw [Frame.finish_at]
  walk_nrm
  have hF : Off b6.shun w6 w6 := Off.refl _ _
  refine At.goes0 (n := 60) ?_
  u_op ro_off2 hF
  u_op ro_off2 hF
  u_op ro_off2 hF
  u_op ro_off2 hF
  u_op ro_off2 hF
  u_c stepG_region_end ro_off2 hF
  refine Goes.stop (fun wE q => ?_)
  replace hF := ro_off2 hF q
  clear q
  have hrest := @runs_rest
  have lrest := restR_lone
  simp only [restRuns, bodyRuns, Try.f5, Option.getD_some] at hrest
  simp only [restRuns, bodyRuns, Try.f5, Option.getD_some] at lrest
  refine At.rest (M := bare) (R := fun a' w' => a'.tmps.getD 6 undef = .bool true ∧ v6.heap.size ≤ w'.heap.size ∧ ∀ x, x < v6.heap.size → w'.heap[x]? = v6.heap[x]?) lones_fun ⟨_, Try.func5⟩ lrest (slots_of fun x hx => .any _) K6.even (hF.sim K6.sim) (fun T => ?_) (fun t' v8 T d w8 todo _ he8 hR hs8 => ?_)
  · refine Code.wp_mono ?_ (hrest (w := onT v6 T 0) (L := cutL L) (picks := picks) (MS := MS) (N := N2 + 2) (ov := ov) hPL.symm (hP2.sees.cells up6) (fun p o e => by have := hP2.row p o e; show p < v6.heap.size; omega) (hP2.pvs.cells up6) (hpk2.cellsOf up6) hnp hnpm h64 (up6 _ _ hpc2) o1 o2 (by rw [← hPS]; exact hRR) rfl hMSl hsm hMT)
    rintro e a' w'' ⟨k1, k2, k3⟩
    exact ⟨k1, k2, k3.size, k3.block⟩
  obtain ⟨k2, k3, k4⟩ := hR
  have k2 : t'.getD 6 undef = .bool true := k2
  have K8 := K6.piece (v' := v8) (w' := w8) k3 k4 hs8 he8
  refine At.finish (r := 6) (K8.grew.ear) (fun i => ?_) inits_runs rfl rfl Try.func5 rfl fun w₁ o k => ?_
  · rw [K8.grew.role]; rfl
  · show Post (t'.getD 6 undef) w₁
    rw [k2]
    exact fin w₁ (K8.kept o k)
end
end Go.Proofs.Ytaiinkeendejdaa
