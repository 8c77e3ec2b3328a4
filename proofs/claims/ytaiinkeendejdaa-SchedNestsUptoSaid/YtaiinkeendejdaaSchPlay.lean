/-
  SCHED: Play, every call, in company. No condition.
-/
import Derived.Test.YtaiinkeendejdaaSchPlayC
namespace Go.Proofs.Ytaiinkeendejdaa
open Go.RowKit Go.Conc Go.ConcR.Gen Go.ConcN.Gen
open Go.ConcN (sumTo upd sumTo_upd upd_ne upd_same WgLive)
set_option maxRecDepth 100000
/-- what Play answers: the marks, the error -/
def playR (ps : List (List Int)) (l : List Int) (D : Int) : List Mk × Int := (runR (planNext ps) ps.length l D fun _ => 0).2
/-- behind a call that made what it answers, and turned nothing that stood -/
structure Done (b : Bd) (v : World) (b' : Bd) (v' w' : World) (mv : Value) (ms : List Mk) : Prop where
  grew : Grew b b' v.heap.size
  tidy : Tidy b' v'.heap.size
  same : ∀ x, x < v.heap.size → v'.heap[x]? = v.heap[x]?
  sim : Sim b'.shun b'.F v' w'
  even : Even (ZT b'.shun v'.heap.size) v'
  row : OwnM v' v.heap.size mv ms
  open_ : ∀ g, mv.ownBlock = some g → b'.F g = 0
  size : v.heap.size ≤ v'.heap.size
def maskP0 : FuncId → Nat → Bool := fun _ i => decide (¬ i ∈ ([0, 3, 6, 7] : List Nat))
def maskP1 : FuncId → Nat → Bool := fun _ i => decide (¬ i ∈ ([3, 8, 9, 10, 11] : List Nat))
theorem p0_lone : codeC (opW Try.prog (fun _ => false) (maskP0 0)) codeP0 = true := by kernel_rfl
theorem p1_lone : codeC (opW Try.prog (fun _ => false) (maskP1 0)) codeP1 = true := by kernel_rfl
theorem nm_run : ((Try.f19).name == "runtime.NumGoroutine") = false := by kernel_rfl
theorem nm_play1 : ((Try.f23).name == "runtime.NumGoroutine") = false := by kernel_rfl
section
variable {Post : Value → World → Prop} {h : Nat}
set_option maxHeartbeats 1000000 in
theorem play_whole {b : Bd} {v w : World} {qa pa : Option Addr} {qn qc np pc : Nat} {ps : List (List Int)} {l : List Int} {D : Int} {c : Frame} {cs : List Frame}
    (hear : b.ear = true) (hwt : b.wait = none) (hs : Sim b.shun b.F v w) (he : Even (ZT b.shun v.heap.size) v) (hty : Tidy b v.heap.size)
    (hps : Plans (fun x => x < v.heap.size) v qa ps) (hqn : ps.length = qn) (hq9 : qn ≤ 100000) (hqz : NoZ (ZT b.shun v.heap.size) (.slice qa qn qc))
    (hpz : NoZ (ZT b.shun v.heap.size) (.slice pa np pc)) (hP : ∀ (i : Nat) x, l[i]? = some x → ∃ p o, pa = some ⟨p, o, none⟩ ∧ v.cell? ⟨p, o + i, none⟩ = some (.int .i64 x)) (hl : l.length = np) (hnm : np ≤ maxLen) (h64 : ∀ x ∈ l, -9223372036854775808 ≤ x ∧ x ≤ 9223372036854775807)
    (fin : ∀ b' v' w' mv, Done b v b' v' w' mv (playR ps l D).1 → At Try.prog 64 Post b' h (G (c.finish (.tuple #[mv, .int .i64 (playR ps l D).2])) cs) w') :
    At Try.prog 64 Post b h (G (Frame.enter Try.prog 12 #[.slice qa qn qc, .slice pa np pc, .int .i64 D] .normal) (c :: cs)) w := by
  have hp0 := @p0_wp
  have hp1 := @p1_wp
  have l0 := p0_lone
  have l1 := p1_lone
  simp only [codeP0, codeP1, bodyPlay, Try.f12, Option.getD_some] at hp0 hp1 l0 l1
  rw [enter_at _ Try.func12 rfl]
  walk_nrmf Try.f12
  have hF : Off b.shun w w := Off.refl _ _
  refine At.goes0 (n := 10) ?_
  u_c stepG_seq ro_off2 hF
  refine Goes.stop (fun wA q => ?_)
  replace hF := ro_off2 hF q
  clear q
  obtain ⟨N, hN⟩ : ∃ N, N = v.heap.size := ⟨_, rfl⟩
  have nZ : ∀ x, N ≤ x → b.shun x = false := fun x hx => by
    cases e : b.shun x with
    | false => rfl
    | true => have := hs.low x e; rw [← hs.size] at this; omega
  have nF : ∀ x, N ≤ x → b.F x = 0 := fun x hx => by
    by_cases hf : b.F x = 0
    · exact hf
    · have := hs.iceLow hf
      rw [← hs.size] at this
      omega
  refine At.piece (M := maskP0) (R := fun a' w' => a'.tmps = #[.slice qa qn qc, .slice pa np pc, .int .i64 D, .pointer (some ⟨v.heap.size, 0, none⟩), undef, undef, .slice none 0 0, .int .i64 0, undef, undef, undef, undef, undef, undef, undef, undef, undef, undef, undef, undef] ∧ w'.heap = v.heap.push (.cells #[.slice qa qn qc] 22)) nobody ⟨_, Try.func12⟩ l0 ?_ he (hF.sim hs) (fun T => ?_) (fun t1 v1 T d0 w1 _ he1 hR1 hs1 => ?_)
  · intro i y hi hy
    have hi : i ∈ ([0, 3, 6, 7] : List Nat) := Classical.not_not.1 (of_decide_eq_false hi)
    simp only [List.mem_cons, List.not_mem_nil, or_false] at hi
    rcases hi with rfl | rfl | rfl | rfl
    all_goals obtain rfl := Option.some.inj hy
    · exact hqz
    all_goals exact undef_ok
  · refine Code.wp_mono ?_ (hp0 (v := onT v T 0))
    rintro e a' w' ⟨g1, _, g2, g3⟩
    exact ⟨g1, g2, g3⟩
  obtain ⟨ht1, hv1⟩ := hR1
  have hv1 : v1.heap = v.heap.push (.cells #[.slice qa qn qc] 22) := hv1
  obtain rfl := ht1
  rw [← hN]
  have hsz1 : v1.heap.size = N + 1 := by rw [hv1, Array.size_push, hN]
  have hpv1 : v1.cell? ⟨N, 0, none⟩ = some (.slice qa qn qc) := by
    have : v1.heap[N]? = some (.cells #[.slice qa qn qc] 22) := by rw [hv1, hN, Array.getElem?_push, if_pos rfl]
    unfold World.cell?
    simp only [this]
    rfl
  have HNN := Lib.hid hN
  clear hN
  have hF : Off b.shun w1 w1 := Off.refl _ _
  refine At.goes0 (n := 10) ?_
  u_c stepG_seq ro_off2 hF
  refine Goes.stop (fun wB q => ?_)
  replace hF := ro_off2 hF q
  clear q
  refine At.piece (M := maskP1) (R := fun a' w' => a'.tmps = #[.slice qa qn qc, .slice pa np pc, .int .i64 D, .pointer (some ⟨N, 0, none⟩), undef, undef, .slice none 0 0, .int .i64 0, .pointer (some ⟨v1.heap.size + 1, 0, none⟩), .slice qa qn qc, .int .i64 (qn : Nat), .slice (some ⟨v1.heap.size, 0, none⟩) qn qn, undef, undef, undef, undef, undef, undef, undef, undef] ∧ w'.heap = (v1.heap.push (.cells (zerosI qn) 3)).push (.cells #[.slice (some ⟨v1.heap.size, 0, none⟩) qn qn] 23)) nobody ⟨_, Try.func12⟩ l1 ?_ he1 (hF.sim hs1) (fun T => ?_) (fun t2 v2 T d0 w2 _ he2 hR2 hs2 => ?_)
  · intro i y hi hy
    have hi : i ∈ ([3, 8, 9, 10, 11] : List Nat) := Classical.not_not.1 (of_decide_eq_false hi)
    simp only [List.mem_cons, List.not_mem_nil, or_false] at hi
    rcases hi with rfl | rfl | rfl | rfl | rfl
    all_goals obtain rfl := Option.some.inj hy
    · exact .any _
    all_goals exact undef_ok
  · refine Code.wp_mono ?_ (hp1 (v := onT v1 T 0) hq9 hpv1)
    rintro e a' w' ⟨g1, _, g2, g3⟩
    exact ⟨g1, g2, g3⟩
  obtain ⟨ht2, hv2⟩ := hR2
  have hv2 : v2.heap = (v1.heap.push (.cells (zerosI qn) 3)).push (.cells #[.slice (some ⟨v1.heap.size, 0, none⟩) qn qn] 23) := hv2
  obtain rfl := ht2
  rw [hsz1] at hv2 ⊢
  have hsz2 : v2.heap.size = N + 3 := by rw [hv2, Array.size_push, Array.size_push, hsz1]
  have hold2 : ∀ x, x < N + 1 → v2.heap[x]? = v1.heap[x]? := fun x hx => by
    rw [hv2, Array.getElem?_push, Array.size_push, hsz1, if_neg (by omega), Array.getElem?_push, hsz1, if_neg (by omega)]
  have hold : ∀ x, x < N → v2.heap[x]? = v.heap[x]? := fun x hx => by
    have hx2 : x ≠ v.heap.size := by have := HNN.out; omega
    rw [hold2 x (by omega), hv1, Array.getElem?_push, if_neg hx2]
  have hab2 : v2.heap[N + 1]? = some (.cells (zerosI qn) 3) := by
    rw [hv2, Array.getElem?_push, Array.size_push, hsz1, if_neg (by omega), Array.getElem?_push, hsz1, if_pos rfl]
  have hav2 : v2.cell? ⟨N + 1 + 1, 0, none⟩ = some (.slice (some ⟨N + 1, 0, none⟩) qn qn) := by
    have : v2.heap[N + 1 + 1]? = some (.cells #[.slice (some ⟨N + 1, 0, none⟩) qn qn] 23) := by
      rw [hv2, Array.getElem?_push, Array.size_push, hsz1, if_pos rfl]
    unfold World.cell?
    simp only [this]
    rfl
  have hpv2 : v2.cell? ⟨N, 0, none⟩ = some (.slice qa qn qc) := (cell_same (a := ⟨N, 0, none⟩) (hold2 N (by omega))).trans hpv1
  have hpw2 : w2.cell? ⟨N, 0, none⟩ = some (.slice qa qn qc) := (hs2.cell (a := ⟨N, 0, none⟩) (nZ N (Nat.le_refl _))).symm.trans hpv2
  have hF : Off b.shun w2 w2 := Off.refl _ _
  refine At.goes0 (n := 10) ?_
  u_c stepG_seq ro_off2 hF
  u_reg ro_off2 hF
  refine Goes.stop (fun wB q => ?_)
  replace hF := ro_off2 hF q
  clear q
  refine At.ld rfl rfl (by decide) (ad := ⟨N, 0, none⟩) (x := .slice qa qn qc) (by rw [hF.cell (nZ N (Nat.le_refl _))]; exact hpw2) (nZ N (Nat.le_refl _)) (fun _ hv => ?_) ?_
  · exact ⟨by simp [go_sem, execOp, Act.eval, hv], by simp [go_sem, execOp, Act.eval, hv]⟩
  walk_nrm
  refine At.goes0 (n := 20) ?_
  u_op ro_off2 hF
  u_op ro_off2 hF
  u_op ro_off2 hF
  u_op ro_off2 hF
  refine Goes.stop (fun wC q => ?_)
  replace hF := ro_off2 hF q
  clear q
  refine At.list rfl (fun wD q => ⟨_, #[], stepG_call rfl rfl (by decide) rfl Try.func19 nm_run rfl, by simp, ?_⟩)
  replace hF := ro_off2 hF q
  clear q
  walk_nrm
  subst hqn
  have hrow2 : Plans (fun x => x < N + 3 ∧ x ≠ N + 1) v2 qa ps := hps.at (fun x hx => ⟨by have := HNN.out; omega, by have := HNN.out; omega⟩) fun x hx => hold x (by have := HNN.out; omega)
  have z2 : ∀ {x}, NoZ (ZT b.shun v.heap.size) x → NoZ (ZT b.shun v2.heap.size) x := fun {x} hx => hx.mono (ZT_le (by have := HNN.out; omega))
  refine run_whole (J := fun (_ : Nat) s O v => PlanSt (N + 3) (N + 1 + 1) N (N + 1) qa qc ps s O v) (next := planNext ps) (s0 := fun _ => 0) (O := fun x => x = N + 1) (v := v2) (l := l) (fun h8 => plan_step h8) Try.func23 nm_play1 rfl (by rw [hsz2]; exact PlanSt.still _ _ _ _ _ _ _) hear hwt ?_ (fun x hx => ?_) (fun a ha => ?_) (hF.sim hs2) he2 ⟨fun x st s' h1 c' h2 => ?_, fun x hx => ?_, fun x hx => ?_⟩ (fun i x hx => ?_) hl (z2 hpz) hnm h64 (fun b' v' w' O' mv E => ?_)
  · refine ⟨fun x => Iff.rfl, ⟨by omega, by omega, by omega, by omega, by omega⟩, hav2, hpv2, hrow2, fun t ht => ⟨?_, ?_, Nat.zero_le _⟩⟩
    · unfold World.cell?
      simp only [hab2]
      exact zerosI_at ht
    · unfold World.frozen?
      simp only [hab2]
      simp
  · subst hx
    exact ⟨nF _ (by omega), nZ _ (by omega), by omega⟩
  · simp only [List.mem_toArray, List.mem_cons, List.not_mem_nil, or_false] at ha
    rcases ha with rfl | rfl
    · exact .any _
    · exact .any _
  · have := hty.seat x st s' h1 c' h2; have := HNN.out; omega
  · have := hty.wg x hx; have := HNN.out; omega
  · have := hty.rung x hx; have := HNN.out; omega
  · obtain ⟨p, o, rfl, g2⟩ := hP i x hx
    have hpl : p < N := by have := HNN.out; have := lt_of_cell g2; simp only at this; omega
    exact ⟨p, o, rfl, (cell_same (a := ⟨p, o + i, none⟩) (hold p hpl)).trans g2, by omega, hs.lively g2⟩
  · rw [Frame.finish_at]
    walk_nrm
    have hF : Off b'.shun w' w' := Off.refl _ _
    have hD : Done b v b' v' w' mv (playR ps l D).1 := by
      have hNN := HNN.out
      refine ⟨⟨E.grew.n, E.grew.role, fun x hx => E.grew.F x (by omega), E.grew.Fle, fun x hx => E.grew.shun x (by omega), fun x hx => E.grew.rung x (by omega), E.grew.wg, E.grew.wait, E.grew.ear, E.grew.old⟩, E.tidy, fun x hx => (E.same x (by omega) (by omega)).trans (hold x (by omega)), E.sim, E.even, E.row.lower (by omega), E.open_, by have := E.size; omega⟩
    refine At.goes0 (n := 20) ?_
    u_op ro_off2 hF
    u_op ro_off2 hF
    u_op ro_off2 hF
    u_op ro_off2 hF
    u_c stepG_region_end ro_off2 hF
    u_c stepG_ret' ro_off2 hF
    refine Goes.stop (fun wE q => ?_)
    replace hF := ro_off2 hF q
    clear q
    refine At.list rfl fun w₁ q => ⟨_, #[], stepG_leave rfl rfl Try.func12 (results_tmp2 rfl _ _ w₁) (events_results_tmp2 rfl _ _), by simp, ?_⟩
    exact fin b' v' w₁ mv { hD with sim := (ro_off2 hF q).sim hD.sim }
end
end Go.Proofs.Ytaiinkeendejdaa

