/-
  SCHED: Run's end: the bell, the wait, the answer. No condition.
-/
import Derived.Test.YtaiinkeendejdaaSchDrain
import Derived.Conc.TokenWalk
namespace Go.Proofs.Ytaiinkeendejdaa
open Go.RowKit Go.Conc Go.ConcR.Gen Go.ConcN.Gen
open Go.ConcN (sumTo upd sumTo_upd upd_ne upd_same WgLive)
set_option maxRecDepth 100000
theorem nm_wait : ((Try.f35).name == "runtime.NumGoroutine") = false := by kernel_rfl
theorem quiet_run : (Try.prog.funcs[19]?).any (·.norace) = false := by kernel_rfl
/-- what is so when a Run has ended: N₀ blocks stood at its start -/
structure Ended {σ : Type} (b0 : Bd) (v0 : World) (O0 : Nat → Prop) (N₀ : Nat) (J : Nat → σ → (Nat → Prop) → World → Prop) (s : σ) (ms : List Mk) (b : Bd) (v w : World) (O : Nat → Prop) (mv : Value) : Prop where
  grew : Grew b0 b N₀
  tidy : Tidy b v.heap.size
  J : ∃ m, m ≤ ms.length ∧ J m s O v
  own : OwnO b v.heap.size O
  grow : ∀ x, O x → O0 x ∨ N₀ ≤ x
  same : ∀ x, x < N₀ → ¬ O0 x → v.heap[x]? = v0.heap[x]?
  sim : Sim b.shun b.F v w
  even : Even (ZT b.shun v.heap.size) v
  row : OwnM v N₀ mv ms
  apart : ∀ g, mv.ownBlock = some g → ¬ O g
  open_ : ∀ g, mv.ownBlock = some g → b.F g = 0
  size : N₀ ≤ v.heap.size
/-- which roles there are when the bell has rung -/
noncomputable def rungRole (r : Rn) (b : Bd) (e : Nat → Bool) (i : Nat) : Role :=
  if r.i0 ≤ i ∧ i < r.i0 + r.n ∧ e (i - r.i0) = false then .leave r.Wg (r.seat (i - r.i0)) (r.kn (i - r.i0)) (r.bd (i - r.i0)) r.stop 1 (.int .i64 0) else b.role i
section
variable {Post : Value → World → Prop} {h : Nat}
theorem close_run {σ : Type} {r : Rn} {b0 b : Bd} {v0 v w : World} {O0 O : Nat → Prop} {J : Nat → σ → (Nat → Prop) → World → Prop} {m : Nat} {s : σ} {e : Nat → Bool} {ms : List Mk} {D : Nat} {c : Frame} {cs : List Frame}
    (hJS : JStill r.N₀ J) (hear : b0.ear = true) (hwt : b0.wait = none) (h0 : 0 < r.n) (ht0 : Tidy b0 r.N₀) (hup : ∀ j, b0.n ≤ j → b0.role j = .mute) (K : RunSt r b0 v0 O0 J b v w O m s e ms)
    (fin : ∀ b' v' w' mv, Ended b0 v0 O0 r.N₀ J s ms b' v' w' O mv → At Try.prog 64 Post b' h (G (c.finish (.tuple #[mv, .int .i64 0])) cs) w') (x1 x2 x4 x5 x6 x7 x10 x14 x15 x16 x17 x18 x19 x20 x21 x22 x23 x24 x25 x26 x27 x28 x29 x30 x31 x32 x33 x34 x35 x36 x37 x38 x39 x40 x41 x42 x43 x44 x45 x46 x47 x48 x49 x50 x51 x52 x53 x54 x55 x56 x57 x58 x59 x60 x61 x62 x63 x64 x65 x66 x67 x68 x69 x70 x71 x72 x73 x74 x75 x76 x77 x78 x79 x80 x81 x82 x83 x84 x85 x86 : Value) :
    At Try.prog 64 Post b h (runAt #[.int .i64 (r.n : Nat), x1, x2, .int .i64 (D : Nat), x4, x5, x6, x7, .slice none 0 0, .int .i64 0, x10, .pointer (some ⟨r.sv, 0, none⟩), .pointer (some ⟨r.Wg, 0, none⟩), .pointer (some ⟨r.rb, 0, none⟩), x14, x15, x16, x17, x18, x19, x20, x21, x22, x23, x24, x25, x26, x27, x28, x29, x30, x31, x32, x33, x34, x35, x36, x37, x38, x39, x40, x41, x42, x43, x44, x45, x46, x47, x48, x49, x50, x51, x52, x53, x54, x55, x56, x57, x58, x59, x60, x61, x62, x63, x64, x65, x66, x67, x68, x69, x70, x71, x72, x73, x74, x75, x76, x77, x78, x79, x80, x81, x82, x83, x84, x85, x86] [.code tailClose] (c :: cs)) w := by
  have Q := K.ok
  have T := Q.thr 0 h0
  have hB := Q.size
  have hsv := T.keep (⟨r.sv, 0, none⟩, .chan (some r.stop)) (by simp [Rn.kn, knLive])
  obtain ⟨⟨z, hch⟩, hcs, hcr, hcO, hcN⟩ := T.chan r.stop (.inr (.inr rfl))
  have hF : Off b.shun w w := Off.refl _ _
  have hchw : w.heap[r.stop]? = some (.chan 0 #[] false z z false) := by rw [← K.sim.heap r.stop hcs (sim_F K.sim hch rfl)]; exact hch
  have hsvw : w.cell? ⟨r.sv, 0, none⟩ = some (.chan (some r.stop)) := (K.sim.cell (a := ⟨r.sv, 0, none⟩) hsv.2.2.2.2.1).symm.trans hsv.1
  obtain ⟨mv, m1, m2, m3⟩ := Q.marks
  simp only [runAt, tailClose, tailDrain, tailPicks, bodyRun, Try.f19, Option.getD_some]
  refine At.goes0 (n := 10) ?_
  u_c stepG_seq ro_off2 hF
  u_reg ro_off2 hF
  refine Goes.stop (fun wA q => ?_)
  replace hF := ro_off2 hF q
  clear q
  refine At.ld rfl rfl (by decide) (ad := ⟨r.sv, 0, none⟩) (x := .chan (some r.stop)) (by rw [hF.cell hsv.2.2.2.2.1]; exact hsvw) hsv.2.2.2.2.1 (fun _ hv => ?_) ?_
  · exact ⟨by simp [go_sem, execOp, Act.eval, hv], by simp [go_sem, execOp, Act.eval, hv]⟩
  walk_nrm
  refine At.close (c := r.stop) (k := z) (role' := rungRole r b e) rfl (by rfl) (by simp [mayWake, G, Frame.at]) hcs hcr (by rw [hF.heap _ hcs]; exact hchw) (fun w₁ q => stepG_close rfl rfl (by decide) rfl rfl (by rw [q.off.heap _ hcs, hF.heap _ hcs]; exact hchw) quiet_run) (fun i => ?_) ?_
  · unfold Rings rungRole
    by_cases hi : r.i0 ≤ i ∧ i < r.i0 + r.n
    · obtain ⟨k, rfl⟩ : ∃ k, i = r.i0 + k := ⟨i - r.i0, by omega⟩
      have hk : k < r.n := by omega
      have Tk := Q.thr k hk
      rw [show r.i0 + k - r.i0 = k by omega]
      cases he : e k with
      | true =>
        rw [if_neg (by simp)]
        refine .inl ⟨rfl, fun st s' hs' => ?_⟩
        rw [Tk.role, he] at hs'
        exact left_none hs'
      | false =>
        rw [if_pos ⟨hi.1, hi.2, rfl⟩]
        refine .inr ⟨r.seat k, r.kn k, r.bd k, r.Wg, 1, .int .i64 0, r.i0, r.i0 + r.n, 0, ?_, rfl, rfl, by have := Q.pos; omega, by rw [Q.wg, upd_same], hi.1, hi.2, fun g₂ hg₂ => live_bell g₂ hg₂⟩
        have := Tk.role
        rw [he] at this
        exact this
    · rw [if_neg (fun h => hi ⟨h.1, h.2.1⟩)]
      refine .inl ⟨rfl, fun st s' hs' hc' => ?_⟩
      rw [Q.role i hi] at hs'
      have := ht0.seat i st s' hs' _ hc'
      omega
  walk_nrm
  have hs2 : Sim b.shun b.F (v.setChan r.stop 0 #[] true z z false) (World.setChan wA r.stop 0 #[] true z z false) := (hF.sim K.sim).setChan (sim_F K.sim hch rfl) (K.sim.open_ hch rfl rfl) _ _ _ _ _ _
  generalize World.setChan wA r.stop 0 #[] true z z false = w2 at hs2 ⊢
  obtain ⟨b1, hb1⟩ : ∃ b1, b1 = ({ b with role := rungRole r b e, rung := upd b.rung r.stop true } : Bd) := ⟨_, rfl⟩
  rw [← hb1]
  have hF : Off b1.shun w2 w2 := Off.refl _ _
  have h1ear : b1.ear = true := by rw [hb1]; exact Q.ear.trans hear
  have h1wt : b1.wait = none := by rw [hb1]; exact Q.wait.trans hwt
  have h1wg : b1.wg r.Wg = some (r.i0, r.i0 + r.n, 0) := by rw [hb1]; show b.wg r.Wg = _; rw [Q.wg, upd_same]
  have h1all : AllLeave b1 r.Wg r.i0 (r.i0 + r.n) := fun i h1 h2 => by
    rw [hb1]
    show ∃ s kn B c kk z, rungRole r b e i = _
    unfold rungRole
    by_cases he : e (i - r.i0) = false
    · rw [if_pos ⟨h1, h2, he⟩]
      exact ⟨_, _, _, _, _, _, rfl⟩
    · rw [if_neg fun h => he h.2.2]
      have := (Q.thr (i - r.i0) (by omega)).role
      rw [show r.i0 + (i - r.i0) = i by omega] at this
      rw [this, if_pos (by simpa using he)]
      exact ⟨_, _, _, _, _, _, rfl⟩
  have hsize : (v.setChan r.stop 0 #[] true z z false).heap.size = v.heap.size := size_setChan _ _ _ _ _ _ _ _
  have hne : ∀ x, x ≠ r.stop → (v.setChan r.stop 0 #[] true z z false).heap[x]? = v.heap[x]? := fun x hx => setChan_ne hx _ _ _ _ _ _
  have heven : Even (ZT b.shun (v.setChan r.stop 0 #[] true z z false).heap.size) (v.setChan r.stop 0 #[] true z z false) := by rw [hsize]; exact even_setChan K.even _ _ _ _ _ _ _
  generalize v.setChan r.stop 0 #[] true z z false = v2 at hs2 hsize hne heven
  refine At.goes0 (n := 10) ?_
  u_c stepG_region_end ro_off2 hF
  u_c stepG_seq ro_off2 hF
  u_reg ro_off2 hF
  refine Goes.stop (fun _ q => ?_)
  replace hF := ro_off2 hF q
  clear q
  refine At.list rfl (fun wB q => ⟨_, #[], stepG_call rfl rfl (by decide) rfl Try.func35 nm_wait rfl, by simp, ?_⟩)
  replace hF := ro_off2 hF q
  clear q
  rw [enter_at _ Try.func35 rfl]
  walk_nrmf Try.f35
  have hW := @waitB Try.prog link Post b1 h wgLib r.Wg r.i0 (r.i0 + r.n) h1ear h1wt h1wg h1all
  simp only [link] at hW
  refine hW ?_
  walk_nrm
  obtain ⟨b2, hb2⟩ : ∃ b2, b2 = b1.joined r.Wg r.i0 (r.i0 + r.n) := ⟨_, rfl⟩
  rw [← hb2]
  have e_shun : b2.shun = b.shun := by rw [hb2, hb1]; rfl
  have e_F : b2.F = b.F := by rw [hb2, hb1]; rfl
  have hwg0 : b0.wg r.Wg = none := by
    cases hx : b0.wg r.Wg with
    | none => rfl
    | some y =>
      have := ht0.wg r.Wg (by rw [hx]; simp)
      have := Q.wgS.2.2
      omega
  have e_role : b2.role = b0.role := by
    funext i
    rw [hb2, hb1]
    show (if r.i0 ≤ i ∧ i < r.i0 + r.n then Role.mute else rungRole r b e i) = _
    split
    · rename_i hi
      exact (hup i (by have := Q.num.2; omega)).symm
    · rename_i hi
      unfold rungRole
      rw [if_neg fun h => hi ⟨h.1, h.2.1⟩]
      exact Q.role i hi
  have e_wg : b2.wg = b0.wg := by
    funext x
    rw [hb2, hb1]
    show upd b.wg r.Wg none x = _
    rw [Q.wg]
    by_cases hx : x = r.Wg
    · subst hx; rw [upd_same, hwg0]
    · rw [upd_ne _ _ hx, upd_ne _ _ hx]
  have e_rung : ∀ x, x ≠ r.stop → b2.rung x = b.rung x := fun x hx => by
    rw [hb2, hb1]
    show upd b.rung r.stop true x = _
    rw [upd_ne _ _ hx]
  have e_n : b2.n = b.n := by rw [hb2, hb1]; rfl
  have e_wait : b2.wait = b0.wait := by rw [hb2, hb1]; exact Q.wait
  have e_old : b2.oldN = b0.oldN ∧ b2.old = b0.old := by rw [hb2, hb1]; exact Q.old
  have e_ear : b2.ear = b0.ear := by rw [hb2, hb1]; exact Q.ear
  have hF2 : Off b2.shun w2 wB := by
    have : b1.shun = b2.shun := by rw [e_shun, hb1]
    rw [← this]; exact hF
  clear hF
  have hF := hF2
  rw [← e_shun, ← e_F] at hs2
  rw [← e_shun] at heven
  have hl0 := Q.low.2.2.2.2.1
  have hrbs : b2.shun r.rb = false := by rw [e_shun]; exact Q.open_.1
  have hrbl : r.rb < v.heap.size := Nat.lt_of_lt_of_le Q.low.1 hB
  have hrbn : r.rb ≠ r.stop := fun h1 => by
    have h2 := Q.list
    unfold World.cell? at h2
    simp only [h1, hch] at h2
    cases h2
  have hmv2 : v2.cell? ⟨r.rb, 1, none⟩ = some mv := (cell_same (a := ⟨r.rb, 1, none⟩) (hne _ hrbn)).trans m1
  have hmvw : w2.cell? ⟨r.rb, 1, none⟩ = some mv := (hs2.cell (a := ⟨r.rb, 1, none⟩) hrbs).symm.trans hmv2
  have hdone : Ended b0 v0 O0 r.N₀ J s ms b2 v2 w2 O mv := by
    refine ⟨⟨by rw [e_n]; have := Q.num; omega, e_role, fun x hx => by rw [e_F]; exact Q.F x hx, fun x => by rw [e_F]; exact Q.Fle x, fun x hx => by rw [e_shun]; exact Q.shun x hx, fun x hx => by rw [e_rung x (by omega)]; exact Q.rung x hx, e_wg, e_wait, e_ear, e_old⟩,
      ⟨fun x st s' hs' c' hc' => ?_, fun x hx => ?_, fun x hx => ?_⟩, ⟨m, K.m, hJS _ _ _ _ _ K.J fun x hx => hne x ?_⟩, fun x hx => by rw [e_F, e_shun, hsize]; exact K.own x hx, K.grow, fun x h1 h2 => (hne x (by omega)).trans (K.same x h1 h2), hs2, heven, ?_, m3, fun g hg => ?_, by omega⟩
    · rw [e_role] at hs'
      have := ht0.seat x st s' hs' c' hc'
      omega
    · rw [e_wg] at hx
      have := ht0.wg x hx
      omega
    · by_cases hxs : x = r.stop
      · rw [hxs, hsize]; exact (Array.getElem?_eq_some_iff.1 hch).1
      · rw [e_rung x hxs] at hx
        rw [hsize]; exact K.tidy.rung x hx
    · rintro rfl
      rcases hx with hx | hx
      · omega
      · exact hcO hx
    · have := m2.at (w' := v2) fun g hg => hne g fun hgs => ?_
      · exact this.lower hl0
      · obtain ⟨_, hm2⟩ := m2
        rcases hm2 with ⟨e1, _⟩ | ⟨g', cap', cur, hv, _, hh, _⟩
        · rw [e1] at hg; cases hg
        · rw [hv] at hg
          obtain rfl : g' = g := by simpa [Value.ownBlock] using hg
          rw [hgs, hch] at hh; cases hh
    · obtain ⟨cur, cap, hv, hh⟩ := m2.heap hg
      have hgs : g ≠ r.stop := fun e1 => by rw [e1, hch] at hh; cases hh
      by_cases hf : b2.F g = 0
      · exact hf
      · exfalso
        obtain ⟨_, c1, t1, h1, _⟩ := hs2.ice g hf
        rw [hne g hgs, hh] at h1
        injection h1 with h1
        injection h1 with _ _ h1
        exact hf (congrArg Prod.snd h1).symm
  refine At.goes0 (n := 10) ?_
  u_c stepG_region_end ro_off2 hF
  u_c stepG_seq ro_off2 hF
  u_reg ro_off2 hF
  u_op ro_off2 hF
  u_op ro_off2 hF
  u_op ro_off2 hF
  refine Goes.stop (fun wC q => ?_)
  replace hF := ro_off2 hF q
  clear q
  refine At.ld rfl rfl (by decide) (ad := ⟨r.rb, 1, none⟩) (x := mv) (by rw [hF.cell hrbs]; exact hmvw) hrbs (fun _ hv => ?_) ?_
  · exact ⟨by simp [go_sem, execOp, Act.eval, hv], by simp [go_sem, execOp, Act.eval, hv]⟩
  walk_nrm
  refine At.goes0 (n := 10) ?_
  u_op ro_off2 hF
  u_op ro_off2 hF
  u_c stepG_region_end ro_off2 hF
  u_c stepG_ret' ro_off2 hF
  refine Goes.stop (fun wD q => ?_)
  replace hF := ro_off2 hF q
  clear q
  refine At.list rfl fun w₁ q => ⟨_, #[], stepG_leave rfl rfl Try.func19 (results_tmp2 rfl _ _ w₁) (events_results_tmp2 rfl _ _), by simp, ?_⟩
  exact fin b2 v2 w₁ mv { hdone with sim := (ro_off2 hF q).sim hdone.sim }
end
end Go.Proofs.Ytaiinkeendejdaa

