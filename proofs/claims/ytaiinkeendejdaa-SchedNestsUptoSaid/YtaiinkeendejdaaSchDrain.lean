/-
  SCHED: Run's drain, in company. No condition.
-/
import Derived.Test.YtaiinkeendejdaaSchRunBody
namespace Go.Proofs.Ytaiinkeendejdaa
open Go.RowKit Go.Conc Go.ConcR.Gen Go.ConcN.Gen
open Go.ConcN (sumTo upd sumTo_upd upd_ne upd_same WgLive)
set_option maxRecDepth 100000
/-- what a drain makes of state, ends, marks -/
def drainS {σ : Type} (next : σ → Int → Int × σ) (n : Nat) : Nat → Nat → σ × (Nat → Bool) × List Mk → σ × (Nat → Bool) × List Mk
  | 0, _, x => x
  | d + 1, fr, x => match nextS x.2.1 n fr with
    | none => x
    | some k => drainS next n d (k + 1) (rstep next x k)
theorem nextS_lt {e : Nat → Bool} {n f k : Nat} (h : nextS e n f = some k) : k < n := by
  unfold nextS at h
  have := List.mem_of_find?_eq_some h
  obtain ⟨j, hj, rfl⟩ := List.mem_map.1 this
  have := List.mem_range.1 hj
  exact Nat.mod_lt _ (by omega)
section
variable {Post : Value → World → Prop} {h : Nat}
theorem drain_loop {σ : Type} {r : Rn} {b0 : Bd} {v0 : World} {O0 : Nat → Prop} {J : Nat → σ → (Nat → Prop) → World → Prop} {next : σ → Int → Int × σ} {fn : Func} {D L : Nat} {fst : σ × (Nat → Bool) × List Mk} {cs : List Frame}
    (SC : StepC Try.prog 64 Post r.f r.caps r.n J next) (hf : Try.prog.funcs[r.f]? = some fn) (hname : (fn.name == "runtime.NumGoroutine") = false) (hb : fn.body.isNone = false) (hJS : JStill r.N₀ J)
    (hear : b0.ear = true) (hwt : b0.wait = none) (hh : b0.role h = .mute) (hne : ¬ (r.i0 ≤ h ∧ h < r.i0 + r.n)) (hD : D ≤ 65536) (hL : L ≤ 65536) (h0 : 0 < r.n)
    (fin : ∀ b v w O m s e ms, RunSt r b0 v0 O0 J b v w O m s e ms → (s, e, ms) = fst → ∀ x1 x2 x4 x5 x6 x7 x10 x14 x15 x16 x17 x18 x19 x20 x21 x22 x23 x24 x25 x26 x27 x28 x29 x30 x31 x32 x33 x34 x35 x36 x37 x38 x39 x40 x41 x42 x43 x44 x45 x46 x47 x48 x49 x50 x51 x52 x53 x54 x55 x56 x57 x58 x59 x60 x61 x62 x63 x64 x65 x66 x67 x68 x69 x70 x71 x72 x73 x74 x75 x76 x77 x78 x79 x80 x81 x82 x83 x84 x85 x86 : Value, At Try.prog 64 Post b h (runAt #[.int .i64 (r.n : Nat), x1, x2, .int .i64 (D : Nat), x4, x5, x6, x7, .slice none 0 0, .int .i64 0, x10, .pointer (some ⟨r.sv, 0, none⟩), .pointer (some ⟨r.Wg, 0, none⟩), .pointer (some ⟨r.rb, 0, none⟩), x14, x15, x16, x17, x18, x19, x20, x21, x22, x23, x24, x25, x26, x27, x28, x29, x30, x31, x32, x33, x34, x35, x36, x37, x38, x39, x40, x41, x42, x43, x44, x45, x46, x47, x48, x49, x50, x51, x52, x53, x54, x55, x56, x57, x58, x59, x60, x61, x62, x63, x64, x65, x66, x67, x68, x69, x70, x71, x72, x73, x74, x75, x76, x77, x78, x79, x80, x81, x82, x83, x84, x85, x86] [.code tailClose] cs) w) :
    ∀ (k i fr : Nat) (b : Bd) (v w : World) (O : Nat → Prop) (m : Nat) (s : σ) (e : Nat → Bool) (ms : List Mk), i + k = D → fr ≤ r.n → RunSt r b0 v0 O0 J b v w O m s e ms → fst = drainS next r.n k fr (s, e, ms) → ms.length ≤ L + i → ∀ x1 x2 x4 x5 x6 x7 x10 x14 x15 x16 x18 x19 x20 x21 x22 x23 x24 x25 x26 x27 x28 x29 x30 x31 x32 x33 x34 x35 x36 x37 x38 x39 x40 x41 x42 x43 x44 x45 x46 x47 x48 x49 x50 x51 x52 x53 x54 x55 x56 x57 x58 x59 x60 x61 x62 x63 x66 x67 x68 x69 x70 x71 x72 x73 x74 x75 x76 x77 x78 x79 x80 x81 x82 x83 x84 x85 x86 : Value,
      At Try.prog 64 Post b h (runAt #[.int .i64 (r.n : Nat), x1, x2, .int .i64 (D : Nat), x4, x5, x6, x7, .slice none 0 0, .int .i64 0, x10, .pointer (some ⟨r.sv, 0, none⟩), .pointer (some ⟨r.Wg, 0, none⟩), .pointer (some ⟨r.rb, 0, none⟩), x14, x15, x16, .int .i64 (fr : Nat), x18, x19, x20, x21, x22, x23, x24, x25, x26, x27, x28, x29, x30, x31, x32, x33, x34, x35, x36, x37, x38, x39, x40, x41, x42, x43, x44, x45, x46, x47, x48, x49, x50, x51, x52, x53, x54, x55, x56, x57, x58, x59, x60, x61, x62, x63, .int .i64 (D : Nat), .int .i64 (i : Nat), x66, x67, x68, x69, x70, x71, x72, x73, x74, x75, x76, x77, x78, x79, x80, x81, x82, x83, x84, x85, x86] [.code loopDrain, .inLoop loopDrain, .inBlock 4, .code tailClose] cs) w := by
  simp only [runAt, loopDrain, tailClose, tailDrain, tailPicks, bodyRun, Try.f19, Option.getD_some] at fin ⊢
  intro k
  induction k with
  | zero =>
    intro i fr b v w O m s e ms hi hfr K hst hms
    intros
    have hF : Off b.shun w w := Off.refl _ _
    obtain rfl : i = D := by omega
    have hlt : decide ((i : Int) < (i : Int)) = false := by simp
    refine At.goes0 (n := 10) ?_
    u_c stepG_seq ro_off2 hF
    u_reg ro_off2 hF
    u_op ro_off2 hF
    u_c stepG_region_end ro_off2 hF
    u_c stepG_seq ro_off2 hF
    u_cond false ro_off2 hF
    u_exit ro_off2 hF
    refine Goes.stop (fun _ q => ?_)
    replace hF := ro_off2 hF q
    exact fin b v _ O m s e ms { K with sim := hF.sim K.sim } hst.symm _ _ _ _ _ _ _ _ _ _ _ _ _ _ _ _ _ _ _ _ _ _ _ _ _ _ _ _ _ _ _ _ _ _ _ _ _ _ _ _ _ _ _ _ _ _ _ _ _ _ _ _ _ _ _ _ _ _ _ _ _ _ _ _ _ _ _ _ _ _ _ _ _ _ _ _ _ _ _ _
  | succ k ih =>
    intro i fr b v w O m s e ms hi hfr K hst hms
    intros
    have hF : Off b.shun w w := Off.refl _ _
    have hilt : i < D := by omega
    have hlt : decide ((i : Int) < (D : Int)) = true := by simp; omega
    have n8 := K.ok.n8
    have wi : IntKind.i64.wrap ((i : Int) + 1) = ((i + 1 : Nat) : Int) := by rw [IntKind.wrap_i64]; omega
    refine At.goes0 (n := 30) ?_
    u_c stepG_seq ro_off2 hF
    u_reg ro_off2 hF
    u_op ro_off2 hF
    u_c stepG_region_end ro_off2 hF
    u_c stepG_seq ro_off2 hF
    u_cond true ro_off2 hF
    u_c stepG_skip ro_off2 hF
    u_c stepG_seq ro_off2 hF
    u_c stepG_block ro_off2 hF
    u_c stepG_seq ro_off2 hF
    u_reg ro_off2 hF
    u_op ro_off2 hF
    u_op ro_off2 hF
    refine Goes.stop (fun _ q => ?_)
    replace hF := ro_off2 hF q
    clear q
    refine At.list rfl (fun _ q => ⟨_, #[], stepG_call rfl rfl (by decide) rfl Try.func34 nm_next rfl, by simp, ?_⟩)
    replace hF := ro_off2 hF q
    clear q
    walk_nrm
    refine At.callee2 (R := fun a v' => a = nextV (nextS e r.n fr) ∧ v'.heap = v.heap) lones_fun (by kernel_rfl) Try.func34 rfl rfl rfl rfl (fun y hy => ?_) K.even (hF.sim K.sim) (fun T => ?_) (fun a v' T d w' _ he' hR hs' => ?_)
    · simp only [List.mem_toArray, List.mem_cons, List.not_mem_nil, or_false] at hy
      rcases hy with rfl | rfl
      · exact .any _
      · exact .int _ _
    · refine (Next_any r.rb r.lb r.cap r.n fr r.th e (onT v T 0) h0 n8 hfr K.ok.list (fun j hj => ⟨(K.ok.thr j hj).at_, (K.ok.thr j hj).ended⟩)).mono ?_
      rintro e w' ⟨rfl, rfl⟩
      exact ⟨_, rfl, rfl, rfl⟩
    obtain ⟨rfl, hv'⟩ := hR
    have hv' : v'.heap = v.heap := hv'
    have K' : RunSt r b0 v0 O0 J b v' w' O m s e ms := K.lone hv' hJS hs' he'
    rw [Frame.finish_at]
    walk_nrm
    unfold drainS at hst
    simp only at hst
    have hF : Off b.shun w' w' := Off.refl _ _
    cases hn : nextS e r.n fr with
    | none =>
      rw [hn] at hst
      simp only at hst
      simp only [nextV]
      refine At.goes0 (n := 30) ?_
      u_op ro_off2 hF
      u_op ro_off2 hF
      u_op ro_off2 hF
      u_op ro_off2 hF
      u_op ro_off2 hF
      u_c stepG_region_end ro_off2 hF
      u_c stepG_seq ro_off2 hF
      u_c stepG_seq ro_off2 hF
      u_reg ro_off2 hF
      u_op ro_off2 hF
      u_op ro_off2 hF
      u_c stepG_region_end ro_off2 hF
      u_cond true ro_off2 hF
      u_exit ro_off2 hF
      refine Goes.stop (fun _ q => ?_)
      replace hF := ro_off2 hF q
      exact fin b v' _ O m s e ms { K' with sim := hF.sim K'.sim } hst.symm _ _ _ _ _ _ _ _ _ _ _ _ _ _ _ _ _ _ _ _ _ _ _ _ _ _ _ _ _ _ _ _ _ _ _ _ _ _ _ _ _ _ _ _ _ _ _ _ _ _ _ _ _ _ _ _ _ _ _ _ _ _ _ _ _ _ _ _ _ _ _ _ _ _ _ _ _ _ _ _
    | some j =>
      rw [hn] at hst
      simp only at hst
      have hj := nextS_lt hn
      have wj : IntKind.i64.wrap ((j : Int) + 1) = ((j + 1 : Nat) : Int) := by rw [IntKind.wrap_i64]; omega
      simp only [nextV]
      refine At.goes0 (n := 30) ?_
      u_op ro_off2 hF
      u_op ro_off2 hF
      u_op ro_off2 hF
      u_op ro_off2 hF
      u_op ro_off2 hF
      u_c stepG_region_end ro_off2 hF
      u_c stepG_seq ro_off2 hF
      u_c stepG_seq ro_off2 hF
      u_reg ro_off2 hF
      u_op ro_off2 hF
      u_op ro_off2 hF
      u_c stepG_region_end ro_off2 hF
      u_cond false ro_off2 hF
      u_c stepG_skip ro_off2 hF
      u_c stepG_seq ro_off2 hF
      u_reg ro_off2 hF
      u_op ro_off2 hF
      u_op ro_off2 hF
      refine Goes.stop (fun _ q => ?_)
      replace hF := ro_off2 hF q
      clear q
      refine At.list rfl (fun w2 q => ⟨_, #[], stepG_call rfl rfl (by decide) rfl Try.func33 nm_pick rfl, by simp, ?_⟩)
      replace hF := ro_off2 hF q
      clear q
      walk_nrm
      refine pick_enter SC hf hname hb hJS { K' with sim := hF.sim K'.sim } hj (by omega) hear hwt hh hne (fun b2 v2 w2 O2 m2 K2 => ?_)
      rw [Frame.finish_at]
      walk_nrm
      have hF : Off b2.shun w2 w2 := Off.refl _ _
      refine At.goes0 (n := 30) ?_
      u_c stepG_region_end ro_off2 hF
      u_reg ro_off2 hF
      u_op ro_off2 hF
      u_op ro_off2 hF
      u_op ro_off2 hF
      u_c stepG_region_end ro_off2 hF
      u_c stepG_inBlock ro_off2 hF
      u_reg ro_off2 hF
      u_op ro_off2 hF
      u_op ro_off2 hF
      u_c stepG_region_end ro_off2 hF
      u_c stepG_inLoop ro_off2 hF
      refine Goes.stop (fun _ q => ?_)
      replace hF := ro_off2 hF q
      clear q
      refine ih (i + 1) (j + 1) b2 v2 _ O2 m2 _ _ _ (by omega) (by omega) { K2 with sim := hF.sim K2.sim } hst ?_ _ _ _ _ _ _ _ _ _ _ _ _ _ _ _ _ _ _ _ _ _ _ _ _ _ _ _ _ _ _ _ _ _ _ _ _ _ _ _ _ _ _ _ _ _ _ _ _ _ _ _ _ _ _ _ _ _ _ _ _ _ _ _ _ _ _ _ _ _ _ _ _ _ _ _ _ _
      rw [rstep_len]
      show ms.length + 1 ≤ L + (i + 1)
      omega
end
end Go.Proofs.Ytaiinkeendejdaa

