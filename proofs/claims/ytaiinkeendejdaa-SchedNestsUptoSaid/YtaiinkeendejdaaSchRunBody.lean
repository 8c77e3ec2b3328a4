/-
  SCHED: Run's code; its loop over picks, in company. No condition.
-/
import Derived.Test.YtaiinkeendejdaaSchPickAll
import Derived.Test.YtaiinkeendejdaaSchSmall
import Derived.Test.YtaiinkeendejdaaBandMore
namespace Go.Proofs.Ytaiinkeendejdaa
open Go.RowKit Go.Conc Go.ConcR.Gen Go.ConcN.Gen
open Go.ConcN (sumTo upd sumTo_upd upd_ne upd_same WgLive)
set_option maxRecDepth 100000
noncomputable def bodyRun : Code := (Try.f19).body.getD .skip
noncomputable def tailPicks : Code := match bodyRun with | .seq _ (.seq _ (.seq _ (.seq _ (.seq _ (.seq _ (.seq _ c)))))) => c | _ => .skip
noncomputable def loopPicks : Code := match tailPicks with | .seq (.seq _ (.block _ (.loop c))) _ => c | _ => .skip
noncomputable def tailDrain : Code := match tailPicks with | .seq _ c => c | _ => .skip
noncomputable def loopDrain : Code := match tailDrain with | .seq _ (.seq (.seq _ (.block _ (.loop c))) _) => c | _ => .skip
noncomputable def tailClose : Code := match tailDrain with | .seq _ (.seq _ c) => c | _ => .skip
noncomputable def runAt (t : Array Value) (k : List Item) (cs : List Frame) : Goroutine := G ((base 19).at ⟨t, []⟩ k) cs
theorem nm_round : ((Try.f28).name == "runtime.NumGoroutine") = false := by kernel_rfl
theorem nm_pick : ((Try.f33).name == "runtime.NumGoroutine") = false := by kernel_rfl
theorem nm_next : ((Try.f34).name == "runtime.NumGoroutine") = false := by kernel_rfl
/-- a slice of ints that reads as a list; blocks that nobody turns -/
structure Picks (r : Rn) (b0 : Bd) (v0 : World) (O0 : Nat → Prop) (pa : Option Addr) (l : List Int) : Prop where
  at_ : ∀ (i : Nat) x, l[i]? = some x → ∃ p o, pa = some ⟨p, o, none⟩ ∧ v0.cell? ⟨p, o + i, none⟩ = some (.int .i64 x) ∧ p < r.N₀ ∧ ¬ O0 p ∧ b0.shun p = false
theorem rstep_len {σ : Type} {next : σ → Int → Int × σ} (x : σ × (Nat → Bool) × List Mk) (k : Nat) : (rstep next x k).2.2.length = x.2.2.length + 1 := by
  unfold rstep
  split <;> simp
section
variable {σ : Type} {r : Rn} {b0 b : Bd} {v0 v v' w w' : World} {O0 O : Nat → Prop} {J : Nat → σ → (Nat → Prop) → World → Prop} {m : Nat} {s : σ} {e : Nat → Bool} {ms : List Mk}
theorem cell_heap {v v' : World} (h : v'.heap = v.heap) (a : Addr) : v'.cell? a = v.cell? a := by unfold World.cell?; rw [h]
theorem ThAt.heap {k : Nat} (T : ThAt r b v O e k) (h : v'.heap = v.heap) : ThAt r b v' O e k :=
  ⟨(cell_heap h _).trans T.at_, (cell_heap h _).trans T.ended, (World.frozen?_of_block (by rw [h])).trans T.warm, T.role, fun p hp => ⟨(cell_heap h _).trans (T.keep p hp).1, (T.keep p hp).2⟩, T.bd, ⟨(cell_heap h _).trans T.ans.1, T.ans.2⟩, fun x hx => by rw [h]; exact T.chan x hx, T.ne, T.uniq, T.off, T.off2⟩
theorem RunOk.heap (K : RunOk r b0 b v O e ms) (h : v'.heap = v.heap) : RunOk r b0 b v' O e ms := by
  obtain ⟨mv, h1, h2, h3⟩ := K.marks
  exact ⟨(cell_heap h _).trans K.list, ⟨mv, (cell_heap h _).trans h1, h2.at fun g _ => by rw [h], h3⟩, (World.frozen?_of_block (by rw [h])).trans K.warm, by rw [h]; exact K.size, K.low, K.open_, fun k hk => (K.thr k hk).heap h, K.wg, K.wgS, K.n8, K.pos, K.role, K.num, K.F, K.Fle, K.shun, K.rung, K.wait, K.ear, K.old⟩
/-- the memory stands -/
theorem RunSt.lone (K : RunSt r b0 v0 O0 J b v w O m s e ms) (h : v'.heap = v.heap) (hJS : JStill r.N₀ J) (hs : Sim b.shun b.F v' w') (he : Even (ZT b.shun v'.heap.size) v') : RunSt r b0 v0 O0 J b v' w' O m s e ms :=
  ⟨K.ok.heap h, hJS _ _ _ _ _ K.J fun x _ => by rw [h], K.m, by rw [h]; exact K.own, K.grow, fun x h1 h2 => by rw [h]; exact K.same x h1 h2, hs, he, by rw [h]; exact K.tidy⟩
end
section
variable {Post : Value → World → Prop} {h : Nat}

theorem picks_loop {σ : Type} {r : Rn} {b0 : Bd} {v0 : World} {O0 : Nat → Prop} {J : Nat → σ → (Nat → Prop) → World → Prop} {next : σ → Int → Int × σ} {fn : Func} {pa : Option Addr} {np pc : Nat} {dr : Int} {l : List Int} {st0 : σ × (Nat → Bool) × List Mk} {cs : List Frame}
    (SC : StepC Try.prog 64 Post r.f r.caps r.n J next) (hf : Try.prog.funcs[r.f]? = some fn) (hname : (fn.name == "runtime.NumGoroutine") = false) (hb : fn.body.isNone = false) (hJS : JStill r.N₀ J)
    (hear : b0.ear = true) (hwt : b0.wait = none) (hh : b0.role h = .mute) (hne : ¬ (r.i0 ≤ h ∧ h < r.i0 + r.n)) (hP : Picks r b0 v0 O0 pa l) (hl : l.length = np) (hnp : np ≤ 65536) (h64 : ∀ x ∈ l, -9223372036854775808 ≤ x ∧ x ≤ 9223372036854775807) (h0 : 0 < r.n)
    (fin : ∀ b v w O m s e ms, RunSt r b0 v0 O0 J b v w O m s e ms → (s, e, ms) = (l.foldl (fun x p => rstep next x (roundS r.n p)) st0) → ms.length ≤ np → ∀ x1 x4 x5 x6 x7 x10 x14 x15 x16 x17 x18 x19 x20 x21 x22 x23 x24 x25 x26 x27 x28 x29 x30 x31 x32 x33 x34 x35 x36 x37 x38 x39 x40 x41 x42 x43 x44 x45 x46 x47 x48 x49 x50 x51 x55 x56 x57 x58 x59 x60 x61 x62 x63 x64 x65 x66 x67 x68 x69 x70 x71 x72 x73 x74 x75 x76 x77 x78 x79 x80 x81 x82 x83 x84 x85 x86 : Value, At Try.prog 64 Post b h (runAt #[.int .i64 (r.n : Nat), x1, .slice pa np pc, .int .i64 dr, x4, x5, x6, x7, .slice none 0 0, .int .i64 0, x10, .pointer (some ⟨r.sv, 0, none⟩), .pointer (some ⟨r.Wg, 0, none⟩), .pointer (some ⟨r.rb, 0, none⟩), x14, x15, x16, x17, x18, x19, x20, x21, x22, x23, x24, x25, x26, x27, x28, x29, x30, x31, x32, x33, x34, x35, x36, x37, x38, x39, x40, x41, x42, x43, x44, x45, x46, x47, x48, x49, x50, x51, .slice pa np pc, .int .i64 (np : Nat), .int .i64 (np : Nat), x55, x56, x57, x58, x59, x60, x61, x62, x63, x64, x65, x66, x67, x68, x69, x70, x71, x72, x73, x74, x75, x76, x77, x78, x79, x80, x81, x82, x83, x84, x85, x86] [.code tailDrain] cs) w) :
    ∀ (k i : Nat) (b : Bd) (v w : World) (O : Nat → Prop) (m : Nat) (s : σ) (e : Nat → Bool) (ms : List Mk), i + k = np → RunSt r b0 v0 O0 J b v w O m s e ms → (s, e, ms) = ((l.take i).foldl (fun x p => rstep next x (roundS r.n p)) st0) → ms.length ≤ i → ∀ x1 x4 x5 x6 x7 x10 x14 x15 x16 x17 x18 x19 x20 x21 x22 x23 x24 x25 x26 x27 x28 x29 x30 x31 x32 x33 x34 x35 x36 x37 x38 x39 x40 x41 x42 x43 x44 x45 x46 x47 x48 x49 x50 x51 x55 x56 x57 x58 x59 x60 x61 x62 x63 x64 x65 x66 x67 x68 x69 x70 x71 x72 x73 x74 x75 x76 x77 x78 x79 x80 x81 x82 x83 x84 x85 x86 : Value,
      At Try.prog 64 Post b h (runAt #[.int .i64 (r.n : Nat), x1, .slice pa np pc, .int .i64 dr, x4, x5, x6, x7, .slice none 0 0, .int .i64 0, x10, .pointer (some ⟨r.sv, 0, none⟩), .pointer (some ⟨r.Wg, 0, none⟩), .pointer (some ⟨r.rb, 0, none⟩), x14, x15, x16, x17, x18, x19, x20, x21, x22, x23, x24, x25, x26, x27, x28, x29, x30, x31, x32, x33, x34, x35, x36, x37, x38, x39, x40, x41, x42, x43, x44, x45, x46, x47, x48, x49, x50, x51, .slice pa np pc, .int .i64 (np : Nat), .int .i64 (i : Nat), x55, x56, x57, x58, x59, x60, x61, x62, x63, x64, x65, x66, x67, x68, x69, x70, x71, x72, x73, x74, x75, x76, x77, x78, x79, x80, x81, x82, x83, x84, x85, x86] [.code loopPicks, .inLoop loopPicks, .inBlock 2, .code tailDrain] cs) w := by
  have n8 : ∀ {b v O e ms}, RunOk r b0 b v O e ms → r.n ≤ 8 := fun K => K.n8
  simp only [runAt, loopPicks, tailDrain, tailPicks, bodyRun, Try.f19, Option.getD_some] at fin ⊢
  intro k
  induction k with
  | zero =>
    intro i b v w O m s e ms hi K hst hms
    intros
    have hF : Off b.shun w w := Off.refl _ _
    obtain rfl : i = np := by omega
    have hlt : decide ((i : Int) < (i : Int)) = false := by simp
    rw [List.take_of_length_le (by omega)] at hst
    refine At.goes0 (n := 10) ?_
    u_c stepG_seq ro_off2 hF
    u_reg ro_off2 hF
    u_op ro_off2 hF
    u_c stepG_region_end ro_off2 hF
    u_c stepG_seq ro_off2 hF
    u_cond false ro_off2 hF
    u_exit ro_off2 hF
    refine Goes.stop (fun _ q => ?_)
    replace hF := ro_off2 hF q
    exact fin b v _ O m s e ms { K with sim := hF.sim K.sim } hst hms _ _ _ _ _ _ _ _ _ _ _ _ _ _ _ _ _ _ _ _ _ _ _ _ _ _ _ _ _ _ _ _ _ _ _ _ _ _ _ _ _ _ _ _ _ _ _ _ _ _ _ _ _ _ _ _ _ _ _ _ _ _ _ _ _ _ _ _ _ _ _ _ _ _ _ _
  | succ k ih =>
    intro i b v w O m s e ms hi K hst hms
    intros
    have hF : Off b.shun w w := Off.refl _ _
    have hilt : i < np := by omega
    have hlt : decide ((i : Int) < (np : Int)) = true := by simp; omega
    obtain ⟨x, hx⟩ : ∃ x, l[i]? = some x := ⟨_, List.getElem?_eq_getElem (by omega)⟩
    obtain ⟨pb, po, rfl, hcell, hpN, hpO, hpS⟩ := hP.at_ i x hx
    have h64x := h64 x (List.mem_of_getElem? hx)
    have n8' := n8 K.ok
    have hpl : pb < v.heap.size := Nat.lt_of_lt_of_le hpN (Nat.le_trans K.ok.low.2.2.2.2.1 K.ok.size)
    have hsp : b.shun pb = false := by rw [K.ok.shun pb hpN]; exact hpS
    have hcv : v.cell? ⟨pb, po + i, none⟩ = some (.int .i64 x) := (cell_same (a := ⟨pb, po + i, none⟩) (K.same pb hpN hpO)).trans hcell
    have hcw : w.cell? ⟨pb, po + i, none⟩ = some (.int .i64 x) := (K.sim.cell (a := ⟨pb, po + i, none⟩) hsp).symm.trans hcv
    have wi : IntKind.i64.wrap ((i : Int) + 1) = ((i + 1 : Nat) : Int) := by rw [IntKind.wrap_i64]; omega
    refine At.goes0 (n := 20) ?_
    u_c stepG_seq ro_off2 hF
    u_reg ro_off2 hF
    u_op ro_off2 hF
    u_c stepG_region_end ro_off2 hF
    u_c stepG_seq ro_off2 hF
    u_cond true ro_off2 hF
    u_c stepG_skip ro_off2 hF
    u_c stepG_seq ro_off2 hF
    u_c stepG_block ro_off2 hF
    u_c stepG_seq ro_off2 hF
    u_reg ro_off2 hF
    u_op ro_off2 hF
    refine Goes.stop (fun _ q => ?_)
    replace hF := ro_off2 hF q
    clear q
    refine At.ld rfl rfl (by decide) (ad := ⟨pb, po + i, none⟩) (x := .int .i64 x) (by rw [hF.cell hsp]; exact hcw) hsp (fun _ hv => ?_) ?_
    · exact ⟨by simp [go_sem, execOp, Act.eval, hv], by simp [go_sem, execOp, Act.eval, hv]⟩
    walk_nrm
    refine At.goes0 (n := 20) ?_
    u_op ro_off2 hF
    u_c stepG_region_end ro_off2 hF
    u_reg ro_off2 hF
    u_op ro_off2 hF
    u_op ro_off2 hF
    u_op ro_off2 hF
    refine Goes.stop (fun _ q => ?_)
    replace hF := ro_off2 hF q
    clear q
    refine At.list rfl (fun _ q => ⟨_, #[], stepG_call rfl rfl (by decide) rfl Try.func28 nm_round rfl, by simp, ?_⟩)
    replace hF := ro_off2 hF q
    clear q
    walk_nrm
    refine At.callee (R := fun a v' => a = .int .i64 (roundS r.n x) ∧ v'.heap = v.heap) lones_fun (by kernel_rfl) Try.func28 rfl rfl rfl (fun y hy => ?_) K.even (hF.sim K.sim) (fun T => ?_) (fun a v' T d w' _ he' hR hs' => ?_)
    · simp only [List.mem_toArray, List.mem_cons, List.not_mem_nil, or_false] at hy
      rcases hy with rfl | rfl
      · exact .int _ _
      · exact .int _ _
    · refine (Round_any r.n x (onT v T 0) h0 n8' h64x.1 h64x.2).mono ?_
      rintro e w' ⟨rfl, rfl⟩
      exact ⟨_, rfl, rfl, rfl⟩
    obtain ⟨rfl, hv'⟩ := hR
    have hv' : v'.heap = v.heap := hv'
    have K' : RunSt r b0 v0 O0 J b v' w' O m s e ms := K.lone hv' hJS hs' he'
    rw [Frame.finish_at]
    walk_nrm
    refine At.list rfl (fun w2 q => ⟨_, #[], stepG_call rfl rfl (by decide) rfl Try.func33 nm_pick rfl, by simp, ?_⟩)
    have hF := ro_off2 (Off.refl b.shun w') q
    clear q
    walk_nrm
    refine pick_enter SC hf hname hb hJS { K' with sim := hF.sim K'.sim } (roundS_lt x h0) (by omega) hear hwt hh hne (fun b2 v2 w2 O2 m2 K2 => ?_)
    rw [Frame.finish_at]
    walk_nrm
    have hF : Off b2.shun w2 w2 := Off.refl _ _
    refine At.goes0 (n := 20) ?_
    u_c stepG_region_end ro_off2 hF
    u_c stepG_inBlock ro_off2 hF
    u_reg ro_off2 hF
    u_op ro_off2 hF
    u_op ro_off2 hF
    u_c stepG_region_end ro_off2 hF
    u_c stepG_inLoop ro_off2 hF
    refine Goes.stop (fun _ q => ?_)
    replace hF := ro_off2 hF q
    clear q
    refine ih (i + 1) b2 v2 _ O2 m2 _ _ _ (by omega) { K2 with sim := hF.sim K2.sim } ?_ ?_ _ _ _ _ _ _ _ _ _ _ _ _ _ _ _ _ _ _ _ _ _ _ _ _ _ _ _ _ _ _ _ _ _ _ _ _ _ _ _ _ _ _ _ _ _ _ _ _ _ _ _ _ _ _ _ _ _ _ _ _ _ _ _ _ _ _ _ _ _ _ _ _ _ _ _ _
    · rw [List.take_add_one, hx, List.foldl_append, ← hst]
      rfl
    · rw [rstep_len]
      show ms.length + 1 ≤ i + 1
      omega
end
end Go.Proofs.Ytaiinkeendejdaa

