/-
  SCHED: Run, every call, in company. No condition.
-/
import Derived.Test.YtaiinkeendejdaaSchOn
namespace Go.Proofs.Ytaiinkeendejdaa
open Go.RowKit Go.Conc Go.ConcR.Gen Go.ConcN.Gen
open Go.ConcN (sumTo upd sumTo_upd upd_ne upd_same WgLive)
open Go.ConcR (KK wgBlock WgAt stA smA rd wr mk DC0)
set_option maxRecDepth 100000
/-- what Run answers: the step's state, the marks, the error -/
def runR {σ : Type} (next : σ → Int → Int × σ) (n : Nat) (l : List Int) (D : Int) (s0 : σ) : σ × List Mk × Int :=
  if wrongS n l.length D = 0 then ((runS next n l D.toNat s0).1, (runS next n l D.toNat s0).2.2, 0) else (s0, [], wrongS n l.length D)
theorem wrong_ok {n np D : Int} (h : wrongS n np D = 0) : 1 ≤ n ∧ n ≤ 8 ∧ 0 ≤ D ∧ D ≤ 65536 ∧ np ≤ 65536 := by
  unfold wrongS at h
  split at h
  · cases h
  · split at h
    · cases h
    · omega
theorem eql_func_in {P : Program} {t : TypeId} {ps rs : Array TypeId} {va : Bool} (w : World) (d : Nat) (h : P.underlying t = some (.func ps rs va)) (f : Fn) (a c : Array Value) :
    (Op.equalIn (d + 1) t (.func f a c) .nilFunc).run P w = .ok false w ∧ (Op.equalIn (d + 1) t (.func f a c) .nilFunc).events P w #[] = #[] := by
  constructor <;> simp [Op.equalIn, run_underlying h]
theorem eql_func {P : Program} {t : TypeId} {ps rs : Array TypeId} {va : Bool} (w : World) (h : P.underlying t = some (.func ps rs va)) (f : Fn) (a c : Array Value) :
    (binOp .eql t (.func f a c) .nilFunc).run P w = .ok (.bool false) w ∧ (binOp .eql t (.func f a c) .nilFunc).events P w #[] = #[] := by
  obtain ⟨h1, h2⟩ := eql_func_in w 9999 h f a c
  have e : Op.equal t (.func f a c) .nilFunc = Op.equalIn (9999 + 1) t (.func f a c) .nilFunc := rfl
  constructor
  · simp only [binOp]
    simp only [e]
    simp [h1]
  · simp only [binOp]
    simp only [e]
    simp [h2]
theorem alloc_wg (w : World) : (Instr.alloc 64 true (.tuple #[])).run Try.prog w = .ok (.pointer (some ⟨w.heap.size, 0, none⟩)) (w.alloc (wgBlock 64 0 0)) := by
  simp [go_sem]
  rfl
theorem alloc_wg_e (w : World) : (Instr.alloc 64 true (.tuple #[])).events Try.prog w #[] = #[] := by
  simp [go_sem]
theorem push5 (h : Array Obj) (a b c d e : Obj) : (((((h.push a).push b).push c).push d).push e).size = h.size + 5 ∧ (∀ x, x < h.size → (((((h.push a).push b).push c).push d).push e)[x]? = h[x]?) ∧
    (((((h.push a).push b).push c).push d).push e)[h.size]? = some a ∧ (((((h.push a).push b).push c).push d).push e)[h.size + 1]? = some b ∧ (((((h.push a).push b).push c).push d).push e)[h.size + 2]? = some c ∧ (((((h.push a).push b).push c).push d).push e)[h.size + 3]? = some d ∧ (((((h.push a).push b).push c).push d).push e)[h.size + 4]? = some e := by
  simp only [Array.size_push, Array.getElem?_push]
  refine ⟨trivial, fun x hx => ?_, ?_, ?_, ?_, ?_, ?_⟩
  · rw [if_neg (by omega), if_neg (by omega), if_neg (by omega), if_neg (by omega), if_neg (by omega)]
  · rw [if_neg (by omega), if_neg (by omega), if_neg (by omega), if_neg (by omega), if_pos trivial]
  · rw [if_neg (by omega), if_neg (by omega), if_neg (by omega), if_pos trivial]
  · rw [if_neg (by omega), if_neg (by omega), if_pos trivial]
  · rw [if_neg (by omega), if_pos trivial]
  · rw [if_pos trivial]
theorem nm_wrong : ((Try.f27).name == "runtime.NumGoroutine") = false := by kernel_rfl
def maskA : FuncId → Nat → Bool := fun _ i => decide (¬ i ∈ ([1, 5, 8, 9] : List Nat))
def maskB : FuncId → Nat → Bool := fun _ i => decide (¬ i ∈ ([11, 29] : List Nat))
def maskC : FuncId → Nat → Bool := fun _ i => decide (¬ i ∈ ([13, 30, 31] : List Nat))
theorem r0_lone : codeC (opW Try.prog (fun _ => false) (maskA 0)) codeR0 = true := by kernel_rfl
theorem r6_lone : codeC (opW Try.prog (fun _ => false) (maskB 0)) codeR6 = true := by kernel_rfl
theorem r8_lone : codeC (opW Try.prog (fun _ => false) (maskC 0)) codeR8 = true := by kernel_rfl
section
variable {Post : Value → World → Prop} {h : Nat}
set_option maxHeartbeats 1000000 in
theorem run_whole {σ : Type} {b : Bd} {v w : World} {O : Nat → Prop} {J : Nat → σ → (Nat → Prop) → World → Prop} {next : σ → Int → Int × σ} {s0 : σ} {f : FuncId} {caps : Array Value} {n np pc : Nat} {D : Int} {pa : Option Addr} {l : List Int} {fn : Func} {c : Frame} {cs : List Frame}
    (SC : n ≤ 8 → StepC Try.prog 64 Post f caps n J next) (hf : Try.prog.funcs[f]? = some fn) (hname : (fn.name == "runtime.NumGoroutine") = false) (hb : fn.body.isNone = false) (hJS : JStill v.heap.size J)
    (hear : b.ear = true) (hwt : b.wait = none) (hJ : J 0 s0 O v) (hO : OwnO b v.heap.size O) (hcaps : ∀ a ∈ caps, NoZ (ZT b.shun v.heap.size) a) (hs : Sim b.shun b.F v w) (he : Even (ZT b.shun v.heap.size) v) (ht0 : Tidy b v.heap.size)
    (hP : ∀ (i : Nat) x, l[i]? = some x → ∃ p o, pa = some ⟨p, o, none⟩ ∧ v.cell? ⟨p, o + i, none⟩ = some (.int .i64 x) ∧ ¬ O p ∧ b.shun p = false) (hl : l.length = np) (hpz : NoZ (ZT b.shun v.heap.size) (.slice pa np pc)) (hnm : np ≤ maxLen) (h64 : ∀ x ∈ l, -9223372036854775808 ≤ x ∧ x ≤ 9223372036854775807)
    (fin : ∀ b' v' w' O' mv, Ended b v O v.heap.size J (runR next n l D s0).1 (runR next n l D s0).2.1 b' v' w' O' mv → At Try.prog 64 Post b' h (G (c.finish (.tuple #[mv, .int .i64 (runR next n l D s0).2.2])) cs) w') :
    At Try.prog 64 Post b h (G (Frame.enter Try.prog 19 #[.int .i64 (n : Nat), .func (.func f) #[] caps, .slice pa np pc, .int .i64 D] .normal) (c :: cs)) w := by
  refine At.know (fun hh hhn hup _ => ?_)
  refine At.know2 (fun hgr => ?_)
  have hr0 := @r0_wp
  have hr6 := @r6_wp
  have hr8 := @r8_wp
  have l0 := r0_lone
  have l6 := r6_lone
  have l8 := r8_lone
  simp only [codeR0, codeR6, codeR8, bodyRun, Try.f19, Option.getD_some] at hr0 hr6 hr8 l0 l6 l8
  rw [enter_at _ Try.func19 rfl]
  walk_nrmf Try.f19
  have hF : Off b.shun w w := Off.refl _ _
  refine At.goes0 (n := 10) ?_
  u_c stepG_seq ro_off2 hF
  refine Goes.stop (fun wA q => ?_)
  replace hF := ro_off2 hF q
  clear q
  -- the step, in memory
  obtain ⟨N, hN⟩ : ∃ N, N = v.heap.size := ⟨_, rfl⟩
  refine At.piece (M := maskA) (R := fun a' w' => a'.tmps = #[.int .i64 (n : Nat), .func (.func f) #[] caps, .slice pa np pc, .int .i64 D, undef, .pointer (some ⟨v.heap.size, 0, none⟩), undef, undef, .slice none 0 0, .int .i64 0, undef, undef, undef, undef, undef, undef, undef, undef, undef, undef, undef, undef, undef, undef, undef, undef, undef, undef, undef, undef, undef, undef, undef, undef, undef, undef, undef, undef, undef, undef, undef, undef, undef, undef, undef, undef, undef, undef, undef, undef, undef, undef, undef, undef, undef, undef, undef, undef, undef, undef, undef, undef, undef, undef, undef, undef, undef, undef, undef, undef, undef, undef, undef, undef, undef, undef, undef, undef, undef, undef, undef, undef, undef, undef, undef, undef, undef] ∧ w'.heap = v.heap.push (.cells #[.func (.func f) #[] caps] 41)) nobody ⟨_, Try.func19⟩ l0 ?_ he (hF.sim hs) (fun T => ?_) (fun t1 v1 T d0 w1 _ he1 hR1 hs1 => ?_)
  · intro i y hi hy
    have hi : i ∈ ([1, 5, 8, 9] : List Nat) := Classical.not_not.1 (of_decide_eq_false hi)
    simp only [List.mem_cons, List.not_mem_nil, or_false] at hi
    rcases hi with rfl | rfl | rfl | rfl
    all_goals obtain rfl := Option.some.inj hy
    · exact .func _ _ _ (fun x hx => by simp at hx) hcaps
    all_goals exact undef_ok
  · refine Code.wp_mono ?_ (hr0 (v := onT v T 0))
    rintro e a' w' ⟨g1, _, g2, g3⟩
    exact ⟨g1, g2, g3⟩
  obtain ⟨ht1, hv1⟩ := hR1
  have hv1 : v1.heap = v.heap.push (.cells #[.func (.func f) #[] caps] 41) := hv1
  obtain rfl := ht1
  have hsz1 : v1.heap.size = N + 1 := by rw [hv1, Array.size_push, hN]
  have hst1 : v1.heap[N]? = some (.cells #[.func (.func f) #[] caps] 41) := by rw [hv1, hN, Array.getElem?_push, if_pos rfl]
  have hol1 : ∀ x, x < N → v1.heap[x]? = v.heap[x]? := fun x hx => by rw [hv1, Array.getElem?_push, if_neg (by omega)]
  have nZ : ∀ x, N ≤ x → b.shun x = false := fun x hx => by
    cases e : b.shun x with
    | false => rfl
    | true => have := hs.low x e; rw [← hs.size] at this; omega
  have nF : ∀ x, N ≤ x → b.F x = 0 := fun x hx => by
    by_cases hf : b.F x = 0
    · exact hf
    · have := hs.iceLow hf
      rw [← hs.size] at this
      omega
  have hsc1 : v1.cell? ⟨N, 0, none⟩ = some (.func (.func f) #[] caps) := by
    unfold World.cell?
    simp only [hst1]
    rfl
  have hsw1 : w1.cell? ⟨N, 0, none⟩ = some (.func (.func f) #[] caps) := (hs1.cell (a := ⟨N, 0, none⟩) (nZ N (Nat.le_refl _))).symm.trans hsc1
  rw [← hN]
  have HNN := Lib.hid hN
  clear hN
  have hF : Off b.shun w1 w1 := Off.refl _ _
  refine At.goes0 (n := 20) ?_
  u_c stepG_seq ro_off2 hF
  u_c stepG_seq ro_off2 hF
  u_reg ro_off2 hF
  refine Goes.stop (fun wB q => ?_)
  replace hF := ro_off2 hF q
  clear q
  refine At.ld rfl rfl (by decide) (ad := ⟨N, 0, none⟩) (x := .func (.func f) #[] caps) (by rw [hF.cell (nZ N (Nat.le_refl _))]; exact hsw1) (nZ N (Nat.le_refl _)) (fun _ hv => ?_) ?_
  · exact ⟨by simp [go_sem, execOp, Act.eval, hv], by simp [go_sem, execOp, Act.eval, hv]⟩
  walk_nrm
  refine At.list rfl (fun wB' q => ⟨_, #[], (stepG_value (v := .bool false) (w' := wB') rfl rfl (by decide) (by simp [go_sem, execOp, eqGuard, Act.eval, (eql_func wB' Try.underlying41 _ _ _).1])).trans (by rw [listed_none (by simp [go_sem, execOp, eqGuard, Act.eval, (eql_func wB' Try.underlying41 _ _ _).2])]), by simp, ?_⟩)
  replace hF := ro_off2 hF q
  clear q
  walk_nrm
  refine At.goes0 (n := 20) ?_
  u_c stepG_region_end ro_off2 hF
  u_cond false ro_off2 hF
  u_c stepG_skip ro_off2 hF
  u_c stepG_seq ro_off2 hF
  u_c stepG_seq ro_off2 hF
  u_reg ro_off2 hF
  u_op ro_off2 hF
  u_op ro_off2 hF
  u_op ro_off2 hF
  refine Goes.stop (fun wC q => ?_)
  replace hF := ro_off2 hF q
  clear q
  refine At.list rfl (fun _ q => ⟨_, #[], stepG_call rfl rfl (by decide) rfl Try.func27 nm_wrong rfl, by simp, ?_⟩)
  replace hF := ro_off2 hF q
  clear q
  walk_nrm
  have hN1 : ∀ {x}, NoZ (ZT b.shun v.heap.size) x → NoZ (ZT b.shun v1.heap.size) x := fun {x} hx => hx.mono (ZT_le (by rw [hsz1, HNN.out]; omega))
  refine At.callee (R := fun a v' => a = .int .i64 (wrongS n np D) ∧ v'.heap = v1.heap) lones_fun (by kernel_rfl) Try.func27 rfl rfl rfl (fun y hy => ?_) he1 (hF.sim hs1) (fun T => ?_) (fun a v2 T d w2 _ he2 hR hs2 => ?_)
  · simp only [List.mem_toArray, List.mem_cons, List.not_mem_nil, or_false] at hy
    rcases hy with rfl | rfl | rfl
    · exact .int _ _
    · exact hN1 hpz
    · exact .int _ _
  · refine (Wrong_any n D pa np pc (onT v1 T 0) hnm).mono ?_
    rintro e w' ⟨rfl, rfl⟩
    exact ⟨_, rfl, rfl, rfl⟩
  obtain ⟨rfl, hv2⟩ := hR
  have hv2 : v2.heap = v1.heap := hv2
  rw [Frame.finish_at]
  walk_nrm
  have hF : Off b.shun w2 w2 := Off.refl _ _
  have hsz2 : v2.heap.size = N + 1 := by rw [hv2]; exact hsz1
  have hol2 : ∀ x, x < N → v2.heap[x]? = v.heap[x]? := fun x hx => by rw [hv2]; exact hol1 x hx
  by_cases hE : wrongS n np D = 0
  · have hrun : runR next n l D s0 = ((runS next n l D.toNat s0).1, (runS next n l D.toNat s0).2.2, 0) := by
      unfold runR
      rw [hl, if_pos hE]
    rw [hrun] at fin
    rw [hE]
    obtain ⟨hn1, hn8, hD0, hD1, hnp⟩ := wrong_ok hE
    have SC := SC (by omega)
    refine At.goes0 (n := 20) ?_
    u_op ro_off2 hF
    u_c stepG_region_end ro_off2 hF
    u_c stepG_seq ro_off2 hF
    u_reg ro_off2 hF
    u_op ro_off2 hF
    u_op ro_off2 hF
    u_c stepG_region_end ro_off2 hF
    u_cond false ro_off2 hF
    u_c stepG_skip ro_off2 hF
    u_c stepG_seq ro_off2 hF
    refine Goes.stop (fun wD q => ?_)
    replace hF := ro_off2 hF q
    clear q
    obtain ⟨D, rfl⟩ := Int.eq_ofNat_of_zero_le hD0
    have hsz2' : v2.heap.size = N + 1 := hsz2
    refine At.piece (M := maskB) (R := fun a' w' => a'.tmps = #[.int .i64 (n : Nat), .func (.func f) #[] caps, .slice pa np pc, .int .i64 (D : Nat), undef, .pointer (some ⟨N, 0, none⟩), undef, undef, .slice none 0 0, .int .i64 0, .int .i64 0, .pointer (some ⟨v2.heap.size + 1, 0, none⟩), undef, undef, undef, undef, undef, undef, undef, undef, .func (.func f) #[] caps, .bool false, .int .i64 (n : Nat), .slice pa np pc, .int .i64 (D : Nat), .int .i64 0, .int .i64 0, .bool false, undef, .chan (some v2.heap.size), undef, undef, undef, undef, undef, undef, undef, undef, undef, undef, undef, undef, undef, undef, undef, undef, undef, undef, undef, undef, undef, undef, undef, undef, undef, undef, undef, undef, undef, undef, undef, undef, undef, undef, undef, undef, undef, undef, undef, undef, undef, undef, undef, undef, undef, undef, undef, undef, undef, undef, undef, undef, undef, undef, undef, undef, undef] ∧ w'.heap = (v2.heap.push (.chan 0 #[] false 0 0 false)).push (.cells #[.chan (some v2.heap.size)] 54)) nobody ⟨_, Try.func19⟩ l6 ?_ he2 (hF.sim hs2) (fun T => ?_) (fun t3 v3 T d0 w3 _ he3 hR3 hs3 => ?_)
    · intro i y hi hy
      have hi : i ∈ ([11, 29] : List Nat) := Classical.not_not.1 (of_decide_eq_false hi)
      simp only [List.mem_cons, List.not_mem_nil, or_false] at hi
      rcases hi with rfl | rfl
      all_goals (obtain rfl := Option.some.inj hy; exact undef_ok)
    · refine Code.wp_mono ?_ (hr6 (v := onT v2 T 0))
      rintro e a' w' ⟨g1, _, g2, g3⟩
      exact ⟨g1, g2, g3⟩
    obtain ⟨ht3, hv3⟩ := hR3
    have hv3 : v3.heap = (v2.heap.push (.chan 0 #[] false 0 0 false)).push (.cells #[.chan (some v2.heap.size)] 54) := hv3
    obtain rfl := ht3
    rw [hsz2'] at hv3 ⊢
    have hsz3 : v3.heap.size = N + 3 := by rw [hv3, Array.size_push, Array.size_push, hsz2]
    have hw3 : w3.heap.size = N + 3 := by rw [← hs3.size]; exact hsz3
    have hF : Off b.shun w3 w3 := Off.refl _ _
    refine At.goes0 (n := 10) ?_
    u_c stepG_seq ro_off2 hF
    u_reg ro_off2 hF
    refine Goes.stop (fun wE q => ?_)
    replace hF := ro_off2 hF q
    clear q
    have hwE : wE.heap.size = N + 3 := by rw [hF.size]; exact hw3
    refine At.group rfl (fun w₁ o => (stepG_value (v := .pointer (some ⟨N + 3, 0, none⟩)) (w' := w₁.alloc (wgBlock 64 0 0)) rfl rfl (by decide) (by simp [execOp, alloc_wg w₁, o.size, hwE])).trans (by rw [listed_none (by simp [execOp, alloc_wg_e w₁])])) (fun Wg hWg => ?_) (fun Wg hWg => by rw [hwt] at hWg; cases hWg)
    obtain rfl : Wg = N + 3 := by rw [hWg, hwE]
    clear hWg
    have hs4 := (hF.sim hs3).shunned (o := wgBlock 64 0 0) (t := 64) rfl
    have he4 := Even.shunned (Z := b.shun) (x := N + 3) hsz3.symm he3 (.cells #[] 64 : Obj)
    rw [hwE] at hs4
    walk_nrm
    obtain ⟨b4, hb4⟩ : ∃ b4, b4 = ({ b with shun := upd b.shun (N + 3) true, wg := upd b.wg (N + 3) (some (b.n, b.n, 0)) } : Bd) := ⟨_, rfl⟩
    rw [← hb4]
    have b4s : b4.shun = upd b.shun (N + 3) true := by rw [hb4]
    have b4F : b4.F = b.F := by rw [hb4]
    rw [← b4s] at hs4 he4
    rw [← b4F] at hs4
    have hv4 : (v3.alloc (.cells #[] 64 : Obj)).heap = v3.heap.push (.cells #[] 64 : Obj) := rfl
    generalize v3.alloc (.cells #[] 64 : Obj) = v4 at hs4 he4 hv4
    generalize wE.alloc (wgBlock 64 0 0) = w4 at hs4
    have hF : Off b4.shun w4 w4 := Off.refl _ _
    refine At.goes0 (n := 10) ?_
    u_c stepG_region_end ro_off2 hF
    u_c stepG_seq ro_off2 hF
    refine Goes.stop (fun wE q => ?_)
    replace hF := ro_off2 hF q
    clear q
    refine At.piece (M := maskC) (R := fun a' w' => a'.tmps = #[.int .i64 (n : Nat), .func (.func f) #[] caps, .slice pa np pc, .int .i64 (D : Nat), undef, .pointer (some ⟨N, 0, none⟩), undef, undef, .slice none 0 0, .int .i64 0, .int .i64 0, .pointer (some ⟨N + 1 + 1, 0, none⟩), .pointer (some ⟨N + 3, 0, none⟩), .pointer (some ⟨v4.heap.size, 0, none⟩), undef, undef, undef, undef, undef, undef, .func (.func f) #[] caps, .bool false, .int .i64 (n : Nat), .slice pa np pc, .int .i64 (D : Nat), .int .i64 0, .int .i64 0, .bool false, undef, .chan (some (N + 1)), .agg #[.slice none 0 0, .slice none 0 0], .pointer (some ⟨v4.heap.size, 0, none⟩), undef, undef, undef, undef, undef, undef, undef, undef, undef, undef, undef, undef, undef, undef, undef, undef, undef, undef, undef, undef, undef, undef, undef, undef, undef, undef, undef, undef, undef, undef, undef, undef, undef, undef, undef, undef, undef, undef, undef, undef, undef, undef, undef, undef, undef, undef, undef, undef, undef, undef, undef, undef, undef, undef, undef] ∧ w'.heap = v4.heap.push (.cells #[.slice none 0 0, .slice none 0 0] 68)) nobody ⟨_, Try.func19⟩ l8 ?_ he4 (hF.sim hs4) (fun T => ?_) (fun t5 v5 T d0 w5 _ he5 hR5 hs5 => ?_)
    · intro i y hi hy
      have hi : i ∈ ([13, 30, 31] : List Nat) := Classical.not_not.1 (of_decide_eq_false hi)
      simp only [List.mem_cons, List.not_mem_nil, or_false] at hi
      rcases hi with rfl | rfl | rfl
      all_goals (obtain rfl := Option.some.inj hy; exact undef_ok)
    · refine Code.wp_mono ?_ (hr8 (v := onT v4 T 0))
      rintro e a' w' ⟨g1, _, g2, g3⟩
      exact ⟨g1, g2, g3⟩
    obtain ⟨ht5, hv5⟩ := hR5
    have hv5 : v5.heap = v4.heap.push (.cells #[.slice none 0 0, .slice none 0 0] 68) := hv5
    obtain rfl := ht5
    have hsz4 : v4.heap.size = N + 4 := by rw [hv4, Array.size_push, hsz3]
    rw [hsz4]
    have hN := HNN.out
    obtain ⟨p1, p2, p3, p4, p5, p6, p7⟩ := push5 v.heap (.cells #[.func (.func f) #[] caps] 41) (.chan 0 #[] false 0 0 false) (.cells #[.chan (some (N + 1))] 54) (.cells #[] 64 : Obj) (.cells #[.slice none 0 0, .slice none 0 0] 68)
    rw [← hv1, ← hv2, ← hv3, ← hv4, ← hv5, ← hN] at p1 p2 p3 p4 p5 p6 p7
    clear hN
    have z4 : ∀ x, x ≠ N + 3 → b4.shun x = b.shun x := fun x hx => by rw [b4s, upd_ne _ _ hx]
    have hs6 : Sim b4.shun (upd (upd b.F N 1) (N + 2) 1) (frostW (frostW v5 N 1) (N + 2) 1) w5 := by
      rw [b4F] at hs5
      exact (hs5.frost p3 ((z4 N (by omega)).trans (nZ N (by omega))) (nF N (by omega))).frost ((frostW_ne (by omega)).trans p5) ((z4 (N + 2) (by omega)).trans (nZ (N + 2) (by omega))) (by rw [upd_ne _ _ (by omega)]; exact nF (N + 2) (by omega))
    have he6 : Even (ZT b4.shun (frostW (frostW v5 N 1) (N + 2) 1).heap.size) (frostW (frostW v5 N 1) (N + 2) 1) := by
      rw [frostW_size, frostW_size]; exact (he5.frost N 1).frost (N + 2) 1
    have sz6 : (frostW (frostW v5 N 1) (N + 2) 1).heap.size = N + 5 := by rw [frostW_size, frostW_size]; exact p1
    have ol6 : ∀ x, x ≠ N → x ≠ N + 2 → (frostW (frostW v5 N 1) (N + 2) 1).heap[x]? = v5.heap[x]? := fun x h1 h2 => by rw [frostW_ne h2, frostW_ne h1]
    have e6a : (frostW (frostW v5 N 1) (N + 2) 1).heap[N]? = some (.cells #[.func (.func f) #[] caps] 41 (0, 1)) := by rw [frostW_ne (by omega)]; exact frostW_self p3
    have e6c : (frostW (frostW v5 N 1) (N + 2) 1).heap[N + 2]? = some (.cells #[.chan (some (N + 1))] 54 (0, 1)) := frostW_self ((frostW_ne (by omega)).trans p5)
    have e6b := (ol6 (N + 1) (by omega) (by omega)).trans p4
    have e6e := (ol6 (N + 4) (by omega) (by omega)).trans p7
    generalize frostW (frostW v5 N 1) (N + 2) 1 = v6 at hs6 he6 sz6 ol6 e6a e6c e6b e6e
    have ol6' : ∀ x, x < N → v6.heap[x]? = v.heap[x]? := fun x hx => (ol6 x (by omega) (by omega)).trans (p2 x (by have := HNN.out; omega))
    refine At.frost (F' := upd (upd b.F N 1) (N + 2) 1) (fun x => ?_) (fun x hx => ?_) ?_
    · rw [b4F]
      by_cases e2 : x = N + 2
      · rw [e2, nF (N + 2) (by omega)]; exact Nat.zero_le _
      · rw [upd_ne _ _ e2]
        by_cases e3 : x = N
        · rw [e3, nF N (by omega)]; exact Nat.zero_le _
        · rw [upd_ne _ _ e3]; exact Nat.le_refl _
    · obtain ⟨h0, cs0, t0, _, h2⟩ := hs6.ice x hx
      exact ⟨h0, cs0, t0, h2⟩
    obtain ⟨b6, hb6⟩ : ∃ b6, b6 = ({ b4 with F := upd (upd b.F N 1) (N + 2) 1 } : Bd) := ⟨_, rfl⟩
    rw [← hb6]
    have b6s : b6.shun = upd b.shun (N + 3) true := by rw [hb6]; exact b4s
    have b6F : b6.F = upd (upd b.F N 1) (N + 2) 1 := by rw [hb6]
    have b6r : b6.role = b.role := by rw [hb6, hb4]
    have b6n : b6.n = b.n := by rw [hb6, hb4]
    have b6ru : b6.rung = b.rung := by rw [hb6, hb4]
    have b6wg : b6.wg = upd b.wg (N + 3) (some (b.n, b.n, 0)) := by rw [hb6, hb4]
    have b6wt : b6.wait = b.wait := by rw [hb6, hb4]
    have b6ear : b6.ear = b.ear := by rw [hb6, hb4]
    rw [b4s, ← b6s, ← b6F] at hs6
    rw [b4s, ← b6s] at he6
    have z6 : ∀ x, x ≠ N + 3 → b6.shun x = b.shun x := fun x hx => by rw [b6s, upd_ne _ _ hx]
    have hF : Off b6.shun w5 w5 := Off.refl _ _
    have hhire := @hire_loop Post h σ n b v O J s0 (N + 5) np pc pa (D : Nat) (c :: cs) N (N + 4) (N + 2) N (N + 1) (N + 3) b.n f caps (by rw [HNN.out]; exact hJS) hear hwt (by omega) hgr (fun r b1 v1 w1 hr hrn H1 x1 x4 x6 x7 x10 x14 x15 x16 x17 x18 x19 x20 x21 x22 x23 x24 x25 x26 x27 x28 x29 x30 x31 x32 x33 x34 x35 x36 x37 x38 x39 x40 x41 x42 x43 x44 x45 x46 x47 x48 x49 x50 x51 x52 x53 x54 x55 x56 x57 x58 x59 x60 x61 x62 x63 x64 x65 x66 x67 x68 x69 x70 x71 x72 x73 x74 x75 x76 x77 x78 x79 x80 x81 x82 x83 x84 x85 x86 => by
      obtain ⟨⟨q1, q2, q3, q4, q5, q6, q7, q8, q9⟩⟩ := hr
      subst hrn
      refine run_on (l := l) (np := np) (fn := fn) (next := next) (by rw [q8, q9]; exact SC) (by rw [q8]; exact hf) hname hb (by rw [q1, HNN.out]; exact hJS) hear hwt hh hhn (by rw [q1, HNN.out]; exact ht0) hup ⟨fun i x hx => ?_⟩ hl (by omega) (by omega) h64 (by omega) (by omega) H1 (fun b' v' w' O' mv E => fin b' v' w' O' mv (by rw [← HNN.out, ← q1]; exact E)) x1 x4 x6 x7 x10 x14 x15 x16 x17 x18 x19 x20 x21 x22 x23 x24 x25 x26 x27 x28 x29 x30 x31 x32 x33 x34 x35 x36 x37 x38 x39 x40 x41 x42 x43 x44 x45 x46 x47 x48 x49 x50 x51 x52 x53 x54 x55 x56 x57 x58 x59 x60 x61 x62 x63 x64 x65 x66 x67 x68 x69 x70 x71 x72 x73 x74 x75 x76 x77 x78 x79 x80 x81 x82 x83 x84 x85 x86
      obtain ⟨p, o, g1, g2, g3, g4⟩ := hP i x hx
      exact ⟨p, o, g1, g2, by rw [q1, HNN.out]; exact lt_of_cell g2, g3, g4⟩)
    simp only [runAt, loopHire, tailPicks, bodyRun, Try.f19, Option.getD_some] at hhire
    refine At.goes0 (n := 20) ?_
    u_c stepG_seq ro_off2 hF
    u_c stepG_seq ro_off2 hF
    u_reg ro_off2 hF
    u_op ro_off2 hF
    u_op ro_off2 hF
    u_c stepG_region_end ro_off2 hF
    u_c stepG_block ro_off2 hF
    u_c stepG_loop ro_off2 hF
    refine Goes.stop (fun wF q => ?_)
    replace hF := ro_off2 hF q
    clear q
    refine hhire n ⟨0, 0, N + 4, 0, N + 3, N + 2, N, N + 1, N, N + 5, b.n, fun _ => 0, fun _ => 0, fun _ => 0, fun _ => 0, fun _ => 0, f, caps⟩ b6 v6 wF (Nat.zero_add _) ⟨⟨rfl, rfl, rfl, rfl, rfl, rfl, rfl, rfl, rfl⟩⟩ ?_ _ _ _ _ _ _ _ _ _ _ _ _ _ _ _ _ _ _ _ _ _ _ _ _ _ _ _ _ _ _ _ _ _ _ _ _ _ _ _ _ _ _ _ _ _ _ _ _ _ _ _ _ _ _ _ _ _ _ _ _ _ _ _ _ _ _ _ _ _ _ _ _ _ _ _ _ ?_
    · have hN := HNN.out
      have cell6 : ∀ {x : Nat} {i : Nat} {u : Value} {cs0 : Array Value} {t0 : TypeId} {f0 : Nat × Nat}, v6.heap[x]? = some (.cells cs0 t0 f0) → cs0[i]? = some u → v6.cell? ⟨x, i, none⟩ = some u := fun {x i u cs0 t0 f0} h1 h2 => by
        unfold World.cell?
        simp only [h1]
        exact h2
      have frz6 : ∀ i, v6.frozen? ⟨N + 4, i, none⟩ = false := fun i => by
        unfold World.frozen?
        simp only [e6e]
        simp
      refine ⟨⟨.slice none 0 0, cell6 (i := 0) e6e rfl, OwnT.nil _ _, fun h => absurd h (Nat.lt_irrefl 0)⟩, cell6 (i := 1) e6e rfl, frz6 0, frz6 1, ⟨?_, ?_, ?_, ?_, ?_⟩, ?_, fun k hk => absurd hk (Nat.not_lt_zero k), fun k hk => absurd hk (Nat.not_lt_zero k), ⟨cell6 (i := 0) e6c rfl, ?_, ?_, ?_, ?_, ?_⟩, ⟨cell6 (i := 0) e6a rfl, ?_, ?_, ?_, ?_, ?_⟩, ⟨⟨0, e6b⟩, ?_, ?_, ?_, ?_⟩, b6wg, ⟨?_, ?_, ?_⟩, ?_, fun x _ => by rw [b6r], ⟨b6n, rfl⟩, fun x hx => ?_, fun x => ?_, fun x hx => ?_, fun x _ => by rw [b6ru], b6wt, b6ear, by rw [hb6, hb4]; exact ⟨rfl, rfl⟩, ?_, fun x hx => ?_, fun x hx => ?_, hF.sim hs6, he6, ⟨fun x st s' h1 c' h2 => ?_, fun x hx => ?_, fun x hx => ?_⟩⟩
      · show N + 4 < N + 5; omega
      · show N ≤ N + 4; omega
      · show N ≤ N + 5; omega
      · rw [sz6]; exact Nat.le_refl _
      · exact sz6.symm
      · show b6.shun (N + 4) = false
        rw [z6 _ (by omega)]; exact nZ _ (by omega)
      · rw [b6F]; simp [iceF, upd_same]
      · show N + 2 < N + 5; omega
      · show b6.shun (N + 2) = false
        rw [z6 _ (by omega)]; exact nZ _ (by omega)
      · show N ≤ N + 2; omega
      · show N + 2 ≠ N + 4; omega
      · rw [b6F]; simp [iceF, upd_same, upd_ne _ _ (show N ≠ N + 2 by omega)]
      · show N < N + 5; omega
      · show b6.shun N = false
        rw [z6 _ (by omega)]; exact nZ _ (by omega)
      · exact Nat.le_refl _
      · show N ≠ N + 4; omega
      · show b6.shun (N + 1) = false
        rw [z6 _ (by omega)]; exact nZ _ (by omega)
      · show b6.rung (N + 1) = false
        rw [b6ru]
        cases e : b.rung (N + 1) with
        | false => rfl
        | true => have := ht0.rung _ e; omega
      · show N ≤ N + 1; omega
      · show N + 1 < N + 5; omega
      · show b6.shun (N + 3) = true
        rw [b6s, upd_same]
      · show N + 3 < N + 5; omega
      · show N ≤ N + 3; omega
      · show 0 < b.n; omega
      · have hx : x < N := hx
        rw [b6F, upd_ne _ _ (by omega), upd_ne _ _ (by omega)]
      · rw [b6F]
        by_cases e2 : x = N + 2
        · rw [e2, nF (N + 2) (by omega)]; exact Nat.zero_le _
        · rw [upd_ne _ _ e2]
          by_cases e3 : x = N
          · rw [e3, nF N (by omega)]; exact Nat.zero_le _
          · rw [upd_ne _ _ e3]; exact Nat.le_refl _
      · have hx : x < N := hx
        exact z6 x (by omega)
      · refine hJS _ _ _ _ _ hJ fun x hx => ol6' x ?_
        rcases hx with hx | hx
        · omega
        · have := (hO x hx).2.2; omega
      · obtain ⟨g1, g2, g3⟩ := hO x hx
        have hx : x < N := by omega
        exact ⟨by rw [b6F, upd_ne _ _ (by omega), upd_ne _ _ (by omega)]; exact g1, by rw [z6 x (by omega)]; exact g2, hx⟩
      · exact ol6' x hx
      · rw [b6r] at h1
        have := ht0.seat x st s' h1 c' h2
        omega
      · rw [b6wg] at hx
        by_cases e2 : x = N + 3
        · omega
        · rw [upd_ne _ _ e2] at hx
          have := ht0.wg x hx; omega
      · rw [b6ru] at hx
        have := ht0.rung x hx; omega
    · intro x hx
      simp only [List.mem_cons, List.not_mem_nil, or_false, or_self] at hx
      subst hx
      exact undef_ok
  · have hrun : runR next n l D s0 = (s0, [], wrongS n np D) := by
      unfold runR
      rw [hl, if_neg hE]
    rw [hrun] at fin
    simp only at fin
    generalize wrongS n np D = E at hE fin
    have hE1 : (E != 0) = true := by simpa using hE
    have hE2 : (E == 0) = false := by simpa using hE
    have hE3 : decide (E = 0) = false := by simpa using hE
    refine At.goes0 (n := 20) ?_
    u_op ro_off2 hF
    u_c stepG_region_end ro_off2 hF
    u_c stepG_seq ro_off2 hF
    u_reg ro_off2 hF
    u_op ro_off2 hF
    u_op ro_off2 hF
    u_c stepG_region_end ro_off2 hF
    u_cond true ro_off2 hF
    u_c stepG_seq ro_off2 hF
    u_reg ro_off2 hF
    u_op ro_off2 hF
    u_op ro_off2 hF
    u_op ro_off2 hF
    u_c stepG_region_end ro_off2 hF
    u_c stepG_ret' ro_off2 hF
    refine Goes.stop (fun wD q => ?_)
    replace hF := ro_off2 hF q
    clear q
    refine At.list rfl fun w₁ q => ⟨_, #[], stepG_leave rfl rfl Try.func19 (results_tmp2 rfl _ _ w₁) (events_results_tmp2 rfl _ _), by simp, ?_⟩
    refine fin b v2 w₁ O (.slice none 0 0) ⟨⟨Nat.le_refl _, rfl, fun _ _ => rfl, fun _ => Nat.le_refl _, fun _ _ => rfl, fun _ _ => rfl, rfl, rfl, rfl, rfl, rfl⟩, ⟨fun x st s' h1 c' h2 => ?_, fun x hx => ?_, fun x hx => ?_⟩, ⟨0, Nat.le_refl _, hJS _ _ _ _ _ hJ fun x hx => hol2 x ?_⟩, fun x hx => ⟨(hO x hx).1, (hO x hx).2.1, ?_⟩, fun x hx => .inl hx, fun x h1 _ => hol2 x (by have := HNN.out; omega), (ro_off2 hF q).sim hs2, he2, OwnM.nil _ _, (fun g hg => by cases hg), (fun g hg => by cases hg), by have := HNN.out; omega⟩
    · have := ht0.seat x st s' h1 c' h2; have := HNN.out; omega
    · have := ht0.wg x hx; have := HNN.out; omega
    · have := ht0.rung x hx; have := HNN.out; omega
    · have := HNN.out
      rcases hx with hx | hx
      · omega
      · have := (hO x hx).2.2; omega
    · have := (hO x hx).2.2; have := HNN.out; omega
end
end Go.Proofs.Ytaiinkeendejdaa

