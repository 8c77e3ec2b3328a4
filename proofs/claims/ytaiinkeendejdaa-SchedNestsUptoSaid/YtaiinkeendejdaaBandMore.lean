/-
  A BAND OF GOROUTINES OF WHICH ONE HOLDS: what the holder knows of the band; a callee with two results; cells are frosted; a group's block beside the lone world. No condition.
  And: A BAND OF GOROUTINES OF WHICH ONE HOLDS: the holder calls a function that runs alone; a function value is called. No condition.
  And: A BAND OF GOROUTINES OF WHICH ONE HOLDS: the holder runs a piece of its frame's code alone: a statement, one operation. No condition.
-/
import Derived.Test.YtaiinkeendejdaaLiftFun
import Derived.Test.YtaiinkeendejdaaBandWait2
namespace Go.Proofs.Ytaiinkeendejdaa
open Go.RowKit Go.Conc
section
variable {P : Program} {Z : Nat → Bool} {I : Nat → Nat} {M : FuncId → Nat → Bool} {W : FuncId → Oper → Bool} {F : FuncId → Bool}
theorem will_oper (H : FunAll P M W F) {f : FuncId} {t : Array Value} {ops : Array Oper} {i : Nat} {rest : List Nat} {v : World} {o : Oper} {R : Value → World → Prop} (ht : SlotsOk (ZT Z v.heap.size) (M f) t) (he : Even (ZT Z v.heap.size) v)
    (ho : ops[i]? = some o) (hw : Region.wanted o (yielded ops t) = true) (hWo : W f o = true)
    (hrun : ∀ T d, ∃ n x v', (execOp (Act.eval ⟨t, []⟩) o).run P (onT v T d) = .ok n v' ∧ (n = .value x ∨ (n = .skip ∧ x = undef)) ∧ R x v') :
    Will false P Z I (fun c r u => r = false ∧ ∃ x T d, c = (⟨f, t, [.inRegion ops (i :: rest)]⟩ : Cl).fin x ∧ SlotsOk (ZT Z u.heap.size) (M f) c.t ∧ Even (ZT Z u.heap.size) u ∧ R x (onT u T d)) ⟨⟨f, t, [.inRegion ops (i :: rest)]⟩, false, [], v⟩ := by
  refine Will.step fun w hs => ?_
  have hs1 : Sim Z I (onT v w.tape w.drawn) w := hs.onT _ _
  have hp : ∀ Z', (∀ b, Z' b = true → ZT Z v.heap.size b = true) → Safe P Z' (NextZ Z' F) (execOp (Act.eval ⟨t, []⟩) o) := fun Z' hz' => (H Z').op f o hWo (Act.eval ⟨t, []⟩) (eval_ok (ht.mono hz')) (fun _ => rfl) fun _ => rfl
  obtain ⟨n, x, u, hr, hn, hR⟩ := hrun w.tape w.drawn
  have hmid : (⟨f, t, [.inRegion ops (i :: rest)]⟩ : Cl).Mid := ⟨ops, i, rest, [], rfl⟩
  rcases safe_cases (v := onT v w.tape w.drawn) (A := fun Z' => NextZ Z' F) (execOp (Act.eval ⟨t, []⟩) o) hp he ⟨I, w, hs1⟩ with ⟨n', v', es, m, e, hnk, k1, h1, h2⟩ | ⟨y, v', es, e, _⟩
  · have e0 := Sem.runT_fst P (execOp (Act.eval ⟨t, []⟩) o) (onT v w.tape w.drawn) #[]
    rw [e, hr] at e0
    injection e0 with e1 e2
    subst e1; subst e2
    obtain ⟨w', e', o1, o2, o3, o4, o5, o6⟩ := h2 I w hs1 fun _ _ _ => rfl
    have hx : NoZ (ZT Z v'.heap.size) x := by
      rcases hn with rfl | ⟨rfl, rfl⟩
      · exact hnk
      · exact undef_ok
    refine ⟨⟨(⟨f, t, [.inRegion ops (i :: rest)]⟩ : Cl).fin x, false, [], v'⟩, w', seen P f es, ⟨fun main base tl _ => ?_, o2, fun ev hev => ?_, o3, by omega, o5, o6, fun a ha => hs1.iceStands k1 o2 ha, fun b ob hb hob => hs1.objStands k1 o2 o5 hb hob, o2.size ▸ h1.simT o2, fun b hb => ?_, o2.os.symm.trans (k1.sys.1.trans hs1.os), o2.output.symm.trans (k1.sys.2.trans hs1.output)⟩, Will.stop ⟨rfl, x, v'.tape, v'.drawn, rfl, ?_, h1, hR⟩⟩
    · have step : stepG P main (conf (⟨f, t, [.inRegion ops (i :: rest)]⟩ : Cl) false [] tl base) w = stepG.apply P true ((⟨f, t, [.inRegion ops (i :: rest)]⟩ : Cl).fr tl) base none (execOp (Act.eval ⟨t, []⟩) o) w :=
        stepG_oper (b := { fn := f, tmps := #[], todo := [], defers := [], mode := .run, kind := .normal }) (a := ⟨t, []⟩) (k := tl) ho hw
      have kind : (((⟨f, t, [.inRegion ops (i :: rest)]⟩ : Cl).fr tl).kind == CallKind.early) = false := rfl
      rw [step]
      have hfin := Cl.fin_fr hmid tl x
      rcases hn with rfl | ⟨rfl, rfl⟩
      all_goals
        unfold stepG.apply
        simp only [e', kind, if_true, Bool.false_eq_true, if_false, GStep.after, hfin, conf, Cl.g, G, Array.append_empty]
        rfl
    · rcases o1 ev (mem_seen hev) with ⟨a, wr, g1, g2, g3, g4⟩ | g
      · refine .inl ⟨a, wr, g1, g2, fun hwr => ?_, g4⟩
        cases hi : iceF I a with
        | false => rfl
        | true =>
          have := g3 hwr
          rw [hs1.iceV hi] at this; cases this
      · exact .inr g
    · obtain ⟨_, c, t, _, h2⟩ := o2.ice b hb
      exact ⟨c, t, h2⟩
    · have := Cl.fin_f (⟨f, t, [.inRegion ops (i :: rest)]⟩ : Cl) x
      show SlotsOk _ (M f) (match (ops[i]?).bind (·.dst) with | some d => t.setIfInBounds d x | none => t)
      have ht' : SlotsOk (ZT Z v'.heap.size) (M f) t := ht.mono (ZT_le k1.size)
      split
      · exact ht'.set _ hx
      · exact ht'
  · have e0 := Sem.runT_fst P (execOp (Act.eval ⟨t, []⟩) o) (onT v w.tape w.drawn) #[]
    rw [e, hr] at e0
    cases e0
end
section
variable {P : Program} {ty : TypeId} {Post : Value → World → Prop} {b : Bd} {h : Nat} {M : FuncId → Nat → Bool} {W : FuncId → Oper → Bool} {F : FuncId → Bool}
/-- ████ A STATEMENT OF THE HOLDER's FRAME, walked alone ████ -/
theorem At.piece (H : FunAll P M W F) {f : FuncId} {t : Array Value} {c : Code} {tl : List Item} {base : List Frame} {v w : World} {R : Act → World → Prop}
    (hf : ∃ fn, P.funcs[f]? = some fn) (hcd : codeC (W f) c = true) (ht : SlotsOk (ZT b.shun v.heap.size) (M f) t) (he : Even (ZT b.shun v.heap.size) v) (hs : Sim b.shun b.F v w)
    (hc : ∀ T, c.wp P (fun e a' w' => e = .normal ∧ R a' w') ⟨t, []⟩ (onT v T 0))
    (fin : ∀ t' v' T d w', SlotsOk (ZT b.shun v'.heap.size) (M f) t' → Even (ZT b.shun v'.heap.size) v' → R ⟨t', []⟩ (onT v' T d) → Sim b.shun b.F v' w' → At P ty Post b h (G ((baseF f).at ⟨t', []⟩ tl) base) w') :
    At P ty Post b h (G ((baseF f).at ⟨t, []⟩ (.code c :: tl)) base) w := by
  have hw := will_of_items (I := b.F) (R := R) (k := [.code c]) H ⟨hf, ht, fun x hx => by rw [List.mem_singleton] at hx; subst hx; exact hcd⟩ he ⟨_, w, hs⟩ fun T => by
    obtain ⟨e, a', w', ⟨rfl, hR⟩, harr⟩ := hc T (baseF f) [] [door P]
    exact ⟨a', w', hR, harr⟩
  refine At.will (tl := tl) (base := base) (by simp) hw (fun c' r v' ⟨hr, hk, hf', hv, T, d, hR⟩ w' hs' => ?_) w hs
  obtain ⟨f', t', k'⟩ := c'
  simp only at hr hk hf'
  subst hr; subst hk; subst hf'
  exact fin t' v' T d w' hv.c.t hv.even hR hs'
/-- ████ ONE OPERATION OF THE HOLDER's FRAME, walked alone ████ -/
theorem At.oper (H : FunAll P M W F) {f : FuncId} {t : Array Value} {ops : Array Oper} {i : Nat} {rest : List Nat} {k : List Item} {cs : List Frame} {v w : World} {o : Oper} {R : Value → World → Prop} (ho : ops[i]? = some o)
    (hw : Region.wanted o (yielded ops t) = true) (hWo : W f o = true) (ht : SlotsOk (ZT b.shun v.heap.size) (M f) t) (he : Even (ZT b.shun v.heap.size) v) (hs : Sim b.shun b.F v w)
    (hrun : ∀ T d, ∃ n x v', (execOp (Act.eval ⟨t, []⟩) o).run P (onT v T d) = .ok n v' ∧ (n = .value x ∨ (n = .skip ∧ x = undef)) ∧ R x v')
    (fin : ∀ x v' T d w', SlotsOk (ZT b.shun v'.heap.size) (M f) ((⟨t, []⟩ : Act).put o.dst x).tmps → Even (ZT b.shun v'.heap.size) v' → R x (onT v' T d) → Sim b.shun b.F v' w' → At P ty Post b h (G ((baseF f).at ((⟨t, []⟩ : Act).put o.dst x) (.inRegion ops rest :: k)) cs) w') :
    At P ty Post b h (G ((baseF f).at ⟨t, []⟩ (.inRegion ops (i :: rest) :: k)) cs) w := by
  refine At.will (tl := k) (base := cs) (by simp) (will_oper (I := b.F) (R := R) (rest := rest) H ht he ho hw hWo hrun) (fun c' r v' ⟨hr, x, T, d, hc, ht', he', hR⟩ w' hs' => ?_) w hs
  subst hr; subst hc
  have e1 : ((⟨f, t, [.inRegion ops (i :: rest)]⟩ : Cl).fin x) = ⟨f, ((⟨t, []⟩ : Act).put o.dst x).tmps, [.inRegion ops rest]⟩ := by
    simp only [Cl.fin, ho, Option.bind_some]
    cases o.dst <;> rfl
  rw [e1] at ht' ⊢
  have e2 : conf (⟨f, ((⟨t, []⟩ : Act).put o.dst x).tmps, [.inRegion ops rest]⟩ : Cl) false [] k cs = G ((baseF f).at ((⟨t, []⟩ : Act).put o.dst x) (.inRegion ops rest :: k)) cs := by
    cases e : o.dst <;> rfl
  rw [e2]
  exact fin x v' T d w' ht' he' hR hs'
end
end Go.Proofs.Ytaiinkeendejdaa
namespace Go.Proofs.Ytaiinkeendejdaa
open Go.RowKit Go.Conc
section
variable {P : Program} {ty : TypeId} {Post : Value → World → Prop} {b : Bd} {h : Nat} {M : FuncId → Nat → Bool} {W : FuncId → Oper → Bool} {F : FuncId → Bool}
/-- ████ A CALLEE THAT RUNS ALONE, with one result ████ -/
theorem At.callee (H : FunAll P M W F) {f : FuncId} {fn : Func} {body : Code} {r : Tmp} {args : Array Value} {c : Frame} {cs : List Frame} {v w : World} {R : Value → World → Prop} (hF : F f = true) (hf : P.funcs[f]? = some fn) (hb : fn.body = some body)
    (hres : fn.results = #[.tmp r]) (hM : M f r = false) (hargs : ∀ x ∈ args, NoZ (ZT b.shun v.heap.size) x) (he : Even (ZT b.shun v.heap.size) v) (hs : Sim b.shun b.F v w)
    (hc : ∀ T, Calls P f args (onT v T 0) fun e v' => ∃ a, e = .returned a ∧ R a v')
    (fin : ∀ a v' T d w', NoZ (ZT b.shun v'.heap.size) a → Even (ZT b.shun v'.heap.size) v' → R a (onT v' T d) → Sim b.shun b.F v' w' → At P ty Post b h (G (c.finish a) cs) w') :
    At P ty Post b h (G (Frame.enter P f args .normal) (c :: cs)) w := by
  have hw := will_of_calls (I := b.F) (R := R) H hF hf hb hargs he ⟨_, w, hs⟩ hc
  have hent : G (Frame.enter P f args .normal) (c :: cs) = conf (⟨f, startT fn args, [.code body]⟩ : Cl) false [] [] (c :: cs) := by
    simp [Frame.enter, hf, hb, conf, calls, tlOf, Cl.g, Cl.fr, startT]
  rw [hent]
  refine At.will (tl := []) (base := c :: cs) (by simp) hw (fun c' r' v' ⟨hv, T, d, hm, hfn, fn', a, hf', hrun, hR⟩ w' hs' => ?_) w hs
  rw [hf] at hf'
  obtain rfl := Option.some.inj hf'
  have hr' : r' = true := by
    cases r' with
    | true => rfl
    | false => cases hm
  subst hr'
  obtain ⟨f', t', k'⟩ := c'
  have ef : f' = f := hfn
  subst ef
  have hrun' : (results fn t').run P (onT v' T d) = .ok a (onT v' T d) := hrun
  rw [results_tmp hres t' P (onT v' T d)] at hrun'
  injection hrun' with ea _
  have ha : NoZ (ZT b.shun v'.heap.size) a := by
    rw [← ea]
    exact eval_ok hv.c.t (.tmp r) (by simp [okX, hM])
  refine At.list rfl fun w₁ o => ⟨_, #[], stepG_leave (b := baseF f') (a := ⟨t', []⟩) (todo := k' ++ []) rfl rfl hf (results_tmp hres _ P w₁) (events_results_tmp hres _ _), by simp, ?_⟩
  show At P ty Post b h (G (c.finish (t'.getD r undef)) cs) w₁
  rw [ea]
  exact fin a v' T d w₁ ha hv.even hR (o.off.sim hs')
end
section
variable {P : Program} {main : Bool} {b : Frame} {a : Act} {k : List Item} {cs : List Frame} {w : World}
theorem run_call_clos {o : Oper} {x : Operand} {f : FuncId} {caps : Array Value} {fn : Func} {args : Array Operand} {ats : Array TypeId} (hop : o.op = .call { callee := .value x, args, argTypes := ats }) (hx : a.eval x = .func (.func f) #[] caps)
    (hf : P.funcs[f]? = some fn) (hname : (fn.name == "runtime.NumGoroutine") = false) (hb : fn.body.isNone = false) : (execOp a.eval o).run P w = .ok (.enter f (args.map a.eval ++ caps)) w ∧ ∀ es, (execOp a.eval o).events P w es = es := by
  have h1 : ¬ fn.name = "runtime.NumGoroutine" := by simpa using hname
  have h2 : ¬ fn.body = none := by cases hx : fn.body <;> simp_all
  unfold execOp
  constructor
  · simp [hop, resolve, Deferred.ofValue, invoke, callFunc, hf, h1, h2, hx]
  · intro es
    simp [hop, resolve, Deferred.ofValue, invoke, callFunc, hf, h1, h2, hx]
/-- the call of a function value -/
theorem stepG_clos {ops : Array Oper} {i : Nat} {rest : List Nat} {o : Oper} {x : Operand} {f : FuncId} {caps : Array Value} {fn : Func} {args : Array Operand} {ats : Array TypeId} (ho : ops[i]? = some o) (hw : Region.wanted o (yielded ops a.tmps) = true) (hk : b.kind ≠ .early)
    (hop : o.op = .call { callee := .value x, args, argTypes := ats }) (hx : a.eval x = .func (.func f) #[] caps) (hf : P.funcs[f]? = some fn) (hname : (fn.name == "runtime.NumGoroutine") = false) (hb : fn.body.isNone = false) :
    stepG P main (G (b.at a (.inRegion ops (i :: rest) :: k)) cs) w = .go (G (Frame.enter P f (args.map a.eval ++ caps) .normal) (b.at a (.inRegion ops (i :: rest) :: k) :: cs)) w #[] := by
  obtain ⟨h1, h2⟩ := run_call_clos (P := P) (a := a) (w := w) hop hx hf hname hb
  rw [stepG_enter ho hw hk h1]
  have : listed P b.fn a o w = #[] := by unfold listed; rw [h2]; exact seen_none P _
  rw [this]
end
section
variable {P : Program} {ty : TypeId} {Post : Value → World → Prop} {b : Bd} {h : Nat}
/-- the holder reads a cell -/
theorem At.ld {bb : Frame} {a : Act} {ops : Array Oper} {i : Nat} {rest : List Nat} {k : List Item} {cs : List Frame} {w : World} {o : Oper} {ad : Addr} {x : Value} (ho : ops[i]? = some o) (hw : Region.wanted o (yielded ops a.tmps) = true) (hk : bb.kind ≠ .early)
    (hx : w.cell? ad = some x) (hnz : b.shun ad.block = false) (hr : ∀ w₁ : World, w₁.cell? ad = some x → (execOp a.eval o).run P w₁ = .ok (.value x) w₁ ∧ (execOp a.eval o).events P w₁ #[] = #[⟨.cell ad, false, false⟩])
    (hA : At P ty Post b h (G (bb.at (a.put o.dst x) (.inRegion ops rest :: k)) cs) w) : At P ty Post b h (G (bb.at a (.inRegion ops (i :: rest) :: k)) cs) w := by
  refine At.list rfl fun w₁ r => ?_
  have hx' : w₁.cell? ad = some x := by rw [r.off.cell hnz]; exact hx
  obtain ⟨h1, h2⟩ := hr w₁ hx'
  refine ⟨_, _, stepG_value ho hw hk h1, fun e he => ?_, hA.off r.off⟩
  have he' := mem_seen he
  rw [h2] at he'
  simp only [List.mem_toArray, List.mem_singleton] at he'
  subst he'
  refine evO_off (.inl ⟨ad, false, rfl, hnz, by simp, ?_⟩)
  unfold World.cell? at hx'
  cases e : w₁.heap[ad.block]? with
  | none => rw [e] at hx'; cases hx'
  | some ob => exact (Array.getElem?_eq_some_iff.1 e).1
end
end Go.Proofs.Ytaiinkeendejdaa
namespace Go.Proofs.Ytaiinkeendejdaa
open Go.RowKit Go.Conc
open Go.ConcN (sumTo upd sumTo_upd upd_ne upd_same WgLive)
open Go.ConcR (KK wgBlock WgAt stA smA rd wr mk DC0)
section
variable {P : Program} {main : Bool} {b : Frame} {a : Act} {k : List Item} {cs : List Frame} {w : World}
/-- the call of a function -/
theorem stepG_call {ops : Array Oper} {i : Nat} {rest : List Nat} {o : Oper} {f : FuncId} {fn : Func} {c : Code} {args : Array Operand} {ats : Array TypeId} (ho : ops[i]? = some o) (hw : Region.wanted o (yielded ops a.tmps) = true) (hk : b.kind ≠ .early)
    (hop : o.op = .call { callee := .value (.func f), args, argTypes := ats }) (hf : P.funcs[f]? = some fn) (hname : (fn.name == "runtime.NumGoroutine") = false) (hb : fn.body = some c) :
    stepG P main (G (b.at a (.inRegion ops (i :: rest) :: k)) cs) w = .go (G (Frame.enter P f (args.map a.eval) .normal) (b.at a (.inRegion ops (i :: rest) :: k) :: cs)) w #[] := by
  have hb' : fn.body.isNone = false := by rw [hb]; rfl
  rw [stepG_enter ho hw hk (run_call_body hop hf hname hb')]
  have : listed P b.fn a o w = #[] := by unfold listed; rw [events_call_body hop hf hname hb']; exact seen_none P _
  rw [this]
end
section
variable {P : Program} {ty : TypeId} {Post : Value → World → Prop} {b : Bd} {h : Nat}
/-- what the holder knows -/
theorem At.know {a : Goroutine} {w : World} (hA : b.role h = .mute → h < b.n → (∀ j, b.n ≤ j → b.role j = .mute) → (∀ x, b.F x ≠ 0 → b.shun x = false) → At P ty Post b h a w) : At P ty Post b h a w := fun gs w₁ sl T q S o ha =>
  hA S.hr (by have := (Array.getElem?_eq_some_iff.1 ha).1; rw [S.n] at this; exact this) (fun j hj => (S.above j hj).2) (fun x hx => (S.warm x hx).1) gs w₁ sl T q S o ha
/-- .. of the groups -/
theorem At.know2 {a : Goroutine} {w : World} (hA : (∀ Wg lo hi p, b.wg Wg = some (lo, hi, p) → hi ≤ b.n) → At P ty Post b h a w) : At P ty Post b h a w := fun gs w₁ sl T q S o ha =>
  hA (fun Wg lo hi p e => (S.groups Wg lo hi p e).2.2.2) gs w₁ sl T q S o ha
section
variable {M : FuncId → Nat → Bool} {W : FuncId → Oper → Bool} {F : FuncId → Bool}
/-- ████ A CALLEE THAT RUNS ALONE, with two results ████ -/
theorem At.callee2 (H : FunAll P M W F) {f : FuncId} {fn : Func} {body : Code} {r1 r2 : Tmp} {args : Array Value} {c : Frame} {cs : List Frame} {v w : World} {R : Value → World → Prop} (hF : F f = true) (hf : P.funcs[f]? = some fn) (hb : fn.body = some body)
    (hres : fn.results = #[.tmp r1, .tmp r2]) (hM1 : M f r1 = false) (hM2 : M f r2 = false) (hargs : ∀ x ∈ args, NoZ (ZT b.shun v.heap.size) x) (he : Even (ZT b.shun v.heap.size) v) (hs : Sim b.shun b.F v w)
    (hc : ∀ T, Calls P f args (onT v T 0) fun e v' => ∃ a, e = .returned a ∧ R a v')
    (fin : ∀ a v' T d w', NoZ (ZT b.shun v'.heap.size) a → Even (ZT b.shun v'.heap.size) v' → R a (onT v' T d) → Sim b.shun b.F v' w' → At P ty Post b h (G (c.finish a) cs) w') :
    At P ty Post b h (G (Frame.enter P f args .normal) (c :: cs)) w := by
  have hw := will_of_calls (I := b.F) (R := R) H hF hf hb hargs he ⟨_, w, hs⟩ hc
  have hent : G (Frame.enter P f args .normal) (c :: cs) = conf (⟨f, startT fn args, [.code body]⟩ : Cl) false [] [] (c :: cs) := by
    simp [Frame.enter, hf, hb, conf, calls, tlOf, Cl.g, Cl.fr, startT]
  rw [hent]
  refine At.will (tl := []) (base := c :: cs) (by simp) hw (fun c' r' v' ⟨hv, T, d, hm, hfn, fn', a, hf', hrun, hR⟩ w' hs' => ?_) w hs
  rw [hf] at hf'
  obtain rfl := Option.some.inj hf'
  have hr' : r' = true := by
    cases r' with
    | true => rfl
    | false => cases hm
  subst hr'
  obtain ⟨f', t', k'⟩ := c'
  have ef : f' = f := hfn
  subst ef
  have hrun' : (results fn t').run P (onT v' T d) = .ok a (onT v' T d) := hrun
  rw [results_tmp2 hres t' P (onT v' T d)] at hrun'
  injection hrun' with ea _
  have ha : NoZ (ZT b.shun v'.heap.size) a := by
    rw [← ea]
    refine .tuple _ fun y hy => ?_
    simp only [List.mem_toArray, List.mem_cons, List.not_mem_nil, or_false] at hy
    rcases hy with rfl | rfl
    · exact eval_ok hv.c.t (.tmp r1) (by simp [okX, hM1])
    · exact eval_ok hv.c.t (.tmp r2) (by simp [okX, hM2])
  refine At.list rfl fun w₁ o => ⟨_, #[], stepG_leave (b := baseF f') (a := ⟨t', []⟩) (todo := k' ++ []) rfl rfl hf (results_tmp2 hres _ P w₁) (events_results_tmp2 hres _ _), by simp, ?_⟩
  show At P ty Post b h (G (c.finish (.tuple #[t'.getD r1 undef, t'.getD r2 undef])) cs) w₁
  rw [ea]
  exact fin a v' T d w₁ ha hv.even hR (o.off.sim hs')
end
section
variable {M : FuncId → Nat → Bool} {W : FuncId → Oper → Bool} {F : FuncId → Bool}
/-- ████ THE REST OF THE HOLDER's FRAME, walked alone to its return ████ -/
theorem At.rest (H : FunAll P M W F) {f : FuncId} {t : Array Value} {c : Code} {base : List Frame} {v w : World} {R : Act → World → Prop}
    (hf : ∃ fn, P.funcs[f]? = some fn) (hcd : codeC (W f) c = true) (ht : SlotsOk (ZT b.shun v.heap.size) (M f) t) (he : Even (ZT b.shun v.heap.size) v) (hs : Sim b.shun b.F v w)
    (hc : ∀ T, c.wp P (fun e a' w' => e = .ret ∧ R a' w') ⟨t, []⟩ (onT v T 0))
    (fin : ∀ t' v' T d w' todo, SlotsOk (ZT b.shun v'.heap.size) (M f) t' → Even (ZT b.shun v'.heap.size) v' → R ⟨t', []⟩ (onT v' T d) → Sim b.shun b.F v' w' → At P ty Post b h (G { (baseF f).at ⟨t', []⟩ todo with mode := .returning } base) w') :
    At P ty Post b h (G ((baseF f).at ⟨t, []⟩ [.code c]) base) w := by
  have hw := will_of_rets (I := b.F) (R := R) (k := [.code c]) H ⟨hf, ht, fun x hx => by rw [List.mem_singleton] at hx; subst hx; exact hcd⟩ he ⟨_, w, hs⟩ fun T => by
    obtain ⟨e, a', w', ⟨rfl, hR⟩, harr⟩ := hc T (baseF f) [] [door P]
    exact ⟨a', w', hR, harr⟩
  refine At.will (tl := []) (base := base) (fun _ => rfl) hw (fun c' r v' ⟨hr, hf', hv, T, d, hR⟩ w' hs' => ?_) w hs
  obtain ⟨f', t', k'⟩ := c'
  simp only at hr hf'
  subst hr; subst hf'
  exact fin t' v' T d w' (k' ++ []) hv.c.t hv.even hR hs'
end
end
/-- the first n cells of block x are frosted -/
def frostO (n : Nat) : Obj → Obj
  | .cells c t _ => .cells c t (0, n)
  | o => o
def frostW (v : World) (x n : Nat) : World := { v with heap := v.heap.modify x (frostO n) }
theorem frostW_size (v : World) (x n : Nat) : (frostW v x n).heap.size = v.heap.size := by simp [frostW]
theorem frostW_ne {v : World} {x n y : Nat} (h : y ≠ x) : (frostW v x n).heap[y]? = v.heap[y]? := by
  simp only [frostW, Array.getElem?_modify]
  rw [if_neg fun e => h e.symm]
theorem frostW_self {v : World} {x n : Nat} {c : Array Value} {t : TypeId} {f : Nat × Nat} (h : v.heap[x]? = some (.cells c t f)) : (frostW v x n).heap[x]? = some (.cells c t (0, n)) := by
  simp only [frostW, Array.getElem?_modify, if_true, h]
  rfl
theorem frostW_cell (v : World) (x n : Nat) (a : Addr) : (frostW v x n).cell? a = v.cell? a := by
  unfold World.cell?
  by_cases e : a.block = x
  · simp only [frostW, Array.getElem?_modify, e, if_true]
    cases hx : v.heap[x]? with
    | none => rfl
    | some o => cases o <;> rfl
  · rw [frostW_ne e]
section
variable {Z : Nat → Bool} {F : Nat → Nat} {v w : World}
theorem Sim.frost (h : Sim Z F v w) {x n : Nat} {c : Array Value} {t : TypeId} (hx : v.heap[x]? = some (.cells c t (0, 0))) (hz : Z x = false) (hF : F x = 0) : Sim Z (upd F x n) (frostW v x n) w := by
  have hw : w.heap[x]? = some (.cells c t (0, 0)) := by rw [← h.heap x hz hF]; exact hx
  refine ⟨(frostW_size _ _ _).trans h.size, fun y hy hf => ?_, fun y hf => ?_, h.os, h.output, h.low, fun y hy => ?_⟩
  · by_cases e : y = x
    · subst e
      rw [upd_same] at hf
      subst hf
      rw [frostW_self hx]; exact hw.symm
    · rw [upd_ne _ _ e] at hf
      rw [frostW_ne e]; exact h.heap y hy hf
  · by_cases e : y = x
    · subst e
      rw [upd_same]
      exact ⟨hz, c, t, frostW_self hx, hw⟩
    · rw [upd_ne _ _ e] at hf ⊢
      rw [frostW_ne e]; exact h.ice y hf
  · unfold Dead
    rw [frostW_ne fun e => by rw [e, hz] at hy; cases hy]
    exact h.dead y hy
theorem Even.frost {Z : Nat → Bool} {v : World} (he : Even Z v) (x n : Nat) : Even Z (frostW v x n) := fun y o hy h => by
  by_cases e : y = x
  · subst e
    simp only [frostW, Array.getElem?_modify, if_true] at h
    cases hx : v.heap[y]? with
    | none => rw [hx] at h; cases h
    | some o' =>
      rw [hx] at h
      have := he y o' hy hx
      cases o' <;> (simp only [Option.map_some, Option.some.injEq, frostO] at h; subst h; exact this)
  · rw [frostW_ne e] at h; exact he y o hy h
/-- a block that is shunned from its birth -/
theorem Sim.shunned (h : Sim Z F v w) {o : Obj} {t : TypeId} (hk : kindO (some o) = some (some t)) : Sim (upd Z w.heap.size true) F (v.alloc (.cells #[] t)) (w.alloc o) := by
  have hf := h.fresh
  have up : ∀ x, upd Z w.heap.size true x = false → Z x = false := fun x hx => by
    by_cases e : x = w.heap.size
    · rw [e]; exact hf
    · rw [upd_ne _ _ e] at hx; exact hx
  have hal : ∀ (u : World) (y : Obj), (u.alloc y).heap = u.heap.push y := fun _ _ => rfl
  refine ⟨by rw [hal, hal, Array.size_push, Array.size_push, h.size], fun x hx hf0 => ?_, fun x hx => ?_, h.os, h.output, fun x hx => ?_, fun x hx => ?_⟩
  · have hne : x ≠ w.heap.size := fun e => by rw [e, upd_same] at hx; cases hx
    rw [hal, hal, Array.getElem?_push, Array.getElem?_push, if_neg (by rw [h.size]; exact hne), if_neg hne]
    exact h.heap x (up x hx) hf0
  · obtain ⟨h0, c, t', h1, h2⟩ := h.ice x hx
    have hl := h.iceLow hx
    refine ⟨by rw [upd_ne _ _ (by omega)]; exact h0, c, t', ?_, ?_⟩
    · rw [hal, Array.getElem?_push, if_neg (by rw [h.size]; omega)]; exact h1
    · rw [hal, Array.getElem?_push, if_neg (by omega)]; exact h2
  · have hsz : (w.alloc o).heap.size = w.heap.size + 1 := Array.size_push _
    rw [hsz]
    by_cases e : x = w.heap.size
    · omega
    · rw [upd_ne _ _ e] at hx
      have := h.low x hx
      omega
  · unfold Dead
    rw [hal, hal, Array.getElem?_push, Array.getElem?_push, h.size]
    by_cases e : x = w.heap.size
    · rw [if_pos e, if_pos e]
      exact .inl ⟨t, rfl, hk⟩
    · rw [if_neg e, if_neg e]
      rw [upd_ne _ _ e] at hx
      exact h.dead x hx
theorem Even.shunned {x : Nat} (hx : x = v.heap.size) (he : Even (ZT Z v.heap.size) v) (o : Obj) : Even (ZT (upd Z x true) (v.alloc o).heap.size) (v.alloc o) := fun y u hy h => by
  subst hx
  have hsz : (v.alloc o).heap.size = v.heap.size + 1 := Array.size_push _
  have hpu : (v.alloc o).heap = v.heap.push o := rfl
  have hyz : y < v.heap.size ∧ Z y = false := by
    rw [hsz] at hy
    simp only [ZT, Bool.or_eq_false_iff, decide_eq_false_iff_not] at hy
    have hne : y ≠ v.heap.size := fun e => by rw [e, upd_same] at hy; cases hy.1
    rw [upd_ne _ _ hne] at hy
    exact ⟨by omega, hy.1⟩
  rw [hpu, Array.getElem?_push, if_neg (by omega)] at h
  obtain ⟨h1, h2⟩ := he y u (by rw [ZT_low hyz.1]; exact hyz.2) h
  have mono : ∀ b, ZT (upd Z v.heap.size true) (v.alloc o).heap.size b = true → ZT Z v.heap.size b = true := fun b hb => by
    rw [hsz] at hb
    simp only [ZT, Bool.or_eq_true, decide_eq_true_eq] at hb ⊢
    rcases hb with hb | hb
    · by_cases e : b = v.heap.size
      · right; omega
      · rw [upd_ne _ _ e] at hb; exact .inl hb
    · right; omega
  exact ⟨h1, h2.mono mono⟩
end
end Go.Proofs.Ytaiinkeendejdaa
