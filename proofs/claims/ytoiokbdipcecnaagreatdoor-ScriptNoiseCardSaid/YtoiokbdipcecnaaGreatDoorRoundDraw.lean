/-
  A REGION THAT DRAWS ITS ORDER, WITHIN A ROUND of a range over a function: the lone laws serve where nothing is deferred in it. No condition.
  And: A CONTRACT OF ONE FUNCTION'S OWN FRAME ('wpAt'): wpIn at the wide fence, of frames of the function f alone. It takes in a range over a function whose round may panic. No condition.
  And: ONE ROUND OF A RANGE OVER A FUNCTION THAT MAY PANIC: the round's contract out of its body's walk, where the body ends or panics. No condition.
-/
import Derived.Test.YtoiokbdipcecnaaGreatDoorEnv
import Derived.RangeFuncIn
import Derived.RangeFuncLeaves
import Derived.RangeFuncSeq
import Derived.OrdersHeld
import Derived.OrdersIn
import Derived.Deep.RegionHeld3
namespace Go.Proofs.YtoiokbdipcecnaaGreatDoor
open Go.RowKit

/-- how the body of a round may be left: it ends; or it panics, with nothing deferred -/
def roundOrPanic (P : Program) (l : Nat) (R : Ending → World → Prop) : Exit → Act → World → Prop
  | .normal, _, w => ∃ v w', (Instr.endRound l none).run P w = .ok v w' ∧ R (.returned v) w'
  | .panic chain, a, w => a.defers = [] ∧ R (.panicked chain) w
  | _, _, _ => False
theorem roundIn_or_panic {P : Program} {F : Fence} {n l : Nat} {f : FuncId} {fd : Func} {tmps : Array Value} {assign body : Code} {w : World} {R : Ending → World → Prop} (hF : F.fn f) (hfd : P.funcs[f]? = some fd)
    (h : assign.wpIn (F.inRound l) n P (Exit.then (fun a₁ w₁ => ∃ w₂, (Instr.beginRound l).run P w₁ = .ok () w₂ ∧ body.wpIn (F.inRound l) n P (roundOrPanic P l R) a₁ w₂) (fun _ _ _ => False))
      { tmps := tmps, defers := [] } w) :
    RoundIn F n P l f tmps assign body w R := by
  refine ⟨hF, fun c cs hr => ?_⟩
  let b : Frame := { (default : Frame) with fn := f, kind := .normal, roundOf := some l }
  have hb0 : Frame.round l f tmps assign body .normal = b.atR { tmps := tmps, defers := [] } [.code assign, .beginRound, .code body] := by
    simp [Frame.round, Frame.atR, b]
  have hr' : (F.inRound l).room ((c :: cs).length + 1 + n) := hr
  have hF' : (F.inRound l).fn b.fn := hF
  obtain ⟨e, a₁, w₁, hq, harr⟩ := h b [.beginRound, .code body] (c :: cs) rfl hF' hr'
  rw [← hb0] at harr
  cases e with
  | normal =>
    obtain ⟨w₂, hbr, hbody⟩ := hq
    have s1 : StepsIn (Machine.fenced P (F.inRound l)) P (lone (b.atR a₁ [.beginRound, .code body]) (c :: cs) w₁) (lone (b.atR a₁ [.code body]) (c :: cs) w₂) :=
      .one (fenced_calm (fr := b.atR a₁ [.beginRound, .code body]) hF' hr' rfl) (stepR_beginRound rfl hbr)
    obtain ⟨e₂, a₂, w₃, hq₂, harr₂⟩ := hbody b [] (c :: cs) rfl hF' hr'
    cases e₂ with
    | normal =>
      obtain ⟨v, w₄, hend, hR⟩ := hq₂
      exact ⟨.returned v, w₄, hR, (StepsIn.trans harr s1).trans (StepsIn.trans harr₂ (.one (fenced_calm (fr := b.atR a₂ []) hF' hr' rfl) (stepR_round_end rfl rfl hend)))⟩
    | panic chain =>
      obtain ⟨hd, hR⟩ := hq₂
      obtain ⟨todo, hs⟩ := harr₂
      have hl : Frame.leaving P { b.atR a₂ todo with mode := .panicking chain } w₃ (.panicked chain) := ⟨rfl, hd, fd, hfd⟩
      have hstep := step_leave_panicked (c := c) (cs := cs) hl
      refine ⟨.panicked chain, w₃, hR, (StepsIn.trans harr s1).trans (StepsIn.trans hs (.one (fenced_calm (fr := { b.atR a₂ todo with mode := .panicking chain }) hF' hr' ?_) hstep))⟩
      have hd2 : (b.atR a₂ todo).defers = [] := hd
      simp [Frame.about, hd2]
    | ret => exact hq₂.elim
    | exit id => exact hq₂.elim
    | goto t => exact hq₂.elim
    | outgrown => exact hq₂.elim
  | exit id => exact hq.elim
  | goto t => exact hq.elim
  | ret => exact hq.elim
  | panic chain => exact hq.elim
  | outgrown => exact hq.elim
end Go.Proofs.YtoiokbdipcecnaaGreatDoor
namespace Go.Proofs.YtoiokbdipcecnaaGreatDoor
open Go.RowKit

/-- 'wpIn' at the wide fence, of the frames of f alone -/
def wpAt (f : FuncId) (P : Program) (c : Code) (Q : Exit → Act → World → Prop) (a : Act) (w : World) : Prop :=
  ∀ (b : Frame) (k : List Item) (cs : List Frame), b.roundOf = none → b.fn = f →
    ∃ e a' w', Q e a' w' ∧ ArrivesIn (Machine.fenced P Fence.wide) P (lone (b.atR a (.code c :: k)) cs w) b k cs e a' w'
theorem wpAt_of {f : FuncId} {n : Nat} {P : Program} {c : Code} {Q : Exit → Act → World → Prop} {a : Act} {w : World} (h : c.wpIn Fence.wide n P Q a w) : wpAt f P c Q a w :=
  fun b k cs hro _ => h b k cs hro trivial (room_wide _)
theorem wpAt_mono {f : FuncId} {P : Program} {c : Code} {Q Q' : Exit → Act → World → Prop} {a : Act} {w : World} (h : wpAt f P c Q a w) (hq : ∀ e a w, Q e a w → Q' e a w) : wpAt f P c Q' a w :=
  fun b k cs hro hb => let ⟨e, a', w', q, r⟩ := h b k cs hro hb; ⟨e, a', w', hq _ _ _ q, r⟩
theorem wpAt_seq {f : FuncId} {P : Program} {x y : Code} {Q : Exit → Act → World → Prop} {a : Act} {w : World} (h : wpAt f P x (Exit.then (wpAt f P y Q) Q) a w) : wpAt f P (Code.seq x y) Q a w := by
  intro b k cs hro hb
  have h0 : (lone (b.atR a (.code (.seq x y) :: k)) cs w).fenced P Fence.wide := fenced_wide _ _
  obtain ⟨e, a₁, w₁, hq, harr⟩ := h b (.code y :: k) cs hro hb
  cases e with
  | normal =>
    obtain ⟨e₂, a₂, w₂, hq₂, harr₂⟩ := hq b k cs hro hb
    exact ⟨e₂, a₂, w₂, hq₂, .of_steps (.head h0 stepR_seq harr) harr₂⟩
  | exit id => exact ⟨_, a₁, w₁, hq, .of_steps (.one h0 stepR_seq) (.pass (x := .code y) rfl (fun _ _ => .inl (by simp)) harr)⟩
  | goto l => exact ⟨_, a₁, w₁, hq, .of_steps (.one h0 stepR_seq) (.pass (x := .code y) rfl (fun _ _ => .inl (by simp)) harr)⟩
  | ret => exact ⟨_, a₁, w₁, hq, .of_steps (.one h0 stepR_seq) (.pass (x := .code y) rfl (fun _ _ => .inl (by simp)) harr)⟩
  | panic ch => exact ⟨_, a₁, w₁, hq, .of_steps (.one h0 stepR_seq) (.pass (x := .code y) rfl (fun _ _ => .inl (by simp)) harr)⟩
  | outgrown => exact ⟨_, a₁, w₁, hq, .of_steps (.one h0 stepR_seq) (.pass (x := .code y) rfl (fun _ _ => .inl (by simp)) harr)⟩
/-- a first part that is walked by wpIn -/
theorem wpAt_seq_of {f : FuncId} {n : Nat} {P : Program} {x y : Code} {Q : Exit → Act → World → Prop} {a : Act} {w : World} (h : x.wpIn Fence.wide n P (Exit.then (wpAt f P y Q) Q) a w) : wpAt f P (Code.seq x y) Q a w :=
  wpAt_seq (wpAt_of h)
/-- THE STATEMENT 'for .. := range g { .. }', in a frame of the function fn -/
theorem wpAt_rangeFunc {fn : FuncId} {P : Program} {n : Nat} {g : Operand} {ps : Array Tmp} {assign body : Code} {Q : Exit → Act → World → Prop} {a : Act} {w : World}
    (h : ∃ (l : Nat) (mark : List Deferred) (w₁ : World) (d : Deferred) (w₁' : World) (f : FuncId) (args : Array Value) (w₂ : World),
      (Instr.enterLoop fn a.tmps ps assign body none).run P w = .ok (l, mark) w₁ ∧
      (resolve a.eval (rangeCall g l) 0).run P w₁ = .ok d w₁' ∧
      (invoke d.target d.args).run P w₁' = .ok (.enter f args) w₂ ∧
      CallsIn Fence.wide n P f args w₂ (rangePost Fence.wide n P l Q { a with defers := mark ++ a.defers })) :
    wpAt fn P (Code.rangeFunc g ps assign body) Q a w := by
  intro b k cs hro hb
  obtain ⟨l, mark, w₁, d, w₁', f, args, w₂, he, hres, hinv, hF, hcall⟩ := h
  rw [← hro, ← hb] at he
  have h0 : (lone (b.atR a (.code (.rangeFunc g ps assign body) :: k)) cs w).fenced P Fence.wide := fenced_wide _ _
  have henter := stepR_rangeFunc (P := P) (b := b) (a := a) (k := k) (cs := cs) (w := w) he hres hinv
  obtain ⟨e, w₃, fr, hR, hsteps, hfn, hleave⟩ := hcall (b.atR { a with defers := mark ++ a.defers } (.inRangeFunc l :: k) :: cs) (room_wide _)
  cases e with
  | outgrown =>
    obtain ⟨a₀, w₀, hq⟩ := hR
    exact ⟨.outgrown, a₀, w₀, hq, .inr (Outgrown.of_steps (.one henter) hsteps)⟩
  | returned v =>
    have hl : (lone fr (b.atR { a with defers := mark ++ a.defers } (.inRangeFunc l :: k) :: cs) w₃).fenced P Fence.wide := fenced_wide _ _
    obtain ⟨jump, w₄, hend, hj⟩ := hR
    have sback : StepsIn (Machine.fenced P Fence.wide) P (lone (b.atR a (.code (.rangeFunc g ps assign body) :: k)) cs w) (lone (b.atR { a with defers := mark ++ a.defers } ((jump.map Item.code).toList ++ k)) cs w₄) := by
      refine .head h0 henter (StepsIn.trans hsteps (.head hl ?_ (.one (fenced_wide _ _) (stepR_endRangeFunc hend))))
      rw [← finish_atR_inRangeFunc l v]; exact step_leave_returned hleave
    cases jump with
    | none => exact ⟨.normal, _, w₄, hj, sback⟩
    | some c =>
      obtain ⟨e', a'', w₅, hq, harr⟩ := hj b k cs hro trivial (room_wide _)
      exact ⟨e', a'', w₅, hq, .of_steps sback harr⟩
  | panicked chain =>
    have hl : (lone fr (b.atR { a with defers := mark ++ a.defers } (.inRangeFunc l :: k) :: cs) w₃).fenced P Fence.wide := fenced_wide _ _
    refine ⟨.panic chain, _, w₃, hR, .inRangeFunc l :: k, .head h0 henter (StepsIn.trans hsteps (.one hl ?_))⟩
    rw [← Frame.raise_atR]; exact step_leave_panicked hleave
/-- A FUNCTION'S CONTRACT FROM ITS BODY by wpAt, deferred calls and marks among them -/
theorem callsIn_of_wpAt {P : Program} {n : Nat} {f : FuncId} {fn : Func} {c : Code} {args : Array Value} {w : World} {R : Ending → World → Prop}
    (hf : P.funcs[f]? = some fn) (hb : fn.body = some c)
    (h : wpAt f P c (bodyPostM Fence.wide n P fn R) { tmps := args ++ Array.replicate (fn.ntmps - args.size) undef, defers := [] } w) : CallsIn Fence.wide n P f args w R := by
  refine ⟨trivial, fun cs hr => ?_⟩
  let b : Frame := { (default : Frame) with fn := f, kind := .normal, roundOf := none }
  have henter : Frame.enter P f args .normal =
      b.atR { tmps := args ++ Array.replicate (fn.ntmps - args.size) undef, defers := [] } [.code c] := by
    simp [Frame.enter, Frame.atR, hf, hb, b]
  obtain ⟨e, a', w', hq, harr⟩ := h b [] cs rfl rfl
  rw [← henter] at harr
  cases e with
  | normal =>
    obtain ⟨e', w'', fr', hR, hs, hfn, hl⟩ := leaves_stepsInM a'.defers .returning w' { b.atR a' [] with mode := .returning } cs rfl rfl rfl hf rfl trivial hr hq
    exact ⟨e', w'', fr', hR, ComesIn.of_steps (StepsIn.trans harr (.one (fenced_wide _ _) (stepR_end rfl))) hs, hfn, hl⟩
  | ret =>
    obtain ⟨todo, hs₀⟩ := harr.1 rfl
    obtain ⟨e', w'', fr', hR, hs, hfn, hl⟩ := leaves_stepsInM a'.defers .returning w' { b.atR a' todo with mode := .returning } cs rfl rfl rfl hf rfl trivial hr hq
    exact ⟨e', w'', fr', hR, ComesIn.of_steps hs₀ hs, hfn, hl⟩
  | panic chain =>
    obtain ⟨todo, hs₀⟩ := harr
    obtain ⟨e', w'', fr', hR, hs, hfn, hl⟩ := leaves_stepsInM a'.defers (.panicking chain) w' { b.atR a' todo with mode := .panicking chain } cs rfl rfl rfl hf rfl trivial hr hq
    exact ⟨e', w'', fr', hR, ComesIn.of_steps hs₀ hs, hfn, hl⟩
  | exit id => exact hq.elim
  | goto l => exact hq.elim
  | outgrown => exact ⟨.outgrown, w', b, hq, harr.resolve_left (by simp [b]), rfl, trivial⟩
end Go.Proofs.YtoiokbdipcecnaaGreatDoor
namespace Go.Proofs.YtoiokbdipcecnaaGreatDoor
open Go.RowKit

theorem callsIn_round {l n : Nat} {P : Program} {f : FuncId} {args : Array Value} {w : World} {R : Ending → World → Prop} (h : Calls P f args w R) : CallsIn (Fence.wide.inRound l) n P f args w R :=
  ⟨trivial, ((callsIn_wide (n := n)).2 h).2⟩
def noDeferB (ops : Array Oper) : Bool := ops.toList.all fun o => match o.op with | .defer _ => false | _ => true
theorem noDefer_at {ops : Array Oper} (h : noDeferB ops = true) {i : Nat} {o : Oper} (ho : ops[i]? = some o) (c : Call) : o.op ≠ .defer c := fun e => by
  have h1 := List.all_eq_true.1 h o (Array.mem_toList_iff.2 (Array.mem_of_getElem? ho))
  rw [e] at h1
  cases h1
theorem upon_round {l n : Nat} {P : Program} {o : Oper} {a : Act} {K K' : Act → World → Prop} {Q : Exit → Act → World → Prop} (hk : ∀ a w, K a w → K' a w) :
    ∀ {r : Result Next}, o.upon P a K Q r → o.uponIn (Fence.wide.inRound l) n P a K' Q r := by
  intro r h
  cases r with
  | ok x w' =>
    cases x with
    | value v => exact hk _ _ h
    | skip => exact hk _ _ h
    | defer d => exact hk _ _ h
    | enter f args =>
      refine ⟨fun e => (by cases e), CallsIn.mono (callsIn_round (show Calls P f args w' _ from h)) fun e w'' he => ?_⟩
      cases e with
      | returned v => exact hk _ _ he
      | panicked c => exact he
      | outgrown => exact he
    | row row args => exact ⟨fun e => (by cases e), fun c cs _ => let ⟨v, w', r, s⟩ := (show Rows P row args w' _ from h) c cs; ⟨v, w', hk _ _ r, stepsIn_wide.2 s⟩⟩
    | round l f tmps assign body => exact False.elim h
    | _ => exact False.elim h
  | halt x w' =>
    cases x with
    | panic v => exact h
    | _ => exact False.elim h
theorem wpOps_round {l n : Nat} {P : Program} {ops : Array Oper} {Q : Exit → Act → World → Prop} (hd : noDeferB ops = true) (hq : ∀ a w, ¬ Q .outgrown a w) :
    ∀ (is : List Nat) (a : Act) (w : World), wpOps P ops Q is a w → wpOpsIn (Fence.wide.inRound l) n P ops Q is a w
  | [], _, _, h => h
  | i :: rest, a, w, h => by
    unfold wpOps at h
    unfold wpOpsIn
    cases ho : ops[i]? with
    | none => rw [ho] at h; exact wpOps_round hd hq rest a w h
    | some o =>
      rw [ho] at h
      simp only at h ⊢
      split
      · rename_i hw
        rw [if_pos hw] at h
        rcases h with h | ⟨_, a', w', h⟩
        · refine ⟨fun _ _ => trivial, ?_⟩
          rw [Oper.semAt_eq _ _ _ (noDefer_at hd ho)]
          exact upon_round (fun a w => wpOps_round hd hq rest a w) h
        · exact absurd h (hq a' w')
      · rename_i hw
        rw [if_neg hw] at h
        exact ⟨fun _ _ => trivial, wpOps_round hd hq rest _ w h⟩
/-- A REGION THAT DRAWS, IN A ROUND: whatever order is picked -/
theorem wpIn_region_round {l n : Nat} {P : Program} {id : Nat} {ops : Array Oper} {Q : Exit → Act → World → Prop} {a : Act} {w : World} (S : World → Prop) (hm : P.follows .mixedOrders = true) (hd : noDeferB ops = true)
    (h : ∀ w5 : World, w5 = { w with drawn := w.drawn + 1 } → wpAnyH P .any ops (fun e a w => match e with | .normal => Q .normal a w | _ => False) S ops.size (Array.replicate ops.size false) a w5) : (Code.region id ops true).wpIn (Fence.wide.inRound l) n P Q a w :=
  wpIn_mono (wpIn_region_draw fun t => by
    simp only [Region.schedule, hm, Bool.true_or, if_true]
    exact wpOps_round hd (fun _ _ h => h) _ _ _ (wpAny_sound ops.size t _ a _ (wpAny_of_held _ _ _ _ (h _ rfl)))) (fun e a w hq => by
      cases e with
      | normal => exact hq
      | exit id => exact hq.elim
      | ret => exact hq.elim
      | goto t => exact hq.elim
      | panic c => exact hq.elim
      | outgrown => exact hq.elim)
section
variable {P : Program} {ops : Array Oper} {Q : Exit → Act → World → Prop} {md : Region.Mode} {S : World → Prop} {a : Act} {w w' : World} {K : Act → World → Prop}
theorem wpOp_val {i : Nat} {o : Oper} (v : Value) (ho : ops[i]? = some o) (hw : Region.wanted o (yielded ops a.tmps) = true) (hr : (execOp a.eval o).run P w = .ok (.value v) w') (h : K (a.put o.dst v) w') : wpOp P ops Q i K a w := by
  unfold wpOp
  rw [ho]
  simp only [hw, if_true]
  refine .inl ?_
  unfold Oper.wp
  rw [hr]
  exact h
theorem wpOp_skip {i : Nat} {o : Oper} (ho : ops[i]? = some o) (hw : Region.wanted o (yielded ops a.tmps) = true) (hr : (execOp a.eval o).run P w = .ok .skip w') (h : K (a.put o.dst undef) w') : wpOp P ops Q i K a w := by
  unfold wpOp
  rw [ho]
  simp only [hw, if_true]
  refine .inl ?_
  unfold Oper.wp
  rw [hr]
  exact h
theorem wpAnyH_takeD {i : Nat} {oi : Oper} {v : Value} {d : Option Tmp} {fuel : Nat} {listed : Array Bool} (hi : ops[i]? = some oi) (he : oi.dst = d)
    (hs : Region.noSelect ops = true) (hf : Region.free md ops listed i = true) (hr : (Region.ready md ops listed).contains i = true)
    (hQ : ∀ c a w, Q (.panic c) (a.put d v) w → Q (.panic c) a w) (hy : YieldsIf P ops S oi v a) (hS : S w)
    (h : wpAnyH P md ops Q S fuel (listed.setIfInBounds i true) (a.put d v) w) : wpAnyH P md ops Q S (fuel + 1) listed a w :=
  wpAnyH_take hi hs hf hr (by rw [he]; exact hQ) hy hS (by rw [he]; exact h)
theorem anyH_val {i fuel : Nat} {listed : Array Bool} {o : Oper} {d : Option Tmp} (v : Value) (w' : World) (ho : ops[i]? = some o) (he : o.dst = d) (hd : Region.ready md ops listed = [i]) (hw : Region.wanted o (yielded ops a.tmps) = true) (hr : (execOp a.eval o).run P w = .ok (.value v) w') (hS : S w')
    (h : wpAnyH P md ops Q S fuel (listed.setIfInBounds i true) (a.put d v) w') : wpAnyH P md ops Q S (fuel + 1) listed a w :=
  wpAnyH_all hd (by simp) fun j hj => by
    obtain rfl : j = i := by simpa using hj
    exact wpOp_val v ho hw hr ⟨hS, by rw [he]; exact h⟩
theorem anyH_skip {i fuel : Nat} {listed : Array Bool} {o : Oper} {d : Option Tmp} (w' : World) (ho : ops[i]? = some o) (he : o.dst = d) (hd : Region.ready md ops listed = [i]) (hw : Region.wanted o (yielded ops a.tmps) = true) (hr : (execOp a.eval o).run P w = .ok .skip w') (hS : S w')
    (h : wpAnyH P md ops Q S fuel (listed.setIfInBounds i true) (a.put d undef) w') : wpAnyH P md ops Q S (fuel + 1) listed a w :=
  wpAnyH_all hd (by simp) fun j hj => by
    obtain rfl : j = i := by simpa using hj
    exact wpOp_skip ho hw hr ⟨hS, by rw [he]; exact h⟩
theorem anyH_op {i fuel : Nat} {listed : Array Bool} {o : Oper} (ho : ops[i]? = some o) (hd : Region.ready md ops listed = [i]) (hw : Region.wanted o (yielded ops a.tmps) = true) {d : Option Tmp} {op : Op} (h1 : o.dst = d) (h2 : o.op = op)
    (h : ∀ o' : Oper, o'.dst = d → o'.op = op → o'.wp P a w (fun a' w' => S w' ∧ wpAnyH P md ops Q S fuel (listed.setIfInBounds i true) a' w') Q) : wpAnyH P md ops Q S (fuel + 1) listed a w :=
  wpAnyH_all hd (by simp) fun j hj => by
    obtain rfl : j = i := by simpa using hj
    unfold wpOp
    rw [ho]
    simp only [hw, if_true]
    exact .inl (h o h1 h2)
/-- a call that panics -/
theorem anyH_raise {i fuel : Nat} {listed : Array Bool} {o : Oper} {f : FuncId} {args : Array Value} (ho : ops[i]? = some o) (hd : Region.ready md ops listed = [i]) (hw : Region.wanted o (yielded ops a.tmps) = true) (hr : (execOp a.eval o).run P w = .ok (.enter f args) w')
    (h : Calls P f args w' fun e w'' => ∃ ch, e = .panicked ch ∧ Q (.panic ch) a w'') : wpAnyH P md ops Q S (fuel + 1) listed a w :=
  wpAnyH_all hd (by simp) fun j hj => by
    obtain rfl : j = i := by simpa using hj
    unfold wpOp
    rw [ho]
    simp only [hw, if_true]
    refine .inl ?_
    unfold Oper.wp
    rw [hr]
    exact Calls.mono h fun e w'' ⟨ch, e1, hq⟩ => by subst e1; exact hq
/-- what is asked of a way out by a panic: the calls that are deferred, the first m slots as they were -/
def outP (ds : List Deferred) (tm : Array Value) (m : Nat) (R : List PanicEntry → World → Prop) : Exit → Act → World → Prop
  | .panic c, a, w => a.defers = ds ∧ (∀ i, i < m → a.tmps[i]? = tm[i]?) ∧ R c w
  | _, _, _ => False
theorem outP_put {ds : List Deferred} {tm : Array Value} {m : Nat} {R : List PanicEntry → World → Prop} {k : Nat} (hk : m ≤ k) {v : Value} {c : List PanicEntry} (h : outP ds tm m R (.panic c) (a.put (some k) v) w) : outP ds tm m R (.panic c) a w := by
  obtain ⟨h1, h2, h3⟩ := h
  refine ⟨h1, fun i hi => ?_, h3⟩
  rw [← h2 i hi]
  simp only [Act.put]
  rw [Array.getElem?_setIfInBounds_ne (by omega)]
theorem anyH_two {i j fuel : Nat} {listed : Array Bool} {o o' : Oper} {d d' : Option Tmp} (v v' : Value) (w1 w2 : World) (ho : ops[i]? = some o) (ho' : ops[j]? = some o') (he : o.dst = d) (he' : o'.dst = d') (hd : Region.ready md ops listed = [i, j]) (hw : Region.wanted o (yielded ops a.tmps) = true) (hw' : Region.wanted o' (yielded ops a.tmps) = true)
    (hr : (execOp a.eval o).run P w = .ok (.value v) w1) (hr' : (execOp a.eval o').run P w = .ok (.value v') w2) (hS : S w1) (hS' : S w2)
    (h : wpAnyH P md ops Q S fuel (listed.setIfInBounds i true) (a.put d v) w1) (h' : wpAnyH P md ops Q S fuel (listed.setIfInBounds j true) (a.put d' v') w2) : wpAnyH P md ops Q S (fuel + 1) listed a w :=
  wpAnyH_all hd (by simp) fun m hm => by
    rcases (show m = i ∨ m = j by simpa using hm) with rfl | rfl
    · exact wpOp_val v ho hw hr ⟨hS, by rw [he]; exact h⟩
    · exact wpOp_val v' ho' hw' hr' ⟨hS', by rw [he']; exact h'⟩
end
end Go.Proofs.YtoiokbdipcecnaaGreatDoor
