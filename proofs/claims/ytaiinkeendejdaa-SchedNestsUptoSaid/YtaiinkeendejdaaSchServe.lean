/-
  SCHED: a thread's goroutine whose turn it is: the step's contract; from the turn to the answer. No condition.
  And: SCHED: a thread's goroutine whose bell has rung; what it does behind its last answer. No condition.
-/
import Derived.Test.YtaiinkeendejdaaSchLive
import Derived.Test.YtaiinkeendejdaaSchDone
import Derived.Test.YtaiinkeendejdaaSchWait
import Derived.Test.YtaiinkeendejdaaBandMore
namespace Go.Proofs.Ytaiinkeendejdaa
open Go.RowKit Go.Conc Go.ConcR.Gen Go.ConcN.Gen
set_option maxRecDepth 100000
theorem quitsR1 (T : Array Value) (todo : List Item) : QuitsD Try.prog 2 0 (G { (baseD 30).at ⟨T, []⟩ todo with mode := .returning } [bot]) := by
  refine QuitsD.ctl (g' := G bot []) rfl (fun w => ?_) ?_
  · simp [G, stepG, unwind, doReturn, results, Frame.at, baseD, bot, Try.func30, Try.f30, seen, GStep.after, goexitEntry]
  refine QuitsD.ctl (g' := { G bot [] with status := .finished }) rfl (fun w => ?_) ⟨rfl, rfl⟩
  simp [G, stepG, unwind, bot, goexitEntry, Frame.catches]
  rfl
/-- live has returned: on to Done -/
theorem live_left {Wg tv sv stv th stop : Nat} {step : Value} {t : Array Value} {k : List Item} :
    GL Try.prog 64 Wg (LR0 Try.prog 64 Wg) 47 (G { (base 32).at ⟨t, []⟩ k with mode := .returning } [frR1 Wg tv sv stv th stop step, bot]) := by
  intro w
  have hF : True := trivial
  have hD := @doneB Try.prog link wgLib Wg
  simp only [frR1, opsR1, bodyR1, Try.f30, Option.getD_some, link] at hD ⊢
  u_leave0 Try.func32 (fun _ r => r) hF
  u_c stepG_region_end (fun _ r => r) hF
  u_c stepG_end (fun _ r => r) hF
  u_in (fun _ r => r) hF
  rw [stepG_unwind_enter rfl Try.func31 (nm_done link) rfl]
  simp only [goes_go]
  refine ⟨by u_nil, ?_⟩
  walk_nrmf Try.f31
  exact hD rfl (quitsR1 _ _) _
theorem res_bell (c stop : Nat) (z z' v : Value) (ok : Bool) : commResult #[rcase c z, rcase stop z'] .select ((1 : Nat) : Int) v ok = .tuple #[goInt 1, .bool ok, z, v] := by
  simp [commResult, rcase, List.zipIdx_cons]
theorem live_bell {Wg tv sv stv th c stop : Nat} {step : Value} {Zs : Nat → Bool} (g₂ : Goroutine) (h : (seatLive th c stop step [frR1 Wg tv sv stv th stop step, bot] Zs).home g₂) :
    ∃ m, LSit Try.prog 64 Wg 7 m 0 (Go.Conc.served g₂ (commResult (seatLive th c stop step [frR1 Wg tv sv stv th stop step, bot] Zs).cases (seatLive th c stop step [frR1 Wg tv sv stv th stop step, bot] Zs).shape ((1 : Nat) : Int) (.int .i64 0) false)) := by
  obtain ⟨v3, v4, v5, v6, v7, v13, v14, v15, v16, v17, v18, v19, v20, v21, v22, v23, v24, v25, v26, v27, _, rfl⟩ := h
  refine ⟨55, .r0 fun w => ?_⟩
  have hF : True := trivial
  have hL := @live_left Wg tv sv stv th stop step
  generalize [frR1 Wg tv sv stv th stop step, bot] = cs at hL ⊢
  show Goes _ _ _ _ _ _ (Go.Conc.served _ (commResult #[rcase c (.int .i64 0), rcase stop (.int .i64 0)] .select ((1 : Nat) : Int) (.int .i64 0) false)) _
  rw [res_bell]
  simp only [liveAt, selItems, selLive, restLive, loopLive, bodyLive, Try.f32, Option.getD_some, List.cons_append, List.nil_append]
  rw [served_fr, Frame.finish_at]
  walk_nrm
  u_op (fun _ r => r) hF
  u_op (fun _ r => r) hF
  u_op (fun _ r => r) hF
  u_c stepG_region_end (fun _ r => r) hF
  u_c stepG_block (fun _ r => r) hF
  u_cond false (fun _ r => r) hF
  u_cond true (fun _ r => r) hF
  u_c stepG_ret' (fun _ r => r) hF
  exact hL _
end Go.Proofs.Ytaiinkeendejdaa
namespace Go.Proofs.Ytaiinkeendejdaa
open Go.RowKit Go.Conc Go.ConcR.Gen Go.ConcN.Gen
set_option maxRecDepth 100000
/-- what a band may have become over a call: N blocks there were -/
structure Grew (b b' : Bd) (N : Nat) : Prop where
  n : b.n ≤ b'.n
  role : b'.role = b.role
  F : ∀ x, x < N → b'.F x = b.F x
  Fle : ∀ x, b.F x ≤ b'.F x
  shun : ∀ x, x < N → b'.shun x = b.shun x
  rung : ∀ x, x < N → b'.rung x = b.rung x
  wg : b'.wg = b.wg
  wait : b'.wait = b.wait
  ear : b'.ear = b.ear
  old : b'.oldN = b.oldN ∧ b'.old = b.old
/-- the band speaks of no block but the N that there are -/
structure Tidy (b : Bd) (N : Nat) : Prop where
  seat : ∀ x st s, (b.role x).at st = some s → ∀ c, s.has c → c < N
  wg : ∀ x, b.wg x ≠ none → x < N
  rung : ∀ x, b.rung x = true → x < N
/-- the old blocks that a step may turn are the holder's -/
def OwnO (b : Bd) (n : Nat) (O : Nat → Prop) : Prop := ∀ x, O x → b.F x = 0 ∧ b.shun x = false ∧ x < n
/-- ████ WHAT IS ASKED OF A STEP (f with caps): called with k (1 to n) by whoever holds it answers as next says. J: m calls were made, the state, the blocks that are its own ████ -/
def StepC (P : Program) (ty : TypeId) (Post : Value → World → Prop) (f : FuncId) (caps : Array Value) (n : Nat) {σ : Type} (J : Nat → σ → (Nat → Prop) → World → Prop) (next : σ → Int → Int × σ) : Prop :=
  ∀ (b : Bd) (h : Nat) (c : Frame) (cs : List Frame) (v w : World) (m : Nat) (s : σ) (O : Nat → Prop) (k : Int), b.ear = true → b.wait = none → 1 ≤ k → k ≤ n → m < 1000000 → J m s O v → Sim b.shun b.F v w → Even (ZT b.shun v.heap.size) v → OwnO b v.heap.size O → (∀ a ∈ caps, NoZ (ZT b.shun v.heap.size) a) → Tidy b v.heap.size →
    (∀ b' v' w' O', Grew b b' v.heap.size → Tidy b' v'.heap.size → J (m + 1) (next s k).2 O' v' → OwnO b' v'.heap.size O' → (∀ x, O' x → O x ∨ v.heap.size ≤ x) → Sim b'.shun b'.F v' w' → Even (ZT b'.shun v'.heap.size) v' → v.heap.size ≤ v'.heap.size → (∀ x, x < v.heap.size → ¬ O x → v'.heap[x]? = v.heap[x]?) →
      At P ty Post b' h (G (c.finish (.int .i64 (next s k).1)) cs) w') →
    At P ty Post b h (G (Frame.enter P f (#[.int .i64 k] ++ caps) .normal) (c :: cs)) w
noncomputable def turnLive : Code := match restLive with | .block _ (.cond _ c _) => c | _ => .skip
noncomputable def sendLive : Array Oper := match turnLive with | .seq _ (.seq _ (.seq (.region _ ops _) _)) => ops | _ => #[]
noncomputable def backLive : Code := match turnLive with | .seq _ (.seq _ (.seq _ c)) => c | _ => .skip
noncomputable def sendItems : List Item := [.inRegion sendLive [5], .code backLive, .inBlock 2, .inBlock 1]
/-- at the send of its answer a (number k) -/
def SendsAt (th c d stop : Nat) (step : Value) (k a : Int) (cs0 : List Frame) (Zs : Nat → Bool) (g : Goroutine) : Prop :=
  ∃ v3 v4 v5 v26 v27, (∀ x ∈ [v3, v4, v5, v26, v27], NoZ Zs x) ∧
    g = liveAt #[.pointer (some ⟨th, 0, none⟩), .chan (some stop), step, v3, v4, v5, .int .i64 k, .int .i64 a, .pointer (some ⟨th, 0, none⟩), .pointer (some ⟨th, 0, none⟩), .pointer (some ⟨th, 0, none⟩), .chan (some c), .chan (some stop), .tuple #[goInt 0, .bool true, .int .i64 k, .int .i64 0], .int .i64 0, .bool true, .bool false, .int .i64 k, step, .int .i64 k, .int .i64 a, .pointer (some ⟨th, 0, none⟩), .pointer (some ⟨th, 0, none⟩), .pointer (some ⟨th, 1, none⟩), .chan (some d), .int .i64 a, v26, v27] sendItems cs0
theorem res_turn (c stop : Nat) (z z' v : Value) (ok : Bool) : commResult #[rcase c z, rcase stop z'] .select ((0 : Nat) : Int) v ok = .tuple #[goInt 0, .bool ok, v, z'] := by
  simp [commResult, rcase, List.zipIdx_cons]
section
variable {Post : Value → World → Prop} {b : Bd} {j : Nat}
set_option maxHeartbeats 1000000 in
theorem live_serve {th c d stop : Nat} {f : FuncId} {fn : Func} {caps : Array Value} {n m : Nat} {O : Nat → Prop} {σ : Type} {J : Nat → σ → (Nat → Prop) → World → Prop} {next : σ → Int → Int × σ} {cs0 : List Frame} {Zs : Nat → Bool} {g₂ : Goroutine} {v w : World} {s : σ} {k : Int}
    (SC : StepC Try.prog 64 Post f caps n J next) (hf : Try.prog.funcs[f]? = some fn) (hname : (fn.name == "runtime.NumGoroutine") = false) (hb : fn.body.isNone = false)
    (hg : (seatLive th c stop (.func (.func f) #[] caps) cs0 Zs).home g₂) (hear : b.ear = true) (hwt : b.wait = none) (hk1 : 1 ≤ k) (hkn : k ≤ n) (hm : m < 1000000) (hJ : J m s O v) (hs : Sim b.shun b.F v w) (he : Even (ZT b.shun v.heap.size) v) (hown : OwnO b v.heap.size O) (hcaps : ∀ a ∈ caps, NoZ (ZT b.shun v.heap.size) a) (hty : Tidy b v.heap.size)
    (hd : v.cell? ⟨th, 1, none⟩ = some (.chan (some d))) (hth : ¬ O th) (hsh : b.shun th = false) (hlt : th < v.heap.size)
    (fin : ∀ b' v' w' O' g, Grew b b' v.heap.size → Tidy b' v'.heap.size → J (m + 1) (next s k).2 O' v' → OwnO b' v'.heap.size O' → (∀ x, O' x → O x ∨ v.heap.size ≤ x) → Sim b'.shun b'.F v' w' → Even (ZT b'.shun v'.heap.size) v' → v.heap.size ≤ v'.heap.size → (∀ x, x < v.heap.size → ¬ O x → v'.heap[x]? = v.heap[x]?) →
      SendsAt th c d stop (.func (.func f) #[] caps) k (next s k).1 cs0 Zs g → At Try.prog 64 Post b' j g w') :
    At Try.prog 64 Post b j (Go.Conc.served g₂ (commResult (seatLive th c stop (.func (.func f) #[] caps) cs0 Zs).cases (seatLive th c stop (.func (.func f) #[] caps) cs0 Zs).shape ((0 : Nat) : Int) (.int .i64 k) true)) w := by
  obtain ⟨v3, v4, v5, v6, v7, v13, v14, v15, v16, v17, v18, v19, v20, v21, v22, v23, v24, v25, v26, v27, hz, rfl⟩ := hg
  have hz' : ∀ x ∈ [v3, v4, v5, v26, v27], NoZ Zs x := fun x hx => hz x (by simp only [List.mem_cons, List.not_mem_nil, or_false] at hx ⊢; rcases hx with rfl | rfl | rfl | rfl | rfl <;> simp)
  have fin' : ∀ b' v' w' O' g, Grew b b' v.heap.size → Tidy b' v'.heap.size → J (m + 1) (next s k).2 O' v' → OwnO b' v'.heap.size O' → (∀ x, O' x → O x ∨ v.heap.size ≤ x) → Sim b'.shun b'.F v' w' → Even (ZT b'.shun v'.heap.size) v' → v.heap.size ≤ v'.heap.size → (∀ x, x < v.heap.size → ¬ O x → v'.heap[x]? = v.heap[x]?) → _ → At Try.prog 64 Post b' j g w' := fun b' v' w' O' g h1 h0 h2 h2a h2b h3 h4 h5 h6 h7 => fin b' v' w' O' g h1 h0 h2 h2a h2b h3 h4 h5 h6 ⟨v3, v4, v5, v26, v27, hz', h7⟩
  clear fin hz hz'
  show At _ _ _ _ _ (Go.Conc.served _ (commResult #[rcase c (.int .i64 0), rcase stop (.int .i64 0)] .select ((0 : Nat) : Int) (.int .i64 k) true)) _
  rw [res_turn]
  simp only [liveAt, selItems, sendItems, sendLive, backLive, turnLive, selLive, restLive, loopLive, bodyLive, Try.f32, Option.getD_some, List.cons_append, List.nil_append] at fin' ⊢
  rw [served_fr, Frame.finish_at]
  walk_nrm
  have hF : Off b.shun w w := Off.refl _ _
  refine At.goes0 (n := 40) ?_
  u_op ro_off2 hF
  u_op ro_off2 hF
  u_op ro_off2 hF
  u_c stepG_region_end ro_off2 hF
  u_c stepG_block ro_off2 hF
  u_cond true ro_off2 hF
  u_c stepG_seq ro_off2 hF
  u_reg ro_off2 hF
  u_op ro_off2 hF
  u_op ro_off2 hF
  u_c stepG_region_end ro_off2 hF
  u_c stepG_seq ro_off2 hF
  u_reg ro_off2 hF
  u_op ro_off2 hF
  u_op ro_off2 hF
  refine Goes.stop (fun w₁ r => ?_)
  replace hF := ro_off2 hF r
  clear r
  refine At.list rfl (fun w₂ r => ⟨_, #[], stepG_clos rfl rfl (by decide) rfl rfl hf hname hb, by simp, ?_⟩)
  replace hF := ro_off2 hF r
  clear r
  walk_nrm
  refine SC b j _ _ v w₂ m s O k hear hwt hk1 hkn hm hJ (hF.sim hs) he hown hcaps hty (fun b' v' w' O' hG hty' hJ' hO' hOn hs' he' hsz hsame => ?_)
  rw [Frame.finish_at]
  walk_nrm
  have hcell : w'.cell? ⟨th, 1, none⟩ = some (.chan (some d)) := by
    rw [← hs'.cell (by rw [hG.shun th hlt]; exact hsh)]
    unfold World.cell? at hd ⊢
    rw [hsame th hlt hth]
    exact hd
  have hF' : Off b'.shun w' w' := Off.refl _ _
  refine At.goes0 (n := 40) ?_
  u_op ro_off2 hF'
  u_c stepG_region_end ro_off2 hF'
  u_c stepG_seq ro_off2 hF'
  u_reg ro_off2 hF'
  u_op ro_off2 hF'
  u_op ro_off2 hF'
  u_op ro_off2 hF'
  refine Goes.stop (fun w₃ r => ?_)
  replace hF' := ro_off2 hF' r
  clear r
  refine At.ld rfl rfl (by decide) (ad := ⟨th, 1, none⟩) (x := .chan (some d)) (by rw [hF'.cell (by rw [hG.shun th hlt]; exact hsh)]; exact hcell) (by show b'.shun th = false; rw [hG.shun th hlt]; exact hsh) (fun w₄ hv => ?_) ?_
  · exact ⟨by simp [go_sem, execOp, Act.eval, hv], by simp [go_sem, execOp, Act.eval, hv]⟩
  walk_nrm
  refine At.goes0 (n := 40) ?_
  u_op ro_off2 hF'
  refine Goes.stop (fun w₄ r => ?_)
  replace hF' := ro_off2 hF' r
  exact fin' b' v' w₄ O' _ hG hty' hJ' hO' hOn (hF'.sim hs') he' hsz hsame rfl
end
end Go.Proofs.Ytaiinkeendejdaa
