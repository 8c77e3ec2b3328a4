/-
  SCHED: a thread's goroutine on the way to its seat (live's select). No condition.
-/
import Derived.Test.YtaiinkeendejdaaBandMore
import Derived.Test.YtaiinkeendejdaaSchLib
import Derived.Conc.TokenWords
namespace Go.Proofs.Ytaiinkeendejdaa
open Go.RowKit Go.Conc
set_option maxRecDepth 100000
noncomputable def bodyLive : Code := (Try.f32).body.getD .skip
noncomputable def loopLive : Code := match bodyLive with | .block _ (.loop c) => c | _ => .skip
noncomputable def selLive : Array Oper := match loopLive with | .block _ (.seq _ (.seq (.region _ ops _) _)) => ops | _ => #[]
noncomputable def restLive : Code := match loopLive with | .block _ (.seq _ (.seq _ c)) => c | _ => .skip
/-- where a thread's goroutine stands: th: its struct; its slots; below it the frame of the go statement's function -/
noncomputable def liveAt (t : Array Value) (k : List Item) (cs0 : List Frame) : Goroutine := G ((base 32).at ⟨t, []⟩ (k ++ [.inLoop loopLive, .inBlock 0])) cs0
noncomputable def selItems : List Item := [.inRegion selLive [0, 1, 2, 3], .code restLive, .inBlock 1]
/-- its seat -/
noncomputable def seatLive (th c stop : Nat) (step : Value) (cs0 : List Frame) (Zs : Nat → Bool) : Seat :=
  { cases := #[rcase c (.int .i64 0), rcase stop (.int .i64 0)], shape := .select
    home := fun g => ∃ v3 v4 v5 v6 v7 v13 v14 v15 v16 v17 v18 v19 v20 v21 v22 v23 v24 v25 v26 v27, (∀ x ∈ [v3, v4, v5, v6, v7, v13, v14, v15, v16, v17, v18, v19, v20, v21, v22, v23, v24, v25, v26, v27], NoZ Zs x) ∧
      g = liveAt #[.pointer (some ⟨th, 0, none⟩), .chan (some stop), step, v3, v4, v5, v6, v7, .pointer (some ⟨th, 0, none⟩), .pointer (some ⟨th, 0, none⟩), .pointer (some ⟨th, 0, none⟩), .chan (some c), .chan (some stop), v13, v14, v15, v16, v17, v18, v19, v20, v21, v22, v23, v24, v25, v26, v27] selItems cs0 }
theorem live_round {main : Bool} {th c stop : Nat} {step : Value} {cs0 : List Frame} {Zs : Nat → Bool} {kn : List (Addr × Value)} {B : Nat} (hc : (⟨th, 0, none⟩, Value.chan (some c)) ∈ kn) (hB : th < B)
    {v3 v4 v5 v6 v7 v8 v9 v10 v11 v12 v13 v14 v15 v16 v17 v18 v19 v20 v21 v22 v23 v24 v25 v26 v27 : Value} (hz : ∀ x ∈ [v3, v4, v5, v6, v7, v13, v14, v15, v16, v17, v18, v19, v20, v21, v22, v23, v24, v25, v26, v27], NoZ Zs x) (w : World) :
    Goes Try.prog main (RK (Kn kn)) (DS (Sn kn) B) (fun g _ => ∃ g₂, AtIn Try.prog main (Kn kn) (Sn kn) B (seatLive th c stop step cs0 Zs) g g₂) 14
      (liveAt #[.pointer (some ⟨th, 0, none⟩), .chan (some stop), step, v3, v4, v5, v6, v7, v8, v9, v10, v11, v12, v13, v14, v15, v16, v17, v18, v19, v20, v21, v22, v23, v24, v25, v26, v27] [.code loopLive] cs0) w := by
  have hh : ∀ g₂, g₂ = liveAt #[.pointer (some ⟨th, 0, none⟩), .chan (some stop), step, v3, v4, v5, v6, v7, .pointer (some ⟨th, 0, none⟩), .pointer (some ⟨th, 0, none⟩), .pointer (some ⟨th, 0, none⟩), .chan (some c), .chan (some stop), v13, v14, v15, v16, v17, v18, v19, v20, v21, v22, v23, v24, v25, v26, v27] selItems cs0 → (seatLive th c stop step cs0 Zs).home g₂ := fun g₂ e => ⟨v3, v4, v5, v6, v7, v13, v14, v15, v16, v17, v18, v19, v20, v21, v22, v23, v24, v25, v26, v27, hz, e⟩
  have hS : Sn kn (.cell ⟨th, 0, none⟩) := ⟨_, hc, rfl⟩
  generalize hcs : (seatLive th c stop step cs0 Zs) = st at hh
  have e1 : st.cases = #[rcase c (.int .i64 0), rcase stop (.int .i64 0)] := by rw [← hcs]; rfl
  have e2 : st.shape = .select := by rw [← hcs]; rfl
  clear hz hcs
  simp only [liveAt, selItems, selLive, restLive, loopLive, bodyLive, Try.f32, Option.getD_some, List.cons_append, List.nil_append] at hh ⊢
  k_c stepG_block
  k_c stepG_seq
  k_c stepG_seq
  k_reg
  k_in
  refine goes_oper_k rfl rfl (by decide) (fun K hK => ?_)
  go_simp
  refine hK _ _ ⟨⟨rfl, fun e he => ?_⟩, ?_⟩
  · have hm := mem_listed he; simp [go_sem, *] at hm
  clear hK K
  k_in
  refine goes_oper_k rfl rfl (by decide) (fun K hK => ?_)
  go_simp
  refine hK _ _ ⟨⟨rfl, fun e he => ?_⟩, ?_⟩
  · have hm := mem_listed he; simp [go_sem, *] at hm
  clear hK K
  k_in
  refine goes_oper_k rfl rfl (by decide) (fun K hK => ?_)
  go_simp
  refine hK _ _ ⟨⟨rfl, fun e he => ?_⟩, ?_⟩
  · have hm := mem_listed he; simp [go_sem, *] at hm
  clear hK K
  k_in
  refine goes_oper_k rfl rfl (by decide) (fun K hK => ?_)
  have hv : w₁.cell? ⟨th, 0, none⟩ = some (.chan (some c)) := h₁ _ hc
  go_simp
  refine hK _ _ ⟨⟨rfl, fun e he => ?_⟩, ?_⟩
  · have hm := mem_listed he
    simp [go_sem, *] at hm
    subst hm
    exact evC_read _ hS hB
  clear hK K
  k_c stepG_region_end
  k_reg
  k_in
  refine goes_oper_k rfl rfl (by decide) (fun K hK => ?_)
  go_simp
  refine hK _ _ ⟨⟨rfl, fun e he => ?_⟩, ?_⟩
  · have hm := mem_listed he; simp [go_sem, *] at hm
  clear hK K
  k_c stepG_region_end
  k_c stepG_seq
  k_reg
  refine Goes.stop fun w₁ h₁ => ⟨_, rfl, rfl, rfl, rfl, hh _ rfl, #[], by simp, fun w₂ _ => ?_⟩
  rw [e1, e2]
  refine (stepG_comm (cases := #[rcase c (.int .i64 0), rcase stop (.int .i64 0)]) (blocking := true) (shape := .select) (w' := w₂) rfl rfl (by decide) (by simp [go_sem, execOp, rcase, Act.eval])).trans ?_
  rw [listed_none (by simp [go_sem, execOp, Act.eval])]
/-! ### from its birth -/
noncomputable def bot : Frame := { (default : Frame) with fn := Try.prog.funcs.size, defers := [], mode := .panicking [goexitEntry] }
noncomputable def bodyR1 : Code := (Try.f30).body.getD .skip
noncomputable def opsR1 : Array Oper := match bodyR1 with | .seq _ (.region _ ops _) => ops | _ => #[]
def callR1 (Wg tv sv stv : Nat) : Deferred := { target := .fn (.func 30) #[.pointer (some ⟨Wg, 0, none⟩), .pointer (some ⟨tv, 0, none⟩), .pointer (some ⟨sv, 0, none⟩), .pointer (some ⟨stv, 0, none⟩)], args := #[] }
/-- the go statement's function, while live runs -/
noncomputable def frR1 (Wg tv sv stv th stop : Nat) (step : Value) : Frame :=
  (baseD 30).at ⟨#[.pointer (some ⟨Wg, 0, none⟩), .pointer (some ⟨tv, 0, none⟩), .pointer (some ⟨sv, 0, none⟩), .pointer (some ⟨stv, 0, none⟩), .pointer (some ⟨th, 0, none⟩), .chan (some stop), step, undef], [dcall 31 #[.pointer (some ⟨Wg, 0, none⟩)]]⟩ [.inRegion opsR1 [3]]
def knLive (tv sv stv th c stop : Nat) (step : Value) : List (Addr × Value) := [(⟨tv, 0, none⟩, .pointer (some ⟨th, 0, none⟩)), (⟨sv, 0, none⟩, .chan (some stop)), (⟨stv, 0, none⟩, step), (⟨th, 0, none⟩, .chan (some c))]
theorem bornR1 (Wg tv sv stv : Nat) (w : World) : stepG Try.prog false (born Try.prog (callR1 Wg tv sv stv)) w =
    .go (G ((baseD 30).at ⟨#[.pointer (some ⟨Wg, 0, none⟩), .pointer (some ⟨tv, 0, none⟩), .pointer (some ⟨sv, 0, none⟩), .pointer (some ⟨stv, 0, none⟩), undef, undef, undef, undef], []⟩ [.code bodyR1]) [bot]) w #[] := by
  simp [born, callR1, stepG, unwind, callDeferred, invoke, callFunc, Try.func30, Try.f30, seen, GStep.after, G, Frame.enter, Frame.at, baseD, bot, bodyR1]
theorem nmLive : ((Try.f32).name == "runtime.NumGoroutine") = false := by kernel_rfl
/-- FROM ITS BIRTH A THREAD's GOROUTINE IS ON ITS WAY TO ITS SEAT -/
theorem live_birth {Wg tv sv stv th c stop : Nat} {step : Value} {Zs : Nat → Bool} {B : Nat} (h1 : tv < B) (h2 : sv < B) (h3 : stv < B) (h4 : th < B) :
    Sits Try.prog false (Kn (knLive tv sv stv th c stop step)) (Sn (knLive tv sv stv th c stop step)) B (seatLive th c stop step [frR1 Wg tv sv stv th stop step, bot] Zs) 27 (born Try.prog (callR1 Wg tv sv stv)) := by
  refine .inl ⟨26, default, rfl, Goes.step rfl fun w₁ h₁ => ?_⟩
  rw [bornR1]
  simp only [goes_go]
  refine ⟨ds_none _, ?_⟩
  have hR := fun w => live_round (main := false) (Zs := Zs) (cs0 := [frR1 Wg tv sv stv th stop step, bot]) (stop := stop) (step := step) (show (⟨th, 0, none⟩, Value.chan (some c)) ∈ knLive tv sv stv th c stop step by simp [knLive]) h4 (v3 := undef) (v4 := undef) (v5 := undef) (v6 := undef) (v7 := undef) (v8 := undef) (v9 := undef) (v10 := undef) (v11 := undef) (v12 := undef) (v13 := undef) (v14 := undef) (v15 := undef) (v16 := undef) (v17 := undef) (v18 := undef) (v19 := undef) (v20 := undef) (v21 := undef) (v22 := undef) (v23 := undef) (v24 := undef) (v25 := undef) (v26 := undef) (v27 := undef) (by intro x hx; simp only [List.mem_cons, List.not_mem_nil, or_false, or_self] at hx; subst hx; exact undef_ok) w
  simp only [liveAt, loopLive, bodyLive, frR1, opsR1, bodyR1, Try.f32, Try.f30, Option.getD_some, List.cons_append, List.nil_append] at hR ⊢
  k_c stepG_seq
  k_reg
  k_in
  rw [stepG_defer rfl rfl (by decide) rfl]
  simp only [goes_go]
  refine ⟨ds_none _, ?_⟩
  walk_nrm
  k_c stepG_region_end
  k_reg
  k_in
  refine goes_oper_k rfl rfl (by decide) (fun K hK => ?_)
  have hv : w₁.cell? ⟨tv, 0, none⟩ = some (.pointer (some ⟨th, 0, none⟩)) := h₁ (⟨tv, 0, none⟩, (.pointer (some ⟨th, 0, none⟩))) (by simp [knLive])
  go_simp
  refine hK _ _ ⟨⟨rfl, fun e he => ?_⟩, ?_⟩
  · have hm := mem_listed he
    simp [go_sem, *] at hm
    subst hm
    exact evC_read _ ⟨_, (by simp [knLive] : (⟨tv, 0, none⟩, (.pointer (some ⟨th, 0, none⟩))) ∈ _), rfl⟩ h1
  clear hK K
  k_in
  refine goes_oper_k rfl rfl (by decide) (fun K hK => ?_)
  have hv : w₁.cell? ⟨sv, 0, none⟩ = some (.chan (some stop)) := h₁ (⟨sv, 0, none⟩, (.chan (some stop))) (by simp [knLive])
  go_simp
  refine hK _ _ ⟨⟨rfl, fun e he => ?_⟩, ?_⟩
  · have hm := mem_listed he
    simp [go_sem, *] at hm
    subst hm
    exact evC_read _ ⟨_, (by simp [knLive] : (⟨sv, 0, none⟩, (.chan (some stop))) ∈ _), rfl⟩ h2
  clear hK K
  k_in
  refine goes_oper_k rfl rfl (by decide) (fun K hK => ?_)
  have hv : w₁.cell? ⟨stv, 0, none⟩ = some step := h₁ (⟨stv, 0, none⟩, step) (by simp [knLive])
  go_simp
  refine hK _ _ ⟨⟨rfl, fun e he => ?_⟩, ?_⟩
  · have hm := mem_listed he
    simp [go_sem, *] at hm
    subst hm
    exact evC_read _ ⟨_, (by simp [knLive] : (⟨stv, 0, none⟩, step) ∈ _), rfl⟩ h3
  clear hK K
  k_in
  refine goes_call rfl rfl (by decide) rfl Try.func32 nmLive rfl ⟨ds_none _, ?_⟩
  walk_nrmf Try.f32
  k_c stepG_block
  k_c stepG_loop
  exact (hR _)
end Go.Proofs.Ytaiinkeendejdaa
