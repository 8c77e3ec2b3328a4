/-
  SCHED: a thread's goroutine that has answered: back to its seat, or on its way out. No condition.
-/
import Derived.Test.YtaiinkeendejdaaSchServe
namespace Go.Proofs.Ytaiinkeendejdaa
open Go.RowKit Go.Conc Go.ConcR.Gen Go.ConcN.Gen
set_option maxRecDepth 100000
theorem answer_send {main : Bool} {th c d stop : Nat} {step : Value} {k a : Int} {cs0 : List Frame} {Zs : Nat → Bool} {g : Goroutine} (hg : SendsAt th c d stop step k a cs0 Zs g) (w : World) : g.status = .running ∧ stepG Try.prog main g w = .comm g #[scase d (.int .i64 a) (.tuple #[])] true .send w #[] := by
  obtain ⟨v3, v4, v5, v26, v27, _, rfl⟩ := hg
  refine ⟨rfl, ?_⟩
  simp only [liveAt, sendItems, sendLive, backLive, turnLive, restLive, loopLive, bodyLive, Try.f32, Option.getD_some, List.cons_append, List.nil_append]
  refine (stepG_comm (cases := #[scase d (.int .i64 a) (.tuple #[])]) (blocking := true) (shape := .send) (w' := w) rfl rfl (by decide) (by simp [go_sem, execOp, scase, Act.eval])).trans ?_
  rw [listed_none (by simp [go_sem, execOp, Act.eval])]
theorem live_back {main : Bool} {th c d stop : Nat} {step : Value} {k a : Int} {cs0 : List Frame} {Zs : Nat → Bool} {g : Goroutine} {kn : List (Addr × Value)} {B : Nat} (hg : SendsAt th c d stop step k a cs0 Zs g) (ha : a ≠ 4) (hstep : NoZ Zs step) (_hth : Zs th = false) (_hdz : Zs d = false)
    (hc : (⟨th, 0, none⟩, Value.chan (some c)) ∈ kn) (hB : th < B) : Sits Try.prog main (Kn kn) (Sn kn) B (seatLive th c stop step cs0 Zs) 26 (Go.Conc.served g undef) := by
  obtain ⟨v3, v4, v5, v26, v27, hz, rfl⟩ := hg
  refine .inl ⟨25, default, rfl, ?_⟩
  have hR := fun v26' v27' (hz' : NoZ Zs v26' ∧ NoZ Zs v27') w => live_round (main := main) (c := c) (Zs := Zs) (cs0 := cs0) (stop := stop) (step := step) (kn := kn) (B := B) hc hB (v3 := v3) (v4 := v4) (v5 := v5) (v6 := .int .i64 k) (v7 := .int .i64 a) (v8 := .pointer (some ⟨th, 0, none⟩)) (v9 := .pointer (some ⟨th, 0, none⟩)) (v10 := .pointer (some ⟨th, 0, none⟩)) (v11 := .chan (some c)) (v12 := .chan (some stop)) (v13 := .tuple #[goInt 0, .bool true, .int .i64 k, .int .i64 0]) (v14 := .int .i64 0) (v15 := .bool true) (v16 := .bool false) (v17 := .int .i64 k) (v18 := step) (v19 := .int .i64 k) (v20 := .int .i64 a) (v21 := .pointer (some ⟨th, 0, none⟩)) (v22 := .pointer (some ⟨th, 0, none⟩)) (v23 := .pointer (some ⟨th, 1, none⟩)) (v24 := .chan (some d)) (v25 := .int .i64 a) (v26 := v26') (v27 := v27') (by
    have z3 := hz v3 (by simp)
    have z4 := hz v4 (by simp)
    have z5 := hz v5 (by simp)
    obtain ⟨z6, z7⟩ := hz'
    intro x hx
    simp only [List.mem_cons, List.not_mem_nil, or_false] at hx
    rcases hx with rfl | rfl | rfl | rfl | rfl | rfl | rfl | rfl | rfl | rfl | rfl | rfl | rfl | rfl | rfl | rfl | rfl | rfl | rfl | rfl
    all_goals exact .any _) w
  have ha1 : (a == 4) = false := by simp; exact ha
  have ha2 : decide (a = 4) = false := decide_eq_false ha
  simp only [liveAt, sendItems, sendLive, backLive, turnLive, restLive, loopLive, bodyLive, Try.f32, Option.getD_some, List.cons_append, List.nil_append] at hR ⊢
  rw [served_fr, Frame.finish_at]
  walk_nrm
  k_c stepG_region_end
  k_c stepG_seq
  k_reg
  k_in
  refine goes_oper_k rfl rfl (by decide) (fun K hK => ?_)
  go_simp
  refine hK _ _ ⟨⟨rfl, fun e he => ?_⟩, ?_⟩
  · have hm := mem_listed he; simp [go_sem, *] at hm
  clear hK K
  k_in
  refine goes_oper_k rfl rfl (by decide) (fun K hK => ?_)
  go_simp
  refine hK _ _ ⟨⟨rfl, fun e he => ?_⟩, ?_⟩
  · have hm := mem_listed he; simp [go_sem, *] at hm
  clear hK K
  k_c stepG_region_end
  k_in
  rw [stepG_cond (t := false) rfl]
  simp only [goes_go, Bool.false_eq_true, if_false]
  refine ⟨ds_none _, ?_⟩
  k_c stepG_skip
  k_c stepG_inBlock
  k_c stepG_inBlock
  k_c stepG_inLoop
  exact hR _ _ ⟨.int _ _, .bool _⟩ _
/-- .. or it has ended -/
theorem live_ends {Wg tv sv stv th c d stop : Nat} {step : Value} {k : Int} {Zs : Nat → Bool} {g : Goroutine} (hg : SendsAt th c d stop step k 4 [frR1 Wg tv sv stv th stop step, bot] Zs g) :
    LSit Try.prog 64 Wg 7 55 0 (Go.Conc.served g undef) := by
  obtain ⟨v3, v4, v5, v26, v27, hz, rfl⟩ := hg
  refine .r0 fun w => ?_
  have hF : True := trivial
  have hL := @live_left Wg tv sv stv th stop step
  generalize [frR1 Wg tv sv stv th stop step, bot] = cs at hL ⊢
  simp only [liveAt, sendItems, sendLive, backLive, turnLive, restLive, loopLive, bodyLive, Try.f32, Option.getD_some, List.cons_append, List.nil_append]
  rw [served_fr, Frame.finish_at]
  walk_nrm
  u_c stepG_region_end (fun _ r => r) hF
  u_c stepG_seq (fun _ r => r) hF
  u_reg (fun _ r => r) hF
  u_op (fun _ r => r) hF
  u_op (fun _ r => r) hF
  u_c stepG_region_end (fun _ r => r) hF
  u_cond true (fun _ r => r) hF
  u_c stepG_ret' (fun _ r => r) hF
  exact hL _
end Go.Proofs.Ytaiinkeendejdaa
