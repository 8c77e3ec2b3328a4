/-
  THE LAW SchedRuns, where what it reads is of bulk at most 1048576: it answers true and leaves its arguments as they were.
-/
import Derived.Test.YtaiinkeendejdaaSchFrame
import Derived.Test.YtaiinkeendejdaaSchCond
import Derived.Test.YtaiinkeendejdaaSchOpen
import Derived.Test.YtaiinkeendejdaaSchRunsEnds
namespace Go.Proofs.Ytaiinkeendejdaa.lawSchedRuns
open Go.ChangeShapes Go.WideShapes Go.ChangeAt Go.RowKit
set_option maxRecDepth 100000
theorem lifted (os : Os) (started : os.Started) (H : Type) (enc : TypeId × Value → H) (F : Stop.Interp) :
    ReturnsInLeavingWide {} Try.checked os 5 .any ((Rows.OpenSpec.upto Rows.schedRunsSpec).pre6 enc Try.prog Try.f5 Rows.schedRunsUptoRow.domain false) (((Rows.OpenSpec.upto Rows.schedRunsSpec).at F).post enc Try.prog Try.f5 false true false false) := by
  refine returnsInLeavingWide_of_cond (C := Try.checked) (s := Rows.OpenSpec.upto Rows.schedRunsSpec) (k := Rows.uptoSmall) rfl own started Try.func5
    (OpenSpec.witness (enc := enc) (C := Try.checked) (s := Rows.OpenSpec.upto Rows.schedRunsSpec) (k := Rows.uptoSmall) rfl false ⟨#[], #[.slice none 0 0, .slice none 0 0, .int .i64 0], []⟩ 8 (by kernel_rfl) (by kernel_rfl) (by kernel_rfl)
      (x := ([.nil, .nil, .lit (.int .i64 0)], [], [])) (by kernel_rfl) rfl (by kernel_rfl)) ?_
  intro W base args ds gs before hval0 hW _ hk
  have hval : ∀ (j : Nat) t v, Try.f5.params[j]? = some t → args[j]? = some v → Value.okWide Try.prog W .any base t v := hval0
  clear hval0
  have hW' := hW
  obtain ⟨p, q, hA0, hV, rfl, hfz, hnd⟩ := hW
  have hA : DataW.TrodAll enc Try.prog W 0 (fun _ => true) true Try.f5.params.toList args.toList ds p := hA0
  rw [Try.params5] at hA hval
  obtain ⟨v0, v1, v2, d0, d1, d2, p0, p1, p2, rfl, rfl, rfl, h0, h1, h2⟩ := trodAll_three hA
  have hbk : Rows.uptoBulkAll ([d0, d1, d2] ++ gs) ≤ 1048576 := of_decide_eq_true hk
  simp only [List.cons_append, List.nil_append, Rows.uptoBulkAll] at hbk
  obtain ⟨ao, c, L, rfl, hs, hp, _, _⟩ := plans_open (hval 0 _ _ rfl rfl) h0 (by omega)
  obtain ⟨pa, np, pc, picks, rfl, hpk, _, hnp, hnpm, h64⟩ : ∃ pa np pc picks, v1 = .slice pa np pc ∧ Sees W pa picks ∧ (pa = none → pc = 0) ∧ picks.length = np ∧ np ≤ 1048576 ∧ ∀ z ∈ picks, -9223372036854775808 ≤ z ∧ z ≤ 9223372036854775807 := by
    obtain ⟨a, len, cap, rfl⟩ := okWide_slice Try.underlying23 (hval 1 _ _ rfl rfl)
    obtain ⟨fu, hf⟩ := h1
    obtain ⟨y, e, y1, y2, y3, y4, y5, y6⟩ := intsC_open hf
    have y4 : y.2.1 ≤ Rows.uptoBulk d1 := y4
    have e : [Value.slice a len cap] = [pvVal y] := e
    have e2 : Value.slice a len cap = pvVal y := (List.cons.inj e).1
    rw [e2]
    exact ⟨y.1, _, y.2.1, y.2.2, rfl, sees_pv y6, y1, rfl, by omega, y5⟩
  obtain ⟨D, rfl⟩ := okWide_int Try.underlying3 (hval 2 _ _ rfl rfl)
  have hD64 : -9223372036854775808 ≤ D ∧ D ≤ 9223372036854775807 := by
    obtain ⟨fu, hf⟩ := h2
    obtain ⟨D', e1, _, hw⟩ := DataW.trod_int Try.underlying3 hf
    have e1 : [Value.int .i64 D] = [Value.int .i64 D'] := e1
    simp only [List.cons.injEq, Value.int.injEq, and_true, true_and] at e1
    subst e1
    simp [Lit.wf, IntKind.min, IntKind.max, IntKind.signed, IntKind.bits] at hw
    exact ⟨by omega, by omega⟩
  exact runs_ends rfl hs hp hnp hpk (by omega) h64 hD64 fun w k => law_post laidOut hW' rfl rfl rfl Try.underlying4 (by kernel_rfl) k
theorem said : Rows.SchedRunsUptoSaid :=
  holds_of_cond_leaving 5 Try.f5 rfl rfl rfl rfl rfl rfl rfl ⟨rfl, rfl, rfl, rfl, rfl⟩ rfl rfl rfl rfl rfl (by kernel_rfl) Try.func5 (by kernel_rfl)
    (of_decide_eq_true (by kernel_rfl)) (by unfold Func.isWrapper; first | (rw [if_pos (by decide +kernel)]; kernel_rfl) | (rw [if_neg (by decide +kernel)]; exact ⟨rfl, rfl⟩))
    (fun os started H enc _ F => lifted os started H enc F)
end Go.Proofs.Ytaiinkeendejdaa.lawSchedRuns
