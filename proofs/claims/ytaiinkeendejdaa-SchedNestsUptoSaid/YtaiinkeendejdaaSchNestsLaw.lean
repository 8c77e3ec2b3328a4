/-
  THE LAW SchedNests, where what it reads is of bulk at most 1048576: it answers true and leaves its arguments as they were.
-/
import Derived.Test.YtaiinkeendejdaaSchFrame
import Derived.Test.YtaiinkeendejdaaSchCond
import Derived.Test.YtaiinkeendejdaaSchOpen
import Derived.Test.YtaiinkeendejdaaSchNestsEnds
namespace Go.Proofs.Ytaiinkeendejdaa.lawSchedNests
open Go.ChangeShapes Go.WideShapes Go.ChangeAt Go.RowKit
set_option maxRecDepth 100000
theorem lifted (os : Os) (started : os.Started) (H : Type) (enc : TypeId × Value → H) (F : Stop.Interp) :
    ReturnsInLeavingWide {} Try.checked os 7 .any ((Rows.OpenSpec.upto Rows.schedNestsSpec).pre6 enc Try.prog Try.f7 Rows.schedNestsUptoRow.domain false) (((Rows.OpenSpec.upto Rows.schedNestsSpec).at F).post enc Try.prog Try.f7 false true false false) := by
  refine returnsInLeavingWide_of_cond (C := Try.checked) (s := Rows.OpenSpec.upto Rows.schedNestsSpec) (k := Rows.uptoSmall) rfl own started Try.func7
    (OpenSpec.witness (enc := enc) (C := Try.checked) (s := Rows.OpenSpec.upto Rows.schedNestsSpec) (k := Rows.uptoSmall) rfl false ⟨#[], #[.slice none 0 0, .slice none 0 0, .slice none 0 0], []⟩ 8 (by kernel_rfl) (by kernel_rfl) (by kernel_rfl)
      (x := ([.nil, .nil, .nil], [], [])) (by kernel_rfl) rfl (by kernel_rfl)) ?_
  intro W base args ds gs before hval0 hW _ hk
  have hval : ∀ (j : Nat) t v, Try.f7.params[j]? = some t → args[j]? = some v → Value.okWide Try.prog W .any base t v := hval0
  clear hval0
  have hW' := hW
  obtain ⟨p, q, hA0, hV, rfl, hfz, hnd⟩ := hW
  have hA : DataW.TrodAll enc Try.prog W 0 (fun _ => true) true Try.f7.params.toList args.toList ds p := hA0
  rw [Try.params7] at hA hval
  obtain ⟨v0, v1, v2, d0, d1, d2, p0, p1, p2, rfl, rfl, rfl, h0, h1, h2⟩ := trodAll_three hA
  have hbk : Rows.uptoBulkAll ([d0, d1, d2] ++ gs) ≤ 1048576 := of_decide_eq_true hk
  simp only [List.cons_append, List.nil_append, Rows.uptoBulkAll] at hbk
  obtain ⟨ao, c, L, rfl, hs, hp, _, _⟩ := plans_open (hval 0 _ _ rfl rfl) h0 (by omega)
  obtain ⟨bo, c2, L2, rfl, hs2, hp2, _, _⟩ := plans_open (hval 1 _ _ rfl rfl) h1 (by omega)
  obtain ⟨pa, np, pc, picks, rfl, hpk, hpn, hnp, hnpm, h64⟩ : ∃ pa np pc picks, v2 = .slice pa np pc ∧ Sees W pa picks ∧ np ≤ pc ∧ picks.length = np ∧ np ≤ 1048576 ∧ ∀ z ∈ picks, -9223372036854775808 ≤ z ∧ z ≤ 9223372036854775807 := by
    obtain ⟨a, len, cap, rfl⟩ := okWide_slice Try.underlying23 (hval 2 _ _ rfl rfl)
    obtain ⟨fu, hf⟩ := h2
    obtain ⟨y, e, y1, y2, y3, y4, y5, y6⟩ := intsC_open hf
    have y4 : y.2.1 ≤ Rows.uptoBulk d2 := y4
    have e : [Value.slice a len cap] = [pvVal y] := e
    have e2 : Value.slice a len cap = pvVal y := (List.cons.inj e).1
    rw [e2]
    exact ⟨y.1, _, y.2.1, y.2.2, rfl, sees_pv y6, y2, rfl, by omega, y5⟩
  exact nests_ends rfl hs hp rfl hs2 hp2 hnp hpk hpn (by omega) h64 fun w k => law_post laidOut hW' rfl rfl rfl Try.underlying4 (by kernel_rfl) k
theorem said : Rows.SchedNestsUptoSaid :=
  holds_of_cond_leaving 7 Try.f7 rfl rfl rfl rfl rfl rfl rfl ⟨rfl, rfl, rfl, rfl, rfl⟩ rfl rfl rfl rfl rfl (by kernel_rfl) Try.func7 (by kernel_rfl)
    (of_decide_eq_true (by kernel_rfl)) (by unfold Func.isWrapper; first | (rw [if_pos (by decide +kernel)]; kernel_rfl) | (rw [if_neg (by decide +kernel)]; exact ⟨rfl, rfl⟩))
    (fun os started H enc _ F => lifted os started H enc F)
end Go.Proofs.Ytaiinkeendejdaa.lawSchedNests
