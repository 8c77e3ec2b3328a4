/-
  THE LAW SchedFair, where what it reads is of bulk at most 1048576: it answers true and leaves its arguments as they were.
-/
import Derived.Test.YtaiinkeendejdaaSchFrame
import Derived.Test.YtaiinkeendejdaaSchCond
import Derived.Test.YtaiinkeendejdaaSchOpen
import Derived.Test.YtaiinkeendejdaaSchFairEnds
namespace Go.Proofs.Ytaiinkeendejdaa.lawSchedFair
open Go.ChangeShapes Go.WideShapes Go.ChangeAt Go.RowKit
set_option maxRecDepth 100000
theorem lifted (os : Os) (started : os.Started) (H : Type) (enc : TypeId × Value → H) (F : Stop.Interp) :
    ReturnsInLeavingWide {} Try.checked os 8 .any ((Rows.OpenSpec.upto Rows.schedFairSpec).pre6 enc Try.prog Try.f8 Rows.schedFairUptoRow.domain false) (((Rows.OpenSpec.upto Rows.schedFairSpec).at F).post enc Try.prog Try.f8 false true false false) := by
  refine returnsInLeavingWide_of_cond (C := Try.checked) (s := Rows.OpenSpec.upto Rows.schedFairSpec) (k := Rows.uptoSmall) rfl own started Try.func8
    (OpenSpec.witness (enc := enc) (C := Try.checked) (s := Rows.OpenSpec.upto Rows.schedFairSpec) (k := Rows.uptoSmall) rfl false ⟨#[], #[.slice none 0 0, .int .i64 0], []⟩ 8 (by kernel_rfl) (by kernel_rfl) (by kernel_rfl)
      (x := ([.nil, .lit (.int .i64 0)], [], [])) (by kernel_rfl) rfl (by kernel_rfl)) ?_
  intro W base args ds gs before hval0 hW _ hk
  have hval : ∀ (j : Nat) t v, Try.f8.params[j]? = some t → args[j]? = some v → Value.okWide Try.prog W .any base t v := hval0
  clear hval0
  have hW' := hW
  obtain ⟨p, q, hA0, hV, rfl, hfz, hnd⟩ := hW
  have hA : DataW.TrodAll enc Try.prog W 0 (fun _ => true) true Try.f8.params.toList args.toList ds p := hA0
  rw [Try.params8] at hA hval
  obtain ⟨v0, v1, d0, d1, p0, p1, rfl, rfl, rfl, h0, h1⟩ := trodAll_two hA
  have hbk : Rows.uptoBulkAll ([d0, d1] ++ gs) ≤ 1048576 := of_decide_eq_true hk
  simp only [List.cons_append, List.nil_append, Rows.uptoBulkAll] at hbk
  obtain ⟨ao, c, L, rfl, hs, hp, _, _⟩ := plans_open (hval 0 _ _ rfl rfl) h0 (by omega)
  obtain ⟨D, rfl⟩ := okWide_int Try.underlying3 (hval 1 _ _ rfl rfl)
  exact fair_ends rfl hs hp fun w k => law_post laidOut hW' rfl rfl rfl Try.underlying4 (by kernel_rfl) k
theorem said : Rows.SchedFairUptoSaid :=
  holds_of_cond_leaving 8 Try.f8 rfl rfl rfl rfl rfl rfl rfl ⟨rfl, rfl, rfl, rfl, rfl⟩ rfl rfl rfl rfl rfl (by kernel_rfl) Try.func8 (by kernel_rfl)
    (of_decide_eq_true (by kernel_rfl)) (by unfold Func.isWrapper; first | (rw [if_pos (by decide +kernel)]; kernel_rfl) | (rw [if_neg (by decide +kernel)]; exact ⟨rfl, rfl⟩))
    (fun os started H enc _ F => lifted os started H enc F)
end Go.Proofs.Ytaiinkeendejdaa.lawSchedFair
