/-
  CodeNested: from the reading of the arguments to the walk. Condition: the library's variables (Env).
-/
import Derived.Test.YtojgdabkdbchnaaDoorCodeNestedWalk
namespace Go.Proofs.YtojgdabkdbchnaaDoor
open Go.ChangeShapes Go.WideShapes Go.ChangeAt Go.RowKit
set_option maxRecDepth 100000
theorem codeNested_law {H : Type} (enc : TypeId × Value → H) {W : World} {base : Nat} {args : Array Value} {ds gs : List (DataW H)} {before : List MemPlace}
    (hval : ∀ (j : Nat) t v, Tryd.f7.params[j]? = some t → args[j]? = some v → Value.okWide Tryd.prog W .any base t v)
    (hW : DataW.Whole enc Tryd.prog Tryd.f7.params.toList Rows.codeNestedSpec.vars false W args.toList ds gs before)
    (hreach : (DataW.weightsEach Tryd.prog (Tryd.f7.params.toList ++ (OpenSpec.ofChange Rows.codeNestedSpec).bare.plain.varTypes Tryd.prog) (ds ++ gs)).all (· ≤ reachBytes) = true) (he : Env W) :
    Calls Tryd.prog 7 args W fun e W' => ∃ v, e = .returned v ∧ Rows.codeNestedSpec.post enc Tryd.prog Tryd.f7 false true false false W args v W' := by
  have hW' := hW
  obtain ⟨p, q, hA0, hV, rfl, hfz, hnd⟩ := hW
  have hA : DataW.TrodAll enc Tryd.prog W 0 (fun _ => true) true Tryd.f7.params.toList args.toList ds p := hA0
  rw [Tryd.params7] at hA hval
  obtain ⟨v0, v1, v2, d0, d1, d2, p0, p1, p2, rfl, rfl, rfl, h0, h1, h2⟩ := trodAll_three hA
  have op1 : ∀ (j : Nat) v d p, (#[23, 23, 23] : Array TypeId)[j]? = some 23 → [d0, d1, d2][j]? = some d → Value.okWide Tryd.prog W .any base 23 v → DataW.Trod enc Tryd.prog W 0 (fun _ => true) true 23 v d p →
      ∃ ao c l, v = .slice ao l.length c ∧ SeesP W ao l ∧ FitP l c := by
    intro j v d p hj hd hv ht
    rcases instrs_open hv ht with ⟨e, _⟩ | ⟨ad, c, l, es, sp, e, hs, hzc, hcm, hi, e2, hl⟩
    · exact ⟨none, 0, [], e, SeesP.nil _ _, by decide, by decide⟩
    · subst e2
      have hr := sized_slice hreach (j := j) (t := 23) (e := 44) (by
        match j, hj with
        | 0, _ => rfl
        | 1, _ => rfl
        | 2, _ => rfl
        | j + 3, hj => simp at hj) (by
        rw [List.getElem?_append_left (by have := (List.getElem?_eq_some_iff.1 hd).1; simpa using this)]
        exact hd) Tryd.underlying23
      rw [bytesP, hl] at hr
      simp only [reachBytes] at hr
      exact ⟨some ad, c, l, e, hs, by omega, hzc⟩
  obtain ⟨ao, ca, la, rfl, sa, fa⟩ := op1 0 _ _ _ rfl rfl (hval 0 _ _ rfl rfl) h0
  obtain ⟨bo, cb, lb, rfl, sb, fb⟩ := op1 1 _ _ _ rfl rfl (hval 1 _ _ rfl rfl) h1
  obtain ⟨co, cc, lc, rfl, sc, fc⟩ := op1 2 _ _ _ rfl rfl (hval 2 _ _ rfl rfl) h2
  exact (CodeNested_any ao bo co ca cb cc la lb lc W he sa sb sc fa fb fc).mono fun e w' ⟨h1, h2⟩ => ⟨_, h1, law_post laidOut hW' rfl rfl rfl Tryd.underlying4 (by kernel_rfl) h2⟩
end Go.Proofs.YtojgdabkdbchnaaDoor
