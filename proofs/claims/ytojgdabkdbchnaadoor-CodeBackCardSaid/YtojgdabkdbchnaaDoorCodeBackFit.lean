/-
  CodeBack: from the reading of the arguments to the walk. Condition: the library's variables (Env).
-/
import Derived.Test.YtojgdabkdbchnaaDoorCodeBackWalk
import Derived.Test.YtojgdabkdbchnaaDoorOpenI
namespace Go.Proofs.YtojgdabkdbchnaaDoor
open Go.ChangeShapes Go.WideShapes Go.ChangeAt Go.RowKit
set_option maxRecDepth 100000
theorem codeBack_law {H : Type} (enc : TypeId × Value → H) {W : World} {base : Nat} {args : Array Value} {ds gs : List (DataW H)} {before : List MemPlace}
    (hval : ∀ (j : Nat) t v, Tryd.f5.params[j]? = some t → args[j]? = some v → Value.okWide Tryd.prog W .any base t v)
    (hW : DataW.Whole enc Tryd.prog Tryd.f5.params.toList Rows.codeBackSpec.vars false W args.toList ds gs before)
    (hreach : (DataW.weightsEach Tryd.prog (Tryd.f5.params.toList ++ (OpenSpec.ofChange Rows.codeBackSpec).bare.plain.varTypes Tryd.prog) (ds ++ gs)).all (· ≤ reachBytes) = true) (he : Env W) :
    Calls Tryd.prog 5 args W fun e W' => ∃ v, e = .returned v ∧ Rows.codeBackSpec.post enc Tryd.prog Tryd.f5 false true false false W args v W' := by
  have hW' := hW
  obtain ⟨p, q, hA0, hV, rfl, hfz, hnd⟩ := hW
  have hA : DataW.TrodAll enc Tryd.prog W 0 (fun _ => true) true Tryd.f5.params.toList args.toList ds p := hA0
  rw [Tryd.params5] at hA hval
  obtain ⟨v0, v1, d0, d1, p0, p1, rfl, rfl, rfl, h0, h1⟩ := trodAll_two hA
  have fin : ∀ v0' v1', v0' = v0 → v1' = v1 → Calls Tryd.prog 5 #[v0', v1'] W (fun e w' => e = .returned (.bool true) ∧ Below W.heap.size W w') →
      Calls Tryd.prog 5 #[v0, v1] W fun e W' => ∃ v, e = .returned v ∧ Rows.codeBackSpec.post enc Tryd.prog Tryd.f5 false true false false W #[v0, v1] v W' := by
    intro v0' v1' e e' hc
    subst e; subst e'
    exact hc.mono fun e w' ⟨h1, h2⟩ => ⟨_, h1, law_post laidOut hW' rfl rfl rfl Tryd.underlying4 (by kernel_rfl) h2⟩
  have two : ∀ ao c l, v0 = .slice ao l.length c → SeesP W ao l → l.length ≤ maxLen → InI l → Calls Tryd.prog 5 #[v0, v1] W fun e W' => ∃ v, e = .returned v ∧ Rows.codeBackSpec.post enc Tryd.prog Tryd.f5 false true false false W #[v0, v1] v W' := by
    intro ao c l e hs hl hI
    by_cases h0 : (checkL l).1 = 0
    · rcases intsI_open (hval 1 _ _ rfl rfl) h1 with ⟨e1, _⟩ | ⟨ad, c1, zs, ys, e1, hs1, hzc, hcm, _, _, _⟩
      · exact fin _ _ e.symm e1.symm (CodeBack_ok ao c l none 0 [] W he hs (Sees.nil _ _) (by decide) hI h0)
      · exact fin _ _ e.symm e1.symm (CodeBack_ok ao c l (some ad) c1 zs W he hs hs1 (by unfold maxLen at *; omega) hI h0)
    · exact fin _ _ e.symm rfl (CodeBack_bad ao c l v1 W he hs hl h0)
  rcases instrs_open (hval 0 _ _ rfl rfl) h0 with ⟨e, rfl⟩ | ⟨ad, c, l, es, sp, e, hs, hzc, hcm, hi, rfl, hl⟩
  · exact two none 0 [] e (SeesP.nil _ _) (by decide) (fun x hx => by cases hx)
  · exact two (some ad) c l e hs (by omega) hi
end Go.Proofs.YtojgdabkdbchnaaDoor
