/-
  CodeParses: from the reading of the arguments to the walk. Condition: the library's variables (Env).
-/
import Derived.Test.YtojgdabkdbchnaaGreatDoorCodeParsesWalk
import Derived.Test.YtojgdabkdbchnaaGreatDoorLaw
import Derived.ChangeMaps5
namespace Go.Proofs.YtojgdabkdbchnaaGreatDoor
open Go.ChangeShapes Go.WideShapes Go.ChangeAt Go.RowKit
set_option maxRecDepth 100000
theorem codeParses_law {H : Type} (enc : TypeId × Value → H) {W : World} {base : Nat} {args : Array Value} {ds gs : List (DataW H)} {before : List MemPlace}
    (hval : ∀ (j : Nat) t v, Tryz.f5.params[j]? = some t → args[j]? = some v → Value.okWide Tryz.prog W .any base t v)
    (hW : DataW.Whole enc Tryz.prog Tryz.f5.params.toList Rows.codeParsesSpec.vars false W args.toList ds gs before)
    (hreach : (DataW.weightsEach Tryz.prog (Tryz.f5.params.toList ++ (OpenSpec.ofChange Rows.codeParsesSpec).bare.plain.varTypes Tryz.prog) (ds ++ gs)).all (· ≤ reachBytes) = true) (he : Env W) :
    Calls Tryz.prog 5 args W fun e W' => ∃ v, e = .returned v ∧ Rows.codeParsesSpec.post enc Tryz.prog Tryz.f5 false true false false W args v W' := by
  have hW' := hW
  obtain ⟨p, q, hA0, hV, rfl, hfz, hnd⟩ := hW
  have hA : DataW.TrodAll enc Tryz.prog W 0 (fun _ => true) true Tryz.f5.params.toList args.toList ds p := hA0
  rw [Tryz.params5] at hA hval
  obtain ⟨v0, d0, rfl, rfl, h0⟩ := trodAll_one hA
  have fin : ∀ v0', v0' = v0 → Calls Tryz.prog 5 #[v0'] W (fun e w' => e = .returned (.bool true) ∧ Below W.heap.size W w') →
      Calls Tryz.prog 5 #[v0] W fun e W' => ∃ v, e = .returned v ∧ Rows.codeParsesSpec.post enc Tryz.prog Tryz.f5 false true false false W #[v0] v W' := by
    intro v0' e hc
    subst e
    exact hc.mono fun e w' ⟨h1, h2⟩ => ⟨_, h1, law_post laidOut hW' rfl rfl rfl Tryz.underlying4 (by kernel_rfl) h2⟩
  obtain ⟨s, rfl, rfl, rfl, _⟩ := Go.ChangeMaps.open_string Tryz.underlying9 (hval 0 _ _ rfl rfl) h0
  exact fin _ rfl (CodeParses_any s W he)
end Go.Proofs.YtojgdabkdbchnaaGreatDoor
