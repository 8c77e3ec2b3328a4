/-
  CodeJoins: from the reading of the arguments to the walk. Condition: the library's variables (Env).
-/
import Derived.Test.YtojgdabkdbchnaaGreatDoorCodeJoinsWalk
namespace Go.Proofs.YtojgdabkdbchnaaGreatDoor
open Go.ChangeShapes Go.WideShapes Go.ChangeAt Go.RowKit
set_option maxRecDepth 100000
theorem codeJoins_law {H : Type} (enc : TypeId × Value → H) {W : World} {base : Nat} {args : Array Value} {ds gs : List (DataW H)} {before : List MemPlace}
    (hval : ∀ (j : Nat) t v, Tryz.f6.params[j]? = some t → args[j]? = some v → Value.okWide Tryz.prog W .any base t v)
    (hW : DataW.Whole enc Tryz.prog Tryz.f6.params.toList Rows.codeJoinsSpec.vars false W args.toList ds gs before)
    (hreach : (DataW.weightsEach Tryz.prog (Tryz.f6.params.toList ++ (OpenSpec.ofChange Rows.codeJoinsSpec).bare.plain.varTypes Tryz.prog) (ds ++ gs)).all (· ≤ reachBytes) = true) (he : Env W) :
    Calls Tryz.prog 6 args W fun e W' => ∃ v, e = .returned v ∧ Rows.codeJoinsSpec.post enc Tryz.prog Tryz.f6 false true false false W args v W' := by
  have hW' := hW
  obtain ⟨p, q, hA0, hV, rfl, hfz, hnd⟩ := hW
  have hA : DataW.TrodAll enc Tryz.prog W 0 (fun _ => true) true Tryz.f6.params.toList args.toList ds p := hA0
  rw [Tryz.params6] at hA hval
  obtain ⟨v0, d0, rfl, rfl, h0⟩ := trodAll_one hA
  obtain ⟨ro, c, P, rfl, hs, hok, hK⟩ := rows_open (hval 0 _ _ rfl rfl) h0 (fun n hn => by
    have := List.all_eq_true.1 hreach n (DataW.weights_mem_each (j := 0) (t := 44) (d := d0) rfl rfl n hn)
    simpa using this)
  exact (CodeJoins_any ro c P W he hs hok hK).mono fun e w' ⟨h1, h2⟩ => ⟨_, h1, law_post laidOut hW' rfl rfl rfl Tryz.underlying4 (by kernel_rfl) h2⟩
end Go.Proofs.YtojgdabkdbchnaaGreatDoor
