/-
  CodePrints: from the reading of the arguments to the walk. Condition: the library's variables (Env).
-/
import Derived.Test.YtojgdabkdbchnaaGreatDoorCodePrintsWalk
namespace Go.Proofs.YtojgdabkdbchnaaGreatDoor
open Go.ChangeShapes Go.WideShapes Go.ChangeAt Go.RowKit
set_option maxRecDepth 100000
theorem codePrints_law {H : Type} (enc : TypeId × Value → H) {W : World} {base : Nat} {args : Array Value} {ds gs : List (DataW H)} {before : List MemPlace}
    (hval : ∀ (j : Nat) t v, Tryz.f4.params[j]? = some t → args[j]? = some v → Value.okWide Tryz.prog W .any base t v)
    (hW : DataW.Whole enc Tryz.prog Tryz.f4.params.toList Rows.codePrintsSpec.vars false W args.toList ds gs before)
    (hreach : (DataW.weightsEach Tryz.prog (Tryz.f4.params.toList ++ (OpenSpec.ofChange Rows.codePrintsSpec).bare.plain.varTypes Tryz.prog) (ds ++ gs)).all (· ≤ reachBytes) = true) (he : Env W) :
    Calls Tryz.prog 4 args W fun e W' => ∃ v, e = .returned v ∧ Rows.codePrintsSpec.post enc Tryz.prog Tryz.f4 false true false false W args v W' := by
  have hW' := hW
  obtain ⟨p, q, hA0, hV, rfl, hfz, hnd⟩ := hW
  have hA : DataW.TrodAll enc Tryz.prog W 0 (fun _ => true) true Tryz.f4.params.toList args.toList ds p := hA0
  rw [Tryz.params4] at hA hval
  obtain ⟨v0, d0, rfl, rfl, h0⟩ := trodAll_one hA
  have fin : ∀ v0', v0' = v0 → Calls Tryz.prog 4 #[v0'] W (fun e w' => e = .returned (.bool true) ∧ Below W.heap.size W w') →
      Calls Tryz.prog 4 #[v0] W fun e W' => ∃ v, e = .returned v ∧ Rows.codePrintsSpec.post enc Tryz.prog Tryz.f4 false true false false W #[v0] v W' := by
    intro v0' e hc
    subst e
    exact hc.mono fun e w' ⟨h1, h2⟩ => ⟨_, h1, law_post laidOut hW' rfl rfl rfl Tryz.underlying4 (by kernel_rfl) h2⟩
  rcases instrs_open (hval 0 _ _ rfl rfl) h0 with ⟨rfl, rfl⟩ | ⟨ad, c, l, es, sp, rfl, hs, hzc, hcm, hi, rfl, hl⟩
  · exact fin _ rfl (CodePrints_any none 0 [] W he (SeesP.nil _ _) (fun _ => rfl) (by decide) (fun x hx => by cases hx))
  · have hr := sized_slice hreach (j := 0) (t := 22) (e := 42) rfl rfl Tryz.underlying22
    rw [bytesP, hl] at hr
    simp only [reachBytes] at hr
    exact fin _ rfl (CodePrints_any (some ad) c l W he hs (fun h => by cases h) (by omega) hi)
end Go.Proofs.YtojgdabkdbchnaaGreatDoor
