/-
  CodeChecks: from the reading of the arguments to the walk. Condition: the library's variables (Env).
-/
import Derived.Test.YtojgdabkdbchnaaDoorCodeChecksWalk
namespace Go.Proofs.YtojgdabkdbchnaaDoor
open Go.ChangeShapes Go.WideShapes Go.ChangeAt Go.RowKit
set_option maxRecDepth 100000
theorem codeChecks_law {H : Type} (enc : TypeId × Value → H) {W : World} {base : Nat} {args : Array Value} {ds gs : List (DataW H)} {before : List MemPlace}
    (hval : ∀ (j : Nat) t v, Tryd.f4.params[j]? = some t → args[j]? = some v → Value.okWide Tryd.prog W .any base t v)
    (hW : DataW.Whole enc Tryd.prog Tryd.f4.params.toList Rows.codeChecksSpec.vars false W args.toList ds gs before)
    (hreach : (DataW.weightsEach Tryd.prog (Tryd.f4.params.toList ++ (OpenSpec.ofChange Rows.codeChecksSpec).bare.plain.varTypes Tryd.prog) (ds ++ gs)).all (· ≤ reachBytes) = true) (he : Env W) :
    Calls Tryd.prog 4 args W fun e W' => ∃ v, e = .returned v ∧ Rows.codeChecksSpec.post enc Tryd.prog Tryd.f4 false true false false W args v W' := by
  have hW' := hW
  obtain ⟨p, q, hA0, hV, rfl, hfz, hnd⟩ := hW
  have hA : DataW.TrodAll enc Tryd.prog W 0 (fun _ => true) true Tryd.f4.params.toList args.toList ds p := hA0
  rw [Tryd.params4] at hA hval
  obtain ⟨v0, v1, d0, d1, p0, p1, rfl, rfl, rfl, h0, h1⟩ := trodAll_two hA
  obtain ⟨op, rfl, rfl, rfl, _⟩ := open_int Tryd.underlying3 (hval 1 _ _ rfl rfl) h1
  have fin : ∀ v0', v0' = v0 → Calls Tryd.prog 4 #[v0', .int .i64 op] W (fun e w' => e = .returned (.bool true) ∧ Below W.heap.size W w') →
      Calls Tryd.prog 4 #[v0, .int .i64 op] W fun e W' => ∃ v, e = .returned v ∧ Rows.codeChecksSpec.post enc Tryd.prog Tryd.f4 false true false false W #[v0, .int .i64 op] v W' := by
    intro v0' e hc
    subst e
    exact hc.mono fun e w' ⟨h1, h2⟩ => ⟨_, h1, law_post laidOut hW' rfl rfl rfl Tryd.underlying4 (by kernel_rfl) h2⟩
  rcases instrs_open (hval 0 _ _ rfl rfl) h0 with ⟨rfl, rfl⟩ | ⟨ad, c, l, es, sp, rfl, hs, hzc, hcm, hi, rfl, hl⟩
  · exact fin _ rfl (CodeChecks_any none 0 [] op W he (SeesP.nil _ _) (fun _ => rfl) (by decide))
  · have hr := sized_slice hreach (j := 0) (t := 23) (e := 44) rfl rfl Tryd.underlying23
    rw [bytesP, hl] at hr
    simp only [reachBytes] at hr
    exact fin _ rfl (CodeChecks_any (some ad) c l op W he hs (fun h => by cases h) (by omega))
end Go.Proofs.YtojgdabkdbchnaaDoor
