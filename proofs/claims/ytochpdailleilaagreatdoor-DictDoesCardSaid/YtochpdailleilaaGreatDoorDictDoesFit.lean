/-
  DictDoes: from the reading of the arguments to the walk. Condition: the library's variables (Env).
-/
import Derived.Test.YtochpdailleilaaGreatDoorDictDoesWalk
import Derived.Test.YtochpdailleilaaGreatDoorOpen
import Derived.Test.YtochpdailleilaaGreatDoorOpenE
namespace Go.Proofs.YtochpdailleilaaGreatDoor
open Go.ChangeShapes Go.WideShapes Go.ChangeAt Go.RowKit
set_option maxRecDepth 100000
theorem dictDoes_law {H : Type} (enc : TypeId × Value → H) {W : World} {base : Nat} {args : Array Value} {ds gs : List (DataW H)} {before : List MemPlace}
    (hval : ∀ (j : Nat) t v, Tryz.f5.params[j]? = some t → args[j]? = some v → Value.okWide Tryz.prog W .any base t v)
    (hW : DataW.Whole enc Tryz.prog Tryz.f5.params.toList Rows.dictDoesSpec.vars false W args.toList ds gs before)
    (hreach : (DataW.weightsEach Tryz.prog (Tryz.f5.params.toList ++ (OpenSpec.ofChange Rows.dictDoesSpec).bare.plain.varTypes Tryz.prog) (ds ++ gs)).all (· ≤ reachBytes) = true) (he : Env W) :
    Calls Tryz.prog 5 args W fun e W' => ∃ v, e = .returned v ∧ Rows.dictDoesSpec.post enc Tryz.prog Tryz.f5 false true false false W args v W' := by
  have hW' := hW
  obtain ⟨p, q, hA0, hV, rfl, hfz, hnd⟩ := hW
  have hA : DataW.TrodAll enc Tryz.prog W 0 (fun _ => true) true Tryz.f5.params.toList args.toList ds p := hA0
  rw [Tryz.params5] at hA hval
  obtain ⟨v0, v1, v2, d0, d1, d2, p0, p1, p2, rfl, rfl, rfl, h0, h1, h2⟩ := trodAll_three hA
  obtain ⟨n, rfl, rfl, rfl, _⟩ := open_int Tryz.underlying3 (hval 1 _ _ rfl rfl) h1
  obtain ⟨op, a, b, x, y, rfl⟩ := deed_open (hval 2 _ _ rfl rfl) h2
  have fin : ∀ v0', v0' = v0 → Calls Tryz.prog 5 #[v0', .int .i64 n, .agg #[.int .i64 op, .int .i64 a, .int .i64 b, .int .i64 x, .int .i64 y]] W (fun e w' => e = .returned (.bool true) ∧ Below W.heap.size W w') →
      Calls Tryz.prog 5 #[v0, .int .i64 n, .agg #[.int .i64 op, .int .i64 a, .int .i64 b, .int .i64 x, .int .i64 y]] W fun e W' => ∃ v, e = .returned v ∧ Rows.dictDoesSpec.post enc Tryz.prog Tryz.f5 false true false false W #[v0, .int .i64 n, .agg #[.int .i64 op, .int .i64 a, .int .i64 b, .int .i64 x, .int .i64 y]] v W' := by
    intro v0' e hc
    subst e
    exact hc.mono fun e w' ⟨h1, h2⟩ => ⟨_, h1, law_post laidOut hW' rfl rfl rfl Tryz.underlying4 (by kernel_rfl) h2⟩
  rcases entries_open (hval 0 _ _ rfl rfl) h0 with ⟨rfl, rfl⟩ | ⟨ad, c, l, es, sp, rfl, hs, hzc, hcm, _, rfl, hl⟩
  · exact fin _ rfl (DictDoes_any none 0 [] n op a b x y W he (SeesP.nil _ _) (fun _ => rfl) (Nat.le_refl _) (by decide) (by decide))
  · have hr := sized_slice hreach (j := 0) (t := 24) (e := 36) rfl rfl Tryz.underlying24
    rw [bytesE, hl] at hr
    simp only [reachBytes] at hr
    exact fin _ rfl (DictDoes_any (some ad) c l n op a b x y W he hs (fun h => by cases h) hzc hcm (by omega))
end Go.Proofs.YtochpdailleilaaGreatDoor
