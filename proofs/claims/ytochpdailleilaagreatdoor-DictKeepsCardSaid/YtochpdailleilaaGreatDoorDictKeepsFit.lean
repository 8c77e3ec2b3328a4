/-
  DictKeeps: from the reading of the arguments to the walk. Condition: the library's variables (Env).
-/
import Derived.Test.YtochpdailleilaaGreatDoorDictKeepsWalk
import Derived.Test.YtochpdailleilaaGreatDoorOpen
import Derived.Test.YtochpdailleilaaGreatDoorOpenE
namespace Go.Proofs.YtochpdailleilaaGreatDoor
open Go.ChangeShapes Go.WideShapes Go.ChangeAt Go.RowKit
set_option maxRecDepth 100000
theorem dictKeeps_law {H : Type} (enc : TypeId × Value → H) {W : World} {base : Nat} {args : Array Value} {ds gs : List (DataW H)} {before : List MemPlace}
    (hval : ∀ (j : Nat) t v, Tryz.f6.params[j]? = some t → args[j]? = some v → Value.okWide Tryz.prog W .any base t v)
    (hW : DataW.Whole enc Tryz.prog Tryz.f6.params.toList Rows.dictKeepsSpec.vars false W args.toList ds gs before)
    (hreach : (DataW.weightsEach Tryz.prog (Tryz.f6.params.toList ++ (OpenSpec.ofChange Rows.dictKeepsSpec).bare.plain.varTypes Tryz.prog) (ds ++ gs)).all (· ≤ reachBytes) = true) (he : Env W) :
    Calls Tryz.prog 6 args W fun e W' => ∃ v, e = .returned v ∧ Rows.dictKeepsSpec.post enc Tryz.prog Tryz.f6 false true false false W args v W' := by
  have hW' := hW
  obtain ⟨p, q, hA0, hV, rfl, hfz, hnd⟩ := hW
  have hA : DataW.TrodAll enc Tryz.prog W 0 (fun _ => true) true Tryz.f6.params.toList args.toList ds p := hA0
  rw [Tryz.params6] at hA hval
  obtain ⟨v0, _, d0, _, p0, _, hargs, rfl, rfl, h0, hr0⟩ := trodAll_cons hA
  obtain ⟨v1, _, d1, _, p1, _, rfl, rfl, rfl, h1, hr0⟩ := trodAll_cons hr0
  obtain ⟨v2, _, d2, _, p2, _, rfl, rfl, rfl, h2, hr0⟩ := trodAll_cons hr0
  obtain ⟨v3, _, d3, _, p3, _, rfl, rfl, rfl, h3, hr0⟩ := trodAll_cons hr0
  obtain ⟨v4, _, d4, _, p4, _, rfl, rfl, rfl, h4, hr0⟩ := trodAll_cons hr0
  obtain ⟨v5, _, d5, _, p5, _, rfl, rfl, rfl, h5, hr0⟩ := trodAll_cons hr0
  obtain ⟨rfl, rfl, rfl⟩ := trodAll_nil hr0
  obtain rfl : args = #[v0, v1, v2, v3, v4, v5] := by cases args; simp_all
  obtain ⟨n, rfl, rfl, rfl, _⟩ := open_int Tryz.underlying3 (hval 1 _ _ rfl rfl) h1
  obtain ⟨x, rfl, rfl, rfl, _⟩ := open_int Tryz.underlying2 (hval 2 _ _ rfl rfl) h2
  obtain ⟨y, rfl, rfl, rfl, _⟩ := open_int Tryz.underlying2 (hval 3 _ _ rfl rfl) h3
  obtain ⟨vv, rfl, rfl, rfl, _⟩ := open_int Tryz.underlying2 (hval 4 _ _ rfl rfl) h4
  obtain ⟨puts, rfl, rfl, rfl⟩ := open_bool Tryz.underlying4 (hval 5 _ _ rfl rfl) h5
  have fin : ∀ v0', v0' = v0 → Calls Tryz.prog 6 #[v0', .int .i64 n, .int .i64 x, .int .i64 y, .int .i64 vv, .bool puts] W (fun e w' => e = .returned (.bool true) ∧ Below W.heap.size W w') →
      Calls Tryz.prog 6 #[v0, .int .i64 n, .int .i64 x, .int .i64 y, .int .i64 vv, .bool puts] W fun e W' => ∃ v, e = .returned v ∧ Rows.dictKeepsSpec.post enc Tryz.prog Tryz.f6 false true false false W #[v0, .int .i64 n, .int .i64 x, .int .i64 y, .int .i64 vv, .bool puts] v W' := by
    intro v0' e0 hc
    subst e0
    exact hc.mono fun e w' ⟨h1, h2⟩ => ⟨_, h1, law_post laidOut hW' rfl rfl rfl Tryz.underlying4 (by kernel_rfl) h2⟩
  rcases entries_open (hval 0 _ _ rfl rfl) h0 with ⟨rfl, rfl⟩ | ⟨ad, c, l, es, sp, rfl, hs, hzc, hcm, _, rfl, hl⟩
  · exact fin _ rfl (DictKeeps_any none 0 0 [] n x y vv puts W he (SeesP.nil _ _) rfl (by decide) ⟨fun _ => rfl, Nat.le_refl _⟩)
  · have hr := sized_slice hreach (j := 0) (t := 24) (e := 36) rfl rfl Tryz.underlying24
    rw [bytesE, hl] at hr
    simp only [reachBytes] at hr
    exact fin _ rfl (DictKeeps_any (some ad) l.length c l n x y vv puts W he hs rfl (by omega) ⟨fun h => (by cases h), hzc⟩)
end Go.Proofs.YtochpdailleilaaGreatDoor
