/-
  SetKeeps: from the reading of the arguments to the walk. Condition: the library's variables (Env).
-/
import Derived.Test.YtkioddgolmaaeaaGreatDoorSetKeepsWalk
import Derived.Test.YtkioddgolmaaeaaGreatDoorOpen
namespace Go.Proofs.YtkioddgolmaaeaaGreatDoor
open Go.ChangeShapes Go.WideShapes Go.ChangeAt Go.RowKit
set_option maxRecDepth 100000
theorem setKeeps_law {H : Type} (enc : TypeId × Value → H) {W : World} {base : Nat} {args : Array Value} {ds gs : List (DataW H)} {before : List MemPlace}
    (hval : ∀ (j : Nat) t v, Tryz.f6.params[j]? = some t → args[j]? = some v → Value.okWide Tryz.prog W .any base t v)
    (hW : DataW.Whole enc Tryz.prog Tryz.f6.params.toList Rows.setKeepsSpec.vars false W args.toList ds gs before)
    (hreach : (DataW.weightsEach Tryz.prog (Tryz.f6.params.toList ++ (OpenSpec.ofChange Rows.setKeepsSpec).bare.plain.varTypes Tryz.prog) (ds ++ gs)).all (· ≤ reachBytes) = true) (he : Env W) :
    Calls Tryz.prog 6 args W fun e W' => ∃ v, e = .returned v ∧ Rows.setKeepsSpec.post enc Tryz.prog Tryz.f6 false true false false W args v W' := by
  have hW' := hW
  obtain ⟨p, q, hA0, hV, rfl, hfz, hnd⟩ := hW
  have hA : DataW.TrodAll enc Tryz.prog W 0 (fun _ => true) true Tryz.f6.params.toList args.toList ds p := hA0
  rw [Tryz.params6] at hA hval
  obtain ⟨v0, _, d0, _, p0, _, hargs, rfl, rfl, h0, hr0⟩ := trodAll_cons hA
  obtain ⟨v1, _, d1, _, p1, _, rfl, rfl, rfl, h1, hr0⟩ := trodAll_cons hr0
  obtain ⟨v2, _, d2, _, p2, _, rfl, rfl, rfl, h2, hr0⟩ := trodAll_cons hr0
  obtain ⟨v3, _, d3, _, p3, _, rfl, rfl, rfl, h3, hr0⟩ := trodAll_cons hr0
  obtain ⟨v4, _, d4, _, p4, _, rfl, rfl, rfl, h4, hr0⟩ := trodAll_cons hr0
  obtain ⟨rfl, rfl, rfl⟩ := trodAll_nil hr0
  obtain rfl : args = #[v0, v1, v2, v3, v4] := by cases args; simp_all
  obtain ⟨n, rfl, rfl, rfl, _⟩ := open_int Tryz.underlying3 (hval 1 _ _ rfl rfl) h1
  obtain ⟨x, rfl, rfl, rfl, _⟩ := open_int Tryz.underlying2 (hval 2 _ _ rfl rfl) h2
  obtain ⟨y, rfl, rfl, rfl, _⟩ := open_int Tryz.underlying2 (hval 3 _ _ rfl rfl) h3
  obtain ⟨puts, rfl, rfl, rfl⟩ := open_bool Tryz.underlying4 (hval 4 _ _ rfl rfl) h4
  have fin : ∀ v0', v0' = v0 → Calls Tryz.prog 6 #[v0', .int .i64 n, .int .i64 x, .int .i64 y, .bool puts] W (fun e w' => e = .returned (.bool true) ∧ Below W.heap.size W w') →
      Calls Tryz.prog 6 #[v0, .int .i64 n, .int .i64 x, .int .i64 y, .bool puts] W fun e W' => ∃ v, e = .returned v ∧ Rows.setKeepsSpec.post enc Tryz.prog Tryz.f6 false true false false W #[v0, .int .i64 n, .int .i64 x, .int .i64 y, .bool puts] v W' := by
    intro v0' e0 hc
    subst e0
    exact hc.mono fun e w' ⟨h1, h2⟩ => ⟨_, h1, law_post laidOut hW' rfl rfl rfl Tryz.underlying4 (by kernel_rfl) h2⟩
  have hb : (Tryz.prog.bytesOf 2) = 8 := by kernel_rfl
  rcases ints_open (hval 0 _ _ rfl rfl) h0 with ⟨rfl, rfl⟩ | ⟨ad, c, zs, ys, rfl, hs, hzc, hcm, _, hyl, rfl⟩
  · exact fin _ rfl (SetKeeps_any none 0 0 [] n x y puts W he (Sees.nil _ _) rfl (by decide) ⟨fun _ => rfl, Nat.le_refl _⟩)
  · have hr := sized_slice hreach (j := 0) (t := 23) (e := 2) rfl rfl Tryz.underlying23
    rw [hb] at hr
    simp only [lits, List.length_map, List.length_drop, reachBytes] at hr
    exact fin _ rfl (SetKeeps_any (some ad) zs.length c zs n x y puts W he hs rfl (by omega) ⟨fun h => (by cases h), hzc⟩)
end Go.Proofs.YtkioddgolmaaeaaGreatDoor
