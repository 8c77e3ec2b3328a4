/-
  SetDoes: from the reading of the arguments to the walk. Condition: the library's variables (Env).
-/
import Derived.Test.YtkioddgolmaaeaaGreatDoorSetDoesWalk
import Derived.Test.YtkioddgolmaaeaaGreatDoorOpen
namespace Go.Proofs.YtkioddgolmaaeaaGreatDoor
open Go.ChangeShapes Go.WideShapes Go.ChangeAt Go.RowKit
set_option maxRecDepth 100000
theorem setDoes_law {H : Type} (enc : TypeId × Value → H) {W : World} {base : Nat} {args : Array Value} {ds gs : List (DataW H)} {before : List MemPlace}
    (hval : ∀ (j : Nat) t v, Tryz.f5.params[j]? = some t → args[j]? = some v → Value.okWide Tryz.prog W .any base t v)
    (hW : DataW.Whole enc Tryz.prog Tryz.f5.params.toList Rows.setDoesSpec.vars false W args.toList ds gs before)
    (hreach : (DataW.weightsEach Tryz.prog (Tryz.f5.params.toList ++ (OpenSpec.ofChange Rows.setDoesSpec).bare.plain.varTypes Tryz.prog) (ds ++ gs)).all (· ≤ reachBytes) = true) (he : Env W) :
    Calls Tryz.prog 5 args W fun e W' => ∃ v, e = .returned v ∧ Rows.setDoesSpec.post enc Tryz.prog Tryz.f5 false true false false W args v W' := by
  have hW' := hW
  obtain ⟨p, q, hA0, hV, rfl, hfz, hnd⟩ := hW
  have hA : DataW.TrodAll enc Tryz.prog W 0 (fun _ => true) true Tryz.f5.params.toList args.toList ds p := hA0
  rw [Tryz.params5] at hA hval
  obtain ⟨v0, v1, v2, d0, d1, d2, p0, p1, p2, rfl, rfl, rfl, h0, h1, h2⟩ := trodAll_three hA
  obtain ⟨n, rfl, rfl, rfl, _⟩ := open_int Tryz.underlying3 (hval 1 _ _ rfl rfl) h1
  obtain ⟨op, a, b, x, y, rfl⟩ := deed_open (hval 2 _ _ rfl rfl) h2
  have fin : ∀ v0', v0' = v0 → Calls Tryz.prog 5 #[v0', .int .i64 n, .agg #[.int .i64 op, .int .i64 a, .int .i64 b, .int .i64 x, .int .i64 y]] W (fun e w' => e = .returned (.bool true) ∧ Below W.heap.size W w') →
      Calls Tryz.prog 5 #[v0, .int .i64 n, .agg #[.int .i64 op, .int .i64 a, .int .i64 b, .int .i64 x, .int .i64 y]] W fun e W' => ∃ v, e = .returned v ∧ Rows.setDoesSpec.post enc Tryz.prog Tryz.f5 false true false false W #[v0, .int .i64 n, .agg #[.int .i64 op, .int .i64 a, .int .i64 b, .int .i64 x, .int .i64 y]] v W' := by
    intro v0' e hc
    subst e
    exact hc.mono fun e w' ⟨h1, h2⟩ => ⟨_, h1, law_post laidOut hW' rfl rfl rfl Tryz.underlying4 (by kernel_rfl) h2⟩
  rcases ints_open (hval 0 _ _ rfl rfl) h0 with ⟨rfl, rfl⟩ | ⟨ad, c, zs, ys, rfl, hs, hzc, hcm, _, hyl, rfl⟩
  · exact fin _ rfl (SetDoes_any none 0 [] n op a b x y W he (Sees.nil _ _) (fun _ => rfl) (by decide))
  · have hb : (Tryz.prog.bytesOf 2) = 8 := by kernel_rfl
    have hr := sized_slice hreach (j := 0) (t := 23) (e := 2) rfl rfl Tryz.underlying23
    rw [hb] at hr
    simp only [lits, List.length_map, List.length_drop, reachBytes] at hr
    have hlen : zs.length * 8 ≤ 140737488351232 := by omega
    exact fin _ rfl (SetDoes_any (some ad) c zs n op a b x y W he hs (fun h => by cases h) hlen)
end Go.Proofs.YtkioddgolmaaeaaGreatDoor
