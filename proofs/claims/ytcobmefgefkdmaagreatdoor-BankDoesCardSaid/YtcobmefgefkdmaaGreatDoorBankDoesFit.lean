/-
  BankDoes: from the reading of the arguments to the walk. Condition: the library's variables (Env).
-/
import Derived.Test.YtcobmefgefkdmaaGreatDoorBankDoesWalk
import Derived.Test.YtcobmefgefkdmaaGreatDoorOpen
namespace Go.Proofs.YtcobmefgefkdmaaGreatDoor
open Go.ChangeShapes Go.WideShapes Go.ChangeAt Go.RowKit
set_option maxRecDepth 100000
theorem bankDoes_law {H : Type} (enc : TypeId × Value → H) {W : World} {base : Nat} {args : Array Value} {ds gs : List (DataW H)} {before : List MemPlace}
    (hval : ∀ (j : Nat) t v, Tryz.f4.params[j]? = some t → args[j]? = some v → Value.okWide Tryz.prog W .any base t v)
    (hW : DataW.Whole enc Tryz.prog Tryz.f4.params.toList Rows.bankDoesSpec.vars false W args.toList ds gs before)
    (hreach : (DataW.weightsEach Tryz.prog (Tryz.f4.params.toList ++ (OpenSpec.ofChange Rows.bankDoesSpec).bare.plain.varTypes Tryz.prog) (ds ++ gs)).all (· ≤ reachBytes) = true) (he : Env W) :
    Calls Tryz.prog 4 args W fun e W' => ∃ v, e = .returned v ∧ Rows.bankDoesSpec.post enc Tryz.prog Tryz.f4 false true false false W args v W' := by
  have hW' := hW
  obtain ⟨p, q, hA0, hV, rfl, hfz, hnd⟩ := hW
  have hA : DataW.TrodAll enc Tryz.prog W 0 (fun _ => true) true Tryz.f4.params.toList args.toList ds p := hA0
  rw [Tryz.params4] at hA hval
  obtain ⟨v0, v1, v2, d0, d1, d2, p0, p1, p2, rfl, rfl, rfl, h0, h1, h2⟩ := trodAll_three hA
  obtain ⟨n, rfl, rfl, rfl, _⟩ := open_int Tryz.underlying3 (hval 1 _ _ rfl rfl) h1
  obtain ⟨op, a, b, x, y, rfl⟩ := deed_open (hval 2 _ _ rfl rfl) h2
  have fin : ∀ v0', v0' = v0 → Calls Tryz.prog 4 #[v0', .int .i64 n, deedV op a b x y] W (fun e w' => e = .returned (.bool true) ∧ Below W.heap.size W w') →
      Calls Tryz.prog 4 #[v0, .int .i64 n, .agg #[.int .i64 op, .int .i64 a, .int .i64 b, .int .i64 x, .int .i64 y]] W fun e W' => ∃ v, e = .returned v ∧ Rows.bankDoesSpec.post enc Tryz.prog Tryz.f4 false true false false W #[v0, .int .i64 n, .agg #[.int .i64 op, .int .i64 a, .int .i64 b, .int .i64 x, .int .i64 y]] v W' := by
    intro v0' e hc
    subst e
    exact hc.mono fun e w' ⟨h1, h2⟩ => ⟨_, h1, law_post laidOut hW' rfl rfl rfl Tryz.underlying4 (by kernel_rfl) h2⟩
  rcases ints_open (hval 0 _ _ rfl rfl) h0 with ⟨rfl, rfl⟩ | ⟨ad, c, zs, ys, rfl, hs, hzc, hcm, _, hyl, rfl⟩
  · refine fin _ rfl (BankDoes_nil n op a b x y W he ?_)
    simp only [doOk, Bool.and_eq_false_iff, decide_eq_false_iff_not]
    left
    by_cases hr : roomI n = 0
    · exact Or.inl (by simpa using hr)
    · right
      unfold roomI at hr
      split at hr
      · simp; omega
      · exact absurd rfl hr
  · have hb : (Tryz.prog.bytesOf 2) = 8 := by kernel_rfl
    have hr := sized_slice hreach (j := 0) (t := 23) (e := 2) rfl rfl Tryz.underlying23
    rw [hb] at hr
    simp only [lits, List.length_map, List.length_drop, reachBytes] at hr
    have hlen : zs.length * 8 ≤ 140737488351232 := by omega
    cases hok : doOk zs n op a b x y with
    | true => exact fin _ rfl (BankDoes_yes ad c zs n op a b x y W he hs hlen hok)
    | false => exact fin _ rfl (BankDoes_no ad c zs n op a b x y W he hs hlen hok)
end Go.Proofs.YtcobmefgefkdmaaGreatDoor
