/-
  SetCodes: from the reading of the arguments to the walk. Condition: the library's variables (Env).
-/
import Derived.Test.YtkioddgolmaaeaaGreatDoorSetCodesWalk
import Derived.Test.YtkioddgolmaaeaaGreatDoorOpen
namespace Go.Proofs.YtkioddgolmaaeaaGreatDoor
open Go.ChangeShapes Go.WideShapes Go.ChangeAt Go.RowKit
set_option maxRecDepth 100000
section
variable {H : Type} {enc : TypeId × Value → H} {W : World} {sp : Nat → Bool}
/-- a deed that came in; its X is within int64 -/
theorem deed_open_x {b0 : Nat} {v : Value} {d : DataW H} {p : List MemPlace} (hv : Value.okWide Tryz.prog W .any b0 36 v) (h : DataW.Trod enc Tryz.prog W 0 sp true 36 v d p) :
    ∃ op a b x y : Int, v = .agg #[.int .i64 op, .int .i64 a, .int .i64 b, .int .i64 x, .int .i64 y] ∧ -9223372036854775808 ≤ x ∧ x ≤ 9223372036854775807 := by
  obtain ⟨cs, rfl, hsz⟩ := okWide_struct Tryz.underlying36 hv
  obtain ⟨l⟩ := cs
  have h5 : l.length = 5 := hsz.trans (by kernel_rfl)
  obtain ⟨n, hf⟩ := h
  obtain ⟨xs, m, _, _, _, hlen, hg⟩ := DataW.trod_struct Tryz.underlying36 hf
  have hx5 : xs.length = 5 := hlen
  match l, h5, xs, hx5 with
  | [v0, v1, v2, v3, v4], _, [x0, x1, x2, x3, x4], _ =>
    have e0 : DataW.trod enc Tryz.prog W 0 sp true m 3 [v0] = some x0 := by simpa [cellsInt, Value.cells] using hg 0 _ rfl
    have e1 : DataW.trod enc Tryz.prog W 0 sp true m 3 [v1] = some x1 := by simpa [cellsInt, Value.cells] using hg 1 _ rfl
    have e2 : DataW.trod enc Tryz.prog W 0 sp true m 3 [v2] = some x2 := by simpa [cellsInt, Value.cells] using hg 2 _ rfl
    have e3 : DataW.trod enc Tryz.prog W 0 sp true m 2 [v3] = some x3 := by simpa [cells64, Value.cells] using hg 3 _ rfl
    have e4 : DataW.trod enc Tryz.prog W 0 sp true m 2 [v4] = some x4 := by simpa [cells64, Value.cells] using hg 4 _ rfl
    obtain ⟨n0, h0, _⟩ := DataW.trod_int Tryz.underlying3 e0
    obtain ⟨n1, h1, _⟩ := DataW.trod_int Tryz.underlying3 e1
    obtain ⟨n2, h2, _⟩ := DataW.trod_int Tryz.underlying3 e2
    obtain ⟨n3, h3, _, hw3⟩ := DataW.trod_int Tryz.underlying2 e3
    obtain ⟨n4, h4, _⟩ := DataW.trod_int Tryz.underlying2 e4
    injection h0 with h0; injection h1 with h1; injection h2 with h2; injection h3 with h3; injection h4 with h4
    subst h0 h1 h2 h3 h4
    simp [Lit.wf, IntKind.min, IntKind.max, IntKind.signed, IntKind.bits] at hw3
    exact ⟨_, _, _, _, _, rfl, by omega, by omega⟩
end
theorem setCodes_law {H : Type} (enc : TypeId × Value → H) {W : World} {base : Nat} {args : Array Value} {ds gs : List (DataW H)} {before : List MemPlace}
    (hval : ∀ (j : Nat) t v, Tryz.f8.params[j]? = some t → args[j]? = some v → Value.okWide Tryz.prog W .any base t v)
    (hW : DataW.Whole enc Tryz.prog Tryz.f8.params.toList Rows.setCodesSpec.vars false W args.toList ds gs before)
    (_hreach : (DataW.weightsEach Tryz.prog (Tryz.f8.params.toList ++ (OpenSpec.ofChange Rows.setCodesSpec).bare.plain.varTypes Tryz.prog) (ds ++ gs)).all (· ≤ reachBytes) = true) (he : Env W) :
    Calls Tryz.prog 8 args W fun e W' => ∃ v, e = .returned v ∧ Rows.setCodesSpec.post enc Tryz.prog Tryz.f8 false true false false W args v W' := by
  have hW' := hW
  obtain ⟨p, q, hA0, hV, rfl, hfz, hnd⟩ := hW
  have hA : DataW.TrodAll enc Tryz.prog W 0 (fun _ => true) true Tryz.f8.params.toList args.toList ds p := hA0
  rw [Tryz.params8] at hA hval
  obtain ⟨v0, v1, v2, d0, d1, d2, p0, p1, p2, rfl, rfl, rfl, h0, h1, h2⟩ := trodAll_three hA
  obtain ⟨bs, rfl, rfl, rfl, hw0⟩ := open_int Tryz.underlying3 (hval 0 _ _ rfl rfl) h0
  obtain ⟨n, rfl, rfl, rfl, _⟩ := open_int Tryz.underlying3 (hval 1 _ _ rfl rfl) h1
  obtain ⟨op, a, b, x, y, rfl, hx1, hx2⟩ := deed_open_x (hval 2 _ _ rfl rfl) h2
  simp [Lit.wf, IntKind.min, IntKind.max, IntKind.signed, IntKind.bits] at hw0
  exact (SetCodes_any bs n op a b x y W he (by omega) hx1 hx2).mono fun e w' ⟨h1, h2⟩ => ⟨_, h1, law_post laidOut hW' rfl rfl rfl Tryz.underlying4 (by kernel_rfl) h2⟩
end Go.Proofs.YtkioddgolmaaeaaGreatDoor
