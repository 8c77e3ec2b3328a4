/-
  WHAT THE READING OF THE ARGUMENTS GIVES: a slice of int64, a struct of integers. No condition.
-/
import Derived.Test.YtochpdailleilaaGreatDoorLaw
import Derived.Test.YtochpdailleilaaGreatDoorSees
namespace Go.Proofs.YtochpdailleilaaGreatDoor
open Go.ChangeShapes Go.WideShapes Go.ChangeAt Go.RowKit
set_option maxRecDepth 100000

section
variable {H : Type} {enc : TypeId × Value → H} {W : World} {sp : Nat → Bool}
theorem cells64 : Tryz.prog.cellsOf 2 = 1 := by kernel_rfl
theorem cellsInt : Tryz.prog.cellsOf 3 = 1 := by kernel_rfl
theorem bytes64 : (Tryz.prog.info? 2).map (·.bytes) = some 8 := by kernel_rfl
/-- a slice of int64 that came in -/
theorem ints_open {b0 : Nat} {v : Value} {d : DataW H} {p : List MemPlace} (hv : Value.okWide Tryz.prog W .any b0 23 v) (h : DataW.Trod enc Tryz.prog W 0 (fun _ => true) true 23 v d p) :
    (v = .slice none 0 0 ∧ d = .nil) ∨ ∃ (ad : Addr) (c : Nat) (zs ys : List Int), v = .slice (some ad) zs.length c ∧ Sees W (some ad) zs ∧ zs.length ≤ c ∧ c ≤ maxLen ∧ (∀ z ∈ zs, -9223372036854775808 ≤ z ∧ z ≤ 9223372036854775807) ∧ ys.length = c ∧ d = .slice (lits .i64 zs) (lits .i64 (ys.drop zs.length)) := by
  obtain ⟨a, len, cap, rfl⟩ := okWide_slice Tryz.underlying23 hv
  obtain ⟨n, hf⟩ := h
  rcases open_ints Tryz.underlying23 Tryz.underlying2 cells64 hf with ⟨hcs, hx⟩ | ⟨a', len', cap', ys, hcs, _, hl, hm, hz, hx, hcell, hwz⟩
  · simp [Value.cells] at hcs
    obtain ⟨rfl, rfl, rfl⟩ := hcs
    simp only [Prod.mk.injEq] at hx
    exact Or.inl ⟨rfl, hx.1⟩
  · simp [Value.cells] at hcs
    obtain ⟨rfl, rfl, rfl⟩ := hcs
    simp only [Prod.mk.injEq] at hx
    simp only [if_true] at hz
    refine Or.inr ⟨a', cap, ys.take len, ys, by rw [List.length_take, Nat.min_eq_left (by omega)], ?_, by rw [List.length_take, Nat.min_eq_left (by omega)]; exact hl, hm, fun z hzm => ?_, hz, by rw [List.length_take, Nat.min_eq_left (by omega)]; exact hx.1⟩
    · by_cases h0 : ys.length = 0
      · have : ys.take len = [] := by rw [List.eq_nil_of_length_eq_zero h0]; simp
        rw [this]; exact Sees.nil _ _
      · obtain ⟨b, off, rfl, hc⟩ := Go.ints_at hcell (by omega)
        refine Sees.cells fun j hj => ?_
        have hj2 : j < len := by rw [List.length_take] at hj; omega
        rw [hc j (by omega), List.getD_eq_getElem?_getD, List.getD_eq_getElem?_getD, List.getElem?_take, if_pos hj2]
    · have hw := hwz z (List.mem_of_mem_take hzm)
      simp [Lit.wf, IntKind.min, IntKind.max, IntKind.signed, IntKind.bits] at hw
      exact ⟨by omega, by omega⟩
/-- a deed that came in -/
theorem deed_open {b0 : Nat} {v : Value} {d : DataW H} {p : List MemPlace} (hv : Value.okWide Tryz.prog W .any b0 40 v) (h : DataW.Trod enc Tryz.prog W 0 sp true 40 v d p) :
    ∃ op a b x y : Int, v = .agg #[.int .i64 op, .int .i64 a, .int .i64 b, .int .i64 x, .int .i64 y] := by
  obtain ⟨cs, rfl, hsz⟩ := okWide_struct Tryz.underlying40 hv
  obtain ⟨l⟩ := cs
  have h5 : l.length = 5 := hsz.trans (by kernel_rfl)
  obtain ⟨n, hf⟩ := h
  obtain ⟨xs, m, _, _, _, hlen, hg⟩ := DataW.trod_struct Tryz.underlying40 hf
  have hx5 : xs.length = 5 := hlen
  match l, h5, xs, hx5 with
  | [v0, v1, v2, v3, v4], _, [x0, x1, x2, x3, x4], _ =>
    have e0 : DataW.trod enc Tryz.prog W 0 sp true m 3 [v0] = some x0 := by simpa [cellsInt, Value.cells] using hg 0 _ rfl
    have e1 : DataW.trod enc Tryz.prog W 0 sp true m 3 [v1] = some x1 := by simpa [cellsInt, Value.cells] using hg 1 _ rfl
    have e2 : DataW.trod enc Tryz.prog W 0 sp true m 3 [v2] = some x2 := by simpa [cellsInt, Value.cells] using hg 2 _ rfl
    have e3 : DataW.trod enc Tryz.prog W 0 sp true m 2 [v3] = some x3 := by simpa [cells64, Value.cells] using hg 3 _ rfl
    have e4 : DataW.trod enc Tryz.prog W 0 sp true m 2 [v4] = some x4 := by simpa [cells64, Value.cells] using hg 4 _ rfl
    obtain ⟨n0, h0, _⟩ := DataW.trod_int Tryz.underlying3 e0
    obtain ⟨n1, h1, _⟩ := DataW.trod_int Tryz.underlying3 e1
    obtain ⟨n2, h2, _⟩ := DataW.trod_int Tryz.underlying3 e2
    obtain ⟨n3, h3, _⟩ := DataW.trod_int Tryz.underlying2 e3
    obtain ⟨n4, h4, _⟩ := DataW.trod_int Tryz.underlying2 e4
    injection h0 with h0; injection h1 with h1; injection h2 with h2; injection h3 with h3; injection h4 with h4
    subst h0 h1 h2 h3 h4
    exact ⟨_, _, _, _, _, rfl⟩
end
end Go.Proofs.YtochpdailleilaaGreatDoor
