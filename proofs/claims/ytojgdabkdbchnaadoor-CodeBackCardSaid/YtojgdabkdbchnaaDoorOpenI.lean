/-
  WHAT THE READING OF A SLICE OF INTS GIVES. No condition.
-/
import Derived.Test.YtojgdabkdbchnaaDoorLaw
import Derived.Test.YtojgdabkdbchnaaDoorSees
namespace Go.Proofs.YtojgdabkdbchnaaDoor
open Go.ChangeShapes Go.WideShapes Go.ChangeAt Go.RowKit
set_option maxRecDepth 100000

section
variable {H : Type} {enc : TypeId × Value → H} {W : World} {sp : Nat → Bool}
theorem cellsInt' : Tryd.prog.cellsOf 3 = 1 := by kernel_rfl
/-- a slice of int that came in -/
theorem intsI_open {b0 : Nat} {v : Value} {d : DataW H} {p : List MemPlace} (hv : Value.okWide Tryd.prog W .any b0 38 v) (h : DataW.Trod enc Tryd.prog W 0 (fun _ => true) true 38 v d p) :
    (v = .slice none 0 0 ∧ d = .nil) ∨ ∃ (ad : Addr) (c : Nat) (zs ys : List Int), v = .slice (some ad) zs.length c ∧ Sees W (some ad) zs ∧ zs.length ≤ c ∧ c ≤ maxLen ∧ (∀ z ∈ zs, -9223372036854775808 ≤ z ∧ z ≤ 9223372036854775807) ∧ ys.length = c ∧ d = .slice (lits .i64 zs) (lits .i64 (ys.drop zs.length)) := by
  obtain ⟨a, len, cap, rfl⟩ := okWide_slice Tryd.underlying38 hv
  obtain ⟨n, hf⟩ := h
  rcases open_ints Tryd.underlying38 Tryd.underlying3 cellsInt' hf with ⟨hcs, hx⟩ | ⟨a', len', cap', ys, hcs, _, hl, hm, hz, hx, hcell, hwz⟩
  · simp [Value.cells] at hcs
    obtain ⟨rfl, rfl, rfl⟩ := hcs
    simp only [Prod.mk.injEq] at hx
    exact Or.inl ⟨rfl, hx.1⟩
  · simp [Value.cells] at hcs
    obtain ⟨rfl, rfl, rfl⟩ := hcs
    simp only [Prod.mk.injEq] at hx
    simp only [if_true] at hz
    refine Or.inr ⟨a', cap, ys.take len, ys, by rw [List.length_take, Nat.min_eq_left (by omega)], ?_, by rw [List.length_take, Nat.min_eq_left (by omega)]; exact hl, hm, fun z hzm => ?_, hz, by rw [List.length_take, Nat.min_eq_left (by omega)]; exact hx.1⟩
    · by_cases h0 : ys.length = 0
      · have : ys.take len = [] := by rw [List.eq_nil_of_length_eq_zero h0]; simp
        rw [this]; exact Sees.nil _ _
      · obtain ⟨b, off, rfl, hc⟩ := Go.ints_at hcell (by omega)
        refine Sees.cells fun j hj => ?_
        have hj2 : j < len := by rw [List.length_take] at hj; omega
        rw [hc j (by omega), List.getD_eq_getElem?_getD, List.getD_eq_getElem?_getD, List.getElem?_take, if_pos hj2]
    · have hw := hwz z (List.mem_of_mem_take hzm)
      simp [Lit.wf, IntKind.min, IntKind.max, IntKind.signed, IntKind.bits] at hw
      exact ⟨by omega, by omega⟩
end
theorem bytesI : (Tryd.prog.bytesOf 3) = 8 := by kernel_rfl
end Go.Proofs.YtojgdabkdbchnaaDoor
