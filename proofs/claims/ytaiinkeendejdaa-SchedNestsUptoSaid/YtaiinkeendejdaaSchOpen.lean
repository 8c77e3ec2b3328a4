/-
  WHAT THE READING OF A SLICE OF SLICES OF INTS GIVES, where the bulk is bounded. No condition.
-/
import Derived.Test.YtaiinkeendejdaaSchFrame
import Derived.Test.YtaiinkeendejdaaSchSome
import Derived.Deep.Slices
namespace Go.Proofs.Ytaiinkeendejdaa
open Go.ChangeShapes Go.WideShapes Go.ChangeAt Go.RowKit Go.Deep
set_option maxRecDepth 100000
theorem one_bulk {H : Type} (d : DataW H) : 1 ≤ Rows.uptoBulk d := by
  cases d with
  | lit l => cases l <;> simp [Rows.uptoBulk]
  | nil => simp [Rows.uptoBulk]
  | ptr d => simp [Rows.uptoBulk]
  | slice elems spare => simp [Rows.uptoBulk]
  | agg parts => simp [Rows.uptoBulk]
  | iface t d => simp [Rows.uptoBulk]
  | map entries => simp [Rows.uptoBulk]
  | held h => simp [Rows.uptoBulk]
theorem part_bulk {H : Type} {d : DataW H} {l : List (DataW H)} (h : d ∈ l) : Rows.uptoBulk d ≤ Rows.uptoBulkAll l := by
  induction l with
  | nil => cases h
  | cons x r ih =>
    simp only [Rows.uptoBulkAll]
    cases List.mem_cons.1 h with
    | inl e => subst e; omega
    | inr e => have := ih e; omega
theorem length_bulk {H : Type} (l : List (DataW H)) : l.length ≤ Rows.uptoBulkAll l := by
  induction l with
  | nil => simp [Rows.uptoBulkAll]
  | cons x r ih => have := one_bulk x; simp only [Rows.uptoBulkAll, List.length_cons]; omega
section
variable {H : Type} {enc : TypeId × Value → H} {W : World}
theorem intsC_open {fuel : Nat} {cs : List Value} {x : DataW H × List MemPlace} (h : DataW.trod enc Try.prog W 0 (fun _ => true) true fuel 23 cs = some x) :
    ∃ y : PV, cs = [pvVal y] ∧ (y.1 = none → y.2.1 = 0) ∧ y.2.2.length ≤ y.2.1 ∧ y.2.1 ≤ maxLen ∧ y.2.1 ≤ Rows.uptoBulk x.1 ∧ (∀ z ∈ y.2.2, -9223372036854775808 ≤ z ∧ z ≤ 9223372036854775807) ∧
      ∀ (j : Nat) z, y.2.2[j]? = some z → ∃ q u, y.1 = some ⟨q, u, none⟩ ∧ q < W.heap.size ∧ W.cell? ⟨q, u + j, none⟩ = some (.int .i64 z) := by
  rcases open_ints Try.underlying23 Try.underlying3 cellsInt' h with ⟨hcs, hx⟩ | ⟨a', len', cap', ys, hcs, _, hl, hm, hz, hx, hcell, hwz⟩
  · exact ⟨(none, 0, []), hcs, fun _ => rfl, Nat.le_refl _, Nat.zero_le _, Nat.zero_le _, fun z hz => (by cases hz), fun j z hj => (by simp at hj)⟩
  · simp only [if_true] at hz
    have hlen : (ys.take len').length = len' := by rw [List.length_take]; omega
    refine ⟨(some a', cap', ys.take len'), by rw [hcs]; show _ = [Value.slice (some a') (ys.take len').length cap']; rw [hlen], fun e => (by cases e), by show (ys.take len').length ≤ cap'; omega, hm, ?_, fun z hzm => ?_, fun j z hj => ?_⟩
    · rw [hx]
      simp only [Rows.uptoBulk]
      have h1 := length_bulk (lits (H := H) .i64 (ys.take len'))
      have h2 := length_bulk (lits (H := H) .i64 (ys.drop len'))
      simp only [lits, List.length_map, List.length_take, List.length_drop] at h1 h2
      simp only [lits]
      omega
    · have hw := hwz z (List.mem_of_mem_take hzm)
      simp [Lit.wf, IntKind.min, IntKind.max, IntKind.signed, IntKind.bits] at hw
      exact ⟨by omega, by omega⟩
    · have hj : (ys.take len')[j]? = some z := hj
      have hjl : j < len' := by have := (List.getElem?_eq_some_iff.1 hj).1; omega
      obtain ⟨b, off, rfl, hc⟩ := Go.ints_at hcell (by omega)
      have hcj := hc j (by omega)
      rw [List.getElem?_take, if_pos hjl] at hj
      rw [List.getD_eq_getElem?_getD, hj, Option.getD_some] at hcj
      exact ⟨b, off, rfl, block_lt_of_cell hcj, hcj⟩
theorem plans_open {b0 : Nat} {v : Value} {d : DataW H} {p : List MemPlace} (hv : Value.okWide Try.prog W .any b0 22 v) (h : DataW.Trod enc Try.prog W 0 (fun _ => true) true 22 v d p) (hk : Rows.uptoBulk d ≤ 1048576) :
    ∃ (ao : Option Addr) (c : Nat) (L : List PV), v = .slice ao L.length c ∧ SeesV W ao L ∧ PVs (fun x => x < W.heap.size) W L ∧ L.length ≤ 1048576 ∧ ∀ x ∈ L, x.2.1 ≤ 1048576 ∧ ∀ z ∈ x.2.2, -9223372036854775808 ≤ z ∧ z ≤ 9223372036854775807 := by
  obtain ⟨a, len, cap, rfl⟩ := okWide_slice Try.underlying22 hv
  obtain ⟨fuel, hf⟩ := h
  rcases open_slice Try.underlying22 hf with ⟨h1, h2⟩ | ⟨a', len', cap', m, n, D, Pl, hcs, _, hl, hm, hmm, hx, hi⟩
  · simp [Value.cells] at h1
    obtain ⟨rfl, rfl, rfl⟩ := h1
    exact ⟨none, 0, [], rfl, ⟨0, 0, fun h => absurd rfl h, fun j x hj => by simp at hj⟩, (fun x hx => by cases hx), Nat.zero_le _, (fun x hx => by cases hx)⟩
  · simp [Value.cells] at hcs
    obtain ⟨rfl, rfl, rfl⟩ := hcs
    simp only [if_true] at hmm
    subst hmm
    simp only [Prod.mk.injEq] at hx
    obtain ⟨rfl, _⟩ := hx
    simp only [Rows.uptoBulk] at hk
    have hlen : len ≤ 1048576 := by
      have := length_bulk ((List.range len).map D)
      simp only [List.length_map, List.length_range] at this
      omega
    have hD : ∀ i, i < len → Rows.uptoBulk (D i) ≤ 1048576 := fun i hi' => by
      have := part_bulk (List.mem_map.2 ⟨i, List.mem_range.2 hi', rfl⟩ : D i ∈ (List.range len).map D)
      omega
    have hq : ∀ i, ∃ y : PV, i < len → W.cell? (a'.add i) = some (pvVal y) ∧ ((y.1 = none → y.2.1 = 0) ∧ y.2.2.length ≤ y.2.1 ∧ y.2.1 ≤ maxLen ∧ ∀ (j : Nat) z, y.2.2[j]? = some z → ∃ q u, y.1 = some ⟨q, u, none⟩ ∧ q < W.heap.size ∧ W.cell? ⟨q, u + j, none⟩ = some (.int .i64 z)) ∧ y.2.1 ≤ 1048576 ∧ ∀ z ∈ y.2.2, -9223372036854775808 ≤ z ∧ z ≤ 9223372036854775807 := by
      intro i
      by_cases hil : i < len
      · obtain ⟨cs', hc, ht⟩ := hi i (by omega)
        rw [show Try.prog.cellsOf 23 = 1 by kernel_rfl, Nat.mul_one] at hc
        obtain ⟨_, hcl, hat⟩ := World.cells?_some hc
        have hc0 := hat 0 (by decide)
        obtain ⟨y, e1, y1, y2, y3, y4, y5, y6⟩ := intsC_open ht
        subst e1
        have h6 := hD i hil
        exact ⟨y, fun _ => ⟨by simpa [Go.Deep.add_add] using hc0, ⟨y1, y2, y3, y6⟩, Nat.le_trans y4 h6, y5⟩⟩
      · exact ⟨(none, 0, []), fun h => absurd h hil⟩
    obtain ⟨f, hf'⟩ := Classical.axiomOfChoice hq
    have hpl : ((List.range len).map f).length = len := by simp
    have hat : ∀ (j : Nat) x, ((List.range len).map f)[j]? = some x → j < len ∧ x = f j := fun j x hj => by
      have hjl : j < len := by have := (List.getElem?_eq_some_iff.1 hj).1; simpa using this
      rw [List.getElem?_map, List.getElem?_range hjl] at hj
      exact ⟨hjl, (Option.some.inj hj).symm⟩
    have hmem : ∀ x ∈ (List.range len).map f, ∃ j, j < len ∧ x = f j := fun x hx => by
      obtain ⟨j, hj, rfl⟩ := List.mem_map.1 hx
      exact ⟨j, List.mem_range.1 hj, rfl⟩
    refine ⟨some a', m, (List.range len).map f, by rw [hpl], ?_, fun x hx => ?_, by rw [hpl]; exact hlen, fun x hx => ?_⟩
    · by_cases h0 : len = 0
      · subst h0; exact ⟨0, 0, fun h => absurd rfl h, fun j x hj => by simp at hj⟩
      · obtain ⟨b, o, spot⟩ := a'
        have hc0 := (hf' 0 (by omega)).1
        have hspot : spot = none := by simpa [Addr.add] using World.cell?_spot hc0
        subst hspot
        refine ⟨b, o, fun _ => rfl, fun j q hj => ?_⟩
        obtain ⟨hjl, rfl⟩ := hat j q hj
        have := (hf' j hjl).1
        rw [Addr.add_lit] at this
        exact this
    · obtain ⟨j, hj, rfl⟩ := hmem x hx
      exact (hf' j hj).2.1
    · obtain ⟨j, hj, rfl⟩ := hmem x hx
      exact (hf' j hj).2.2
end
end Go.Proofs.Ytaiinkeendejdaa
