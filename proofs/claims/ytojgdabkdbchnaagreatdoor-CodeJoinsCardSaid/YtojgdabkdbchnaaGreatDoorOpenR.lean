/-
  WHAT THE READING OF A SLICE OF PROGRAMS GIVES. No condition.
-/
import Derived.Test.YtojgdabkdbchnaaGreatDoorOpenP
import Derived.Test.YtojgdabkdbchnaaGreatDoorJoinMem
namespace Go.Proofs.YtojgdabkdbchnaaGreatDoor
open Go.ChangeShapes Go.WideShapes Go.ChangeAt Go.RowKit Go.Deep
set_option maxRecDepth 100000

theorem weightsAll_mem {H : Type} {P : Program} {e : TypeId} {d : DataW H} {n : Nat} (hn : n ∈ d.weights P e) : ∀ {l : List (DataW H)}, d ∈ l → n ∈ DataW.weightsAll P e l
  | [], h => by cases h
  | x :: r, h => by
    rw [DataW.weightsAll, List.mem_append]
    rcases List.mem_cons.1 h with rfl | h
    · exact .inl hn
    · exact .inr (weightsAll_mem hn h)
/-- what is known of a part that came in -/
def PartOk (x : PartV) : Prop := (x.1 = none → x.2.1 = 0) ∧ x.2.2.length ≤ x.2.1 ∧ x.2.2.length * 16 ≤ 140737488351232
section
variable {H : Type} {enc : TypeId × Value → H} {W : World}
theorem rows_open {b0 : Nat} {v : Value} {d : DataW H} {p : List MemPlace} (hv : Value.okWide Tryz.prog W .any b0 44 v) (h : DataW.Trod enc Tryz.prog W 0 (fun _ => true) true 44 v d p) (hw : ∀ n ∈ d.weights Tryz.prog 44, n ≤ reachBytes) :
    ∃ (ro : Option Addr) (c : Nat) (P : List PartV), v = .slice ro P.length c ∧ SeesR W ro P ∧ (∀ x ∈ P, PartOk x) ∧ P.length * 24 ≤ 140737488351232 := by
  obtain ⟨a, len, cap, rfl⟩ := okWide_slice Tryz.underlying44 hv
  obtain ⟨fuel, hf⟩ := h
  rcases open_slice Tryz.underlying44 hf with ⟨h1, h2⟩ | ⟨a', len', cap', m, n, D, Pl, hcs, _, hl, hm, hmm, hx, hi⟩
  · simp [Value.cells] at h1
    obtain ⟨rfl, rfl, rfl⟩ := h1
    exact ⟨none, 0, [], rfl, SeesR.nil _ _, (fun x hx => by cases hx), by decide⟩
  · simp [Value.cells] at hcs
    obtain ⟨rfl, rfl, rfl⟩ := hcs
    simp only [if_true] at hmm
    subst hmm
    simp only [Prod.mk.injEq] at hx
    obtain ⟨rfl, _⟩ := hx
    have c1 : Tryz.prog.cellsOf 22 = 1 := by kernel_rfl
    have b24 : Tryz.prog.bytesOf 22 = 24 := by kernel_rfl
    have hwt : ∀ i, i < len → ∀ k ∈ (D i).weights Tryz.prog 22, k ≤ reachBytes := fun i hi' k hk => hw k (by
      rw [DataW.weights, Tryz.underlying44]
      simp only [List.mem_cons, List.mem_append]
      exact .inr (.inl (weightsAll_mem hk (List.mem_map.2 ⟨i, List.mem_range.2 hi', rfl⟩))))
    have hlen : len * 24 ≤ reachBytes := by
      have := hw ((((List.range len).map D).length + ((List.range (m - len)).map fun j => D (len + j)).length) * Tryz.prog.bytesOf 22) (by
        rw [DataW.weights, Tryz.underlying44]
        exact List.mem_cons_self)
      rw [b24] at this
      simp only [List.length_map, List.length_range] at this
      omega
    have hq : ∀ i, ∃ q : PartV, i < len → W.cell? (a'.add i) = some (.slice q.1 q.2.2.length q.2.1) ∧ SeesP W q.1 q.2.2 ∧ PartOk q := by
      intro i
      by_cases hil : i < len
      · obtain ⟨cs', hc, ht⟩ := hi i (by omega)
        rw [c1, Nat.mul_one] at hc
        obtain ⟨_, hcl, hat⟩ := World.cells?_some hc
        have hc0 := hat 0 (by decide)
        rcases instrs_cells ht with ⟨e1, e2⟩ | ⟨ad, c, l, es, sp, e1, hs, hlc, hcm, _, e6, e7⟩
        · subst e1
          refine ⟨(none, 0, []), fun _ => ⟨?_, SeesP.nil _ _, fun _ => rfl, Nat.le_refl _, by decide⟩⟩
          simpa [Go.Deep.add_add] using hc0
        · subst e1
          have hk := hwt i hil ((es.length + sp.length) * 16) (by
            rw [show D i = .slice es sp from e6, DataW.weights, Tryz.underlying22]
            simp only [bytesP]
            exact List.mem_cons_self)
          rw [e7] at hk
          simp only [reachBytes] at hk
          refine ⟨(some ad, c, l), fun _ => ⟨?_, hs, (fun h => by cases h), hlc, by show l.length * 16 ≤ _; omega⟩⟩
          simpa [Go.Deep.add_add] using hc0
      · exact ⟨(none, 0, []), fun h => absurd h hil⟩
    obtain ⟨f, hf'⟩ : ∃ f : Nat → PartV, ∀ i, i < len → W.cell? (a'.add i) = some (.slice (f i).1 (f i).2.2.length (f i).2.1) ∧ SeesP W (f i).1 (f i).2.2 ∧ PartOk (f i) :=
      ⟨fun i => Classical.choose (hq i), fun i => Classical.choose_spec (hq i)⟩
    have hpl : ((List.range len).map f).length = len := by simp
    refine ⟨some a', m, (List.range len).map f, by rw [hpl], ?_, ?_, by rw [hpl]; simp only [reachBytes] at hlen; omega⟩
    · by_cases h0 : len = 0
      · subst h0; exact SeesR.nil _ _
      · obtain ⟨b, o, spot⟩ := a'
        have hc0 := (hf' 0 (by omega)).1
        have hspot : spot = none := by simpa [Addr.add] using World.cell?_spot hc0
        subst hspot
        refine ⟨b, o, fun _ => rfl, fun j q hj => ?_⟩
        rw [List.getElem?_map] at hj
        obtain ⟨i, hi', rfl⟩ := Option.map_eq_some_iff.1 hj
        have hjl : j < len := by have := (List.getElem?_eq_some_iff.1 hi').1; simpa using this
        have : i = j := by
          rw [List.getElem?_range hjl] at hi'
          injection hi' with hi'; exact hi'.symm
        subst this
        have := hf' i hjl
        rw [Addr.add_lit] at this
        exact ⟨this.1, this.2.1⟩
    · intro x hx
      obtain ⟨i, hi', rfl⟩ := List.mem_map.1 hx
      exact (hf' i (List.mem_range.1 hi')).2.2
end
end Go.Proofs.YtojgdabkdbchnaaGreatDoor
