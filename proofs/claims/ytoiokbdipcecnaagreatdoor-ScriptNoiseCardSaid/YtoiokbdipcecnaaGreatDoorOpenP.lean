/-
  WHAT THE READING OF A SLICE OF INSTRUCTIONS GIVES. No condition.
-/
import Derived.Test.YtoiokbdipcecnaaGreatDoorLaw
import Derived.Test.YtoiokbdipcecnaaGreatDoorCodePrint
import Derived.Deep.Slices
import Derived.Deep.Fields
namespace Go.Proofs.YtoiokbdipcecnaaGreatDoor
open Go.ChangeShapes Go.WideShapes Go.ChangeAt Go.RowKit Go.Deep
set_option maxRecDepth 100000

section
variable {H : Type} {enc : TypeId × Value → H} {P : Program} {w : World} {base : Nat} {spare : Nat → Bool} {held : Bool}
theorem open_slice_fields {t e : TypeId} {fs : Array Field} {fuel : Nat} {cs : List Value} {x : DataW H × List MemPlace} (ht : P.underlying t = some (.slice e)) (he : P.underlying e = some (.struct fs))
    (hone : oneCellFields P fs = true) (hC : P.cellsOf e = fs.size) (h : DataW.trod enc P w base spare held fuel t cs = some x) :
    (cs = [.slice none 0 0] ∧ x = (.nil, [])) ∨
    ∃ (a : Addr) (len cap m : Nat) (D : Nat → DataW H) (Pl : Nat → List MemPlace), cs = [.slice (some a) len cap] ∧ base ≤ a.block ∧ len ≤ cap ∧ cap ≤ maxLen ∧ m = (if spare a.block then cap else len) ∧
      x = (.slice ((List.range len).map D) ((List.range (m - len)).map fun j => D (len + j)), MemPlace.row a (m * fs.size) ++ (List.range m).flatMap Pl) ∧
      ∀ i, i < m → ∃ (ys : List (DataW H × List MemPlace)) (n : Nat), D i = .agg (ys.map (·.1)) ∧ Pl i = ys.flatMap (·.2) ∧ ys.length = fs.size ∧
        ∀ (j : Nat) (f : Field), fs[j]? = some f → ∃ (v : Value) (y : DataW H × List MemPlace), w.cell? (a.add (i * fs.size + j)) = some v ∧ ys[j]? = some y ∧ DataW.trod enc P w base spare held n f.type [v] = some y := by
  rcases open_slice ht h with h0 | ⟨a, len, cap, m, n, D, Pl, hcs, hb, hl, hm, hmm, hx, hi⟩
  · exact .inl h0
  · refine .inr ⟨a, len, cap, m, D, Pl, hcs, hb, hl, hm, hmm, by rw [hC] at hx; exact hx, fun i him => ?_⟩
    obtain ⟨cs', hc, ht'⟩ := hi i him
    rw [hC] at hc
    obtain ⟨ys, n', hn', hy, hlen, hyl, hf⟩ := DataW.trod_struct he ht'
    obtain ⟨_, hcl, hat⟩ := World.cells?_some hc
    simp only [Prod.mk.injEq] at hy
    refine ⟨ys, n', hy.1, hy.2, hyl, fun j f hj => ?_⟩
    obtain ⟨ho, hk⟩ := hone_of hone j f hj
    have hjl : j < fs.size := (Array.getElem?_eq_some_iff.1 hj).1
    have hcell := hat j hjl
    have hv : cs'[j]? = some (cs'[j]'(by omega)) := List.getElem?_eq_getElem (by omega)
    have h1 := hf j f hj
    rw [ho, hk] at h1
    have hone' : (cs'.drop j).take 1 = [cs'[j]'(by omega)] := by
      rw [List.drop_eq_getElem_cons (by omega)]
      rfl
    rw [hone'] at h1
    have hys : ys[j]? = some (ys[j]'(by omega)) := List.getElem?_eq_getElem (by omega)
    refine ⟨_, _, ?_, hys, h1.trans hys⟩
    rw [← Go.Deep.add_add, hcell, hv]
end
section
variable {H : Type} {enc : TypeId × Value → H} {W : World} {sp : Nat → Bool}
theorem i64_wf {n : Int} (h : (Lit.int .i64 n).wf = true) : -9223372036854775808 ≤ n ∧ n ≤ 9223372036854775807 := by
  simp [Lit.wf, IntKind.min, IntKind.max, IntKind.signed, IntKind.bits] at h
  omega
/-- a slice of instructions, as cells -/
theorem instrs_cells {fuel : Nat} {cs : List Value} {x : DataW H × List MemPlace} (h : DataW.trod enc Tryz.prog W 0 (fun _ => true) true fuel 45 cs = some x) :
    (cs = [.slice none 0 0] ∧ x.1 = .nil) ∨ ∃ (ad : Addr) (c : Nat) (l : List (Int × Int)) (es sp : List (DataW H)), cs = [.slice (some ad) l.length c] ∧ SeesP W (some ad) l ∧ l.length ≤ c ∧ c ≤ maxLen ∧ InI l ∧ x.1 = .slice es sp ∧ es.length + sp.length = c := by
  rcases open_slice_fields Tryz.underlying45 Tryz.underlying82 (by kernel_rfl) (by kernel_rfl) h with ⟨h1, h2⟩ | ⟨a, len, cap, m, D, Pl, hcs, _, hl, hm, hmm, hx, hi⟩
  · exact .inl ⟨h1, by rw [h2]⟩
  · simp only [if_true] at hmm
    subst hmm
    have hq : ∀ i, ∃ q : Int × Int, i < m → W.cell? (a.add (i * 2)) = some (.int .i64 q.1) ∧ W.cell? (a.add (i * 2 + 1)) = some (.int .i64 q.2) ∧ -9223372036854775808 ≤ q.2 ∧ q.2 ≤ 9223372036854775807 := by
      intro i
      by_cases him : i < m
      · obtain ⟨ys, n, _, _, _, hf⟩ := hi i him
        obtain ⟨v0, y0, hc0, _, ht0⟩ := hf 0 _ rfl
        obtain ⟨v1, y1, hc1, _, ht1⟩ := hf 1 _ rfl
        obtain ⟨n0, e0, _, _⟩ := DataW.trod_int Tryz.underlying80 ht0
        obtain ⟨n1, e1, _, hw1⟩ := DataW.trod_int Tryz.underlying3 ht1
        simp only [List.cons.injEq, and_true] at e0 e1
        subst e0 e1
        exact ⟨(n0, n1), fun _ => ⟨hc0, hc1, i64_wf hw1⟩⟩
      · exact ⟨(0, 0), fun h => absurd h him⟩
    obtain ⟨f, hf⟩ : ∃ f : Nat → Int × Int, ∀ i, i < m → W.cell? (a.add (i * 2)) = some (.int .i64 (f i).1) ∧ W.cell? (a.add (i * 2 + 1)) = some (.int .i64 (f i).2) ∧ -9223372036854775808 ≤ (f i).2 ∧ (f i).2 ≤ 9223372036854775807 :=
      ⟨fun i => Classical.choose (hq i), fun i => Classical.choose_spec (hq i)⟩
    have hlen : ((List.range len).map f).length = len := by simp
    refine .inr ⟨a, m, (List.range len).map f, _, _, by rw [hlen]; exact hcs, ?_, by rw [hlen]; exact hl, hm, ?_, by rw [hx], by simp; omega⟩
    · by_cases h0 : len = 0
      · subst h0; exact SeesP.nil _ _
      · obtain ⟨b, o, spot⟩ := a
        have hc0 := (hf 0 (by omega)).1
        have hspot : spot = none := by simpa [Addr.add] using World.cell?_spot hc0
        subst hspot
        refine ⟨b, o, fun _ => rfl, fun j q hj => ?_⟩
        rw [List.getElem?_map] at hj
        obtain ⟨i, hi', rfl⟩ := Option.map_eq_some_iff.1 hj
        have hjl : j < len := by have := (List.getElem?_eq_some_iff.1 hi').1; simpa using this
        have : i = j := by
          rw [List.getElem?_range hjl] at hi'
          injection hi' with hi'; exact hi'.symm
        subst this
        have := hf i (by omega)
        rw [Addr.add_lit, Addr.add_lit] at this
        exact ⟨this.1, by rw [Nat.add_assoc]; exact this.2.1⟩
    · intro q hq
      obtain ⟨i, hi', rfl⟩ := List.mem_map.1 hq
      exact (hf i (by have := List.mem_range.1 hi'; omega)).2.2
/-- a slice of instructions that came in -/
theorem instrs_open {b0 : Nat} {v : Value} {d : DataW H} {p : List MemPlace} (hv : Value.okWide Tryz.prog W .any b0 45 v) (h : DataW.Trod enc Tryz.prog W 0 (fun _ => true) true 45 v d p) :
    (v = .slice none 0 0 ∧ d = .nil) ∨ ∃ (ad : Addr) (c : Nat) (l : List (Int × Int)) (es sp : List (DataW H)), v = .slice (some ad) l.length c ∧ SeesP W (some ad) l ∧ l.length ≤ c ∧ c ≤ maxLen ∧ InI l ∧ d = .slice es sp ∧ es.length + sp.length = c := by
  obtain ⟨a, len, cap, rfl⟩ := okWide_slice Tryz.underlying45 hv
  obtain ⟨n, hf⟩ := h
  rcases instrs_cells hf with ⟨h1, h2⟩ | ⟨ad, c, l, es, sp, h1, h2, h3, h4, h5, h6, h7⟩
  · simp [Value.cells] at h1
    obtain ⟨rfl, rfl, rfl⟩ := h1
    exact .inl ⟨rfl, h2⟩
  · simp [Value.cells] at h1
    obtain ⟨rfl, rfl, rfl⟩ := h1
    exact .inr ⟨ad, _, l, es, sp, rfl, h2, h3, h4, h5, h6, h7⟩
end
theorem bytesP : (Tryz.prog.bytesOf 82) = 16 := by kernel_rfl
end Go.Proofs.YtoiokbdipcecnaaGreatDoor
