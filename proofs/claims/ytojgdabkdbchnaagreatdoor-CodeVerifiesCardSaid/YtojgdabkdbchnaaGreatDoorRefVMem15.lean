/-
  THE MEMORY OF the document's Verify: a table, how many states each place has, which places are amiss. No condition.
-/
import Derived.Test.YtojgdabkdbchnaaGreatDoorRefFollow15
import Derived.Test.YtojgdabkdbchnaaGreatDoorVerifyMem
namespace Go.Proofs.YtojgdabkdbchnaaGreatDoor
open Go.RowKit
set_option maxRecDepth 100000

theorem infoBool : (Tryz.prog.info? 4).map (fun i => (i.zero, i.size, i.bytes)) = some (some (.bool false), 1, 1) := by kernel_rfl
theorem makeBools (m : Nat) (h : m ≤ 1000000) (w : World) : (Instr.makeSlice 62 (.int .i64 m) (.int .i64 m)).run Tryz.prog w = .ok (.slice (some ⟨w.heap.size, 0, none⟩) m m) (w.alloc (.cells (madeCells #[.bool false] m) 4)) := by
  obtain ⟨i0, hi, hz0, hz1, hz2⟩ := info_parts infoBool
  have h := run_makeSlice (w := w) (P := Tryz.prog) 62 4 i0 (.bool false) Tryz.underlying62 hi hz0 .i64 .i64 m m (by omega) (Int.le_refl _) (by rw [hz1]; simp; omega) (by rw [hz2]; omega) (by omega)
  rw [h, hz1]
  simp [Value.cells]
theorem makeIntsV (m : Nat) (h : m ≤ 1000000) (w : World) : (Instr.makeSlice 55 (.int .i64 m) (.int .i64 m)).run Tryz.prog w = .ok (.slice (some ⟨w.heap.size, 0, none⟩) m m) (w.alloc (.cells (madeCells #[.int .i64 0] m) 3)) := by
  obtain ⟨i0, hi, hz0, hz1, hz2⟩ := info_parts infoInt
  have h := run_makeSlice (w := w) (P := Tryz.prog) 55 3 i0 (.int .i64 0) Tryz.underlying55 hi hz0 .i64 .i64 m m (by omega) (Int.le_refl _) (by rw [hz1]; simp; omega) (by rw [hz2]; omega) (by omega)
  rw [h, hz1]
  simp [Value.cells]
theorem made_at (v : Value) (m c : Nat) (h : c < m) : (madeCells #[v] m)[c]? = some v := by
  rw [← Array.getElem?_toList, toList_madeCells_one]
  simp [h]
theorem made_size (v : Value) (m : Nat) : (madeCells #[v] m).size = m := by
  rw [← Array.length_toList, toList_madeCells_one]
  simp
def manyL (n : Nat) (D : List VP) : List Int := (List.range (n + 1)).map (cntD D)
def boolsD (l : List (Int × Int)) (D : List VP) (e : Int) : Array Value := ((List.range (l.length + 1)).map fun k => Value.bool (hasD l D k e)).toArray
theorem cntD_snoc (D : List VP) (p : VP) (k : Nat) : cntD (D ++ [p]) k = cntD D k + if p.1.toNat = k then 1 else 0 := by
  unfold cntD
  rw [List.countP_append, List.countP_singleton]
  by_cases e : p.1.toNat = k <;> simp [e]
theorem hasD_snoc (l : List (Int × Int)) (D : List VP) (p : VP) (k : Nat) (e : Int) : hasD l (D ++ [p]) k e = (hasD l D k e || (p.1.toNat == k && errV l p == e)) := by
  simp [hasD]
theorem manyL_snoc (n : Nat) (D : List VP) (p : VP) : manyL n (D ++ [p]) = (manyL n D).set p.1.toNat (cntD D p.1.toNat + 1) := by
  apply List.ext_getElem?
  intro k
  rw [List.getElem?_set]
  unfold manyL
  simp only [List.length_map, List.length_range, List.getElem?_map]
  by_cases hk : k < n + 1
  · rw [List.getElem?_range hk]
    simp only [Option.map_some]
    rw [cntD_snoc]
    by_cases e : p.1.toNat = k
    · subst e; simp [hk]
    · simp [e]
  · have : (List.range (n + 1))[k]? = none := List.getElem?_eq_none (by simp; omega)
    rw [this]
    simp only [Option.map_none]
    split
    · rw [if_neg (by omega)]
    · rfl
theorem boolsD_snoc (l : List (Int × Int)) (D : List VP) (p : VP) (e : Int) (x : Bool) (hx : x = hasD l (D ++ [p]) p.1.toNat e) : (boolsD l D e).setIfInBounds p.1.toNat (.bool x) = boolsD l (D ++ [p]) e := by
  unfold boolsD
  simp only [List.setIfInBounds_toArray]
  congr 1
  apply List.ext_getElem?
  intro k
  rw [List.getElem?_set]
  simp only [List.length_map, List.length_range, List.getElem?_map]
  by_cases hk : k < l.length + 1
  · rw [List.getElem?_range hk]
    simp only [Option.map_some]
    by_cases e' : p.1.toNat = k
    · subst e'; simp [hk, hx]
    · rw [if_neg e', hasD_snoc]
      have : (p.1.toNat == k) = false := by simpa using e'
      simp [this]
  · have : (List.range (l.length + 1))[k]? = none := List.getElem?_eq_none (by simp; omega)
    rw [this]
    simp only [Option.map_none]
    split
    · rw [if_neg (by omega)]
    · rfl
theorem boolsD_same (l : List (Int × Int)) (D : List VP) (p : VP) (e : Int) (h : errV l p ≠ e) : boolsD l (D ++ [p]) e = boolsD l D e := by
  unfold boolsD
  congr 2
  funext k
  rw [hasD_snoc]
  have : (errV l p == e) = false := by simpa using h
  simp [this]
theorem boolsD_at (l : List (Int × Int)) (D : List VP) (e : Int) (k : Nat) (h : k ≤ l.length) : (boolsD l D e)[k]? = some (.bool (hasD l D k e)) := by
  unfold boolsD
  rw [List.getElem?_toArray, List.getElem?_map, List.getElem?_range (by omega)]
  rfl
theorem manyL_at (n : Nat) (D : List VP) (k : Nat) (h : k ≤ n) : (manyL n D)[k]? = some (cntD D k) := by
  unfold manyL
  rw [List.getElem?_map, List.getElem?_range (by omega)]
  rfl
/-- the memory: at B the table's row of bools, then the table, the counts, the two rows of bools -/
structure RV (l : List (Int × Int)) (B H : Nat) (vt : Value) (L D : List VP) (w0 w : World) : Prop where
  tm : TM B (B + 5) (B + 1) B H vt L w
  many : w.heap[B + 2]? = some (.cells (ints (manyL l.length D)) 3)
  deps : w.heap[B + 3]? = some (.cells (boolsD l D 155) 4)
  txs : w.heap[B + 4]? = some (.cells (boolsD l D 156) 4)
  below : Below B w0 w
section
variable {l : List (Int × Int)} {B H A : Nat} {vt : Value} {L D : List VP} {w0 w : World} {p : VP}
theorem TM.set {Bt tb hb : Nat} (h : TM B Bt tb hb H vt L w) (g k : Nat) (v : Value) (h1 : g < Bt) (h2 : g ≠ tb) (h3 : g ≠ hb) : TM B Bt tb hb H vt L (w.setCell ⟨g, k, none⟩ v) := by
  obtain ⟨cur, c1, c2, c3⟩ := h.has
  refine ⟨(heap_setCell_other _ _ _ _ (Ne.symm h2)).trans h.blk, ⟨cur, (heap_setCell_other _ _ _ _ (Ne.symm h3)).trans c1, c2, c3⟩, ownsRow_at h.todo (fun g' hg => heap_setCell_other _ _ _ _ ?_), h.b1, h.b2, h.t1, h.t2, ?_⟩
  · have := own_ge h.todo hg
    show g' ≠ g
    omega
  · exact Nat.le_trans h.le ((Below.refl g w).setCell (p := ⟨g, k, none⟩) (Nat.le_refl _) v).size
theorem other {g g' k : Nat} {o : Option Obj} (v : Value) (h : w.heap[g]? = o) (hne : g ≠ g') : (w.setCell ⟨g', k, none⟩ v).heap[g]? = o := (heap_setCell_other _ _ _ _ hne).trans h
theorem RV.step3 (h : RV l B H vt L D w0 w) (hA : p.1.toNat = A) {x5 x6 : Bool} (h5 : x5 = hasD l (D ++ [p]) A 155) (h6 : x6 = hasD l (D ++ [p]) A 156) :
    RV l B H vt L (D ++ [p]) w0 (((w.setCell ⟨B + 2, A, none⟩ (.int .i64 (cntD D A + 1))).setCell ⟨B + 3, A, none⟩ (.bool x5)).setCell ⟨B + 4, A, none⟩ (.bool x6)) := by
  subst hA
  have m := heap_setCell_same w (B + 2) p.1.toNat _ _ (.int .i64 (cntD D p.1.toNat + 1)) h.many
  rw [ints_set, ← manyL_snoc] at m
  have d := heap_setCell_same (w.setCell ⟨B + 2, p.1.toNat, none⟩ (.int .i64 (cntD D p.1.toNat + 1))) (B + 3) p.1.toNat _ _ (.bool x5) (other _ h.deps (by omega))
  rw [boolsD_snoc l D p 155 x5 h5] at d
  have t := heap_setCell_same ((w.setCell ⟨B + 2, p.1.toNat, none⟩ (.int .i64 (cntD D p.1.toNat + 1))).setCell ⟨B + 3, p.1.toNat, none⟩ (.bool x5)) (B + 4) p.1.toNat _ _ (.bool x6) (other _ (other _ h.txs (by omega)) (by omega))
  rw [boolsD_snoc l D p 156 x6 h6] at t
  exact ⟨((h.tm.set _ _ _ (by omega) (by omega) (by omega)).set _ _ _ (by omega) (by omega) (by omega)).set _ _ _ (by omega) (by omega) (by omega), other _ (other _ m (by omega)) (by omega), other _ d (by omega), t,
    ((h.below.setCell (p := ⟨B + 2, _, none⟩) (by show B ≤ B + 2; omega) _).setCell (p := ⟨B + 3, _, none⟩) (by show B ≤ B + 3; omega) _).setCell (p := ⟨B + 4, _, none⟩) (by show B ≤ B + 4; omega) _⟩
theorem RV.step2 (h : RV l B H vt L D w0 w) (hA : p.1.toNat = A) {x6 : Bool} (h5 : errV l p ≠ 155) (h6 : x6 = hasD l (D ++ [p]) A 156) :
    RV l B H vt L (D ++ [p]) w0 ((w.setCell ⟨B + 2, A, none⟩ (.int .i64 (cntD D A + 1))).setCell ⟨B + 4, A, none⟩ (.bool x6)) := by
  subst hA
  have m := heap_setCell_same w (B + 2) p.1.toNat _ _ (.int .i64 (cntD D p.1.toNat + 1)) h.many
  rw [ints_set, ← manyL_snoc] at m
  have t := heap_setCell_same (w.setCell ⟨B + 2, p.1.toNat, none⟩ (.int .i64 (cntD D p.1.toNat + 1))) (B + 4) p.1.toNat _ _ (.bool x6) (other _ h.txs (by omega))
  rw [boolsD_snoc l D p 156 x6 h6] at t
  exact ⟨(h.tm.set _ _ _ (by omega) (by omega) (by omega)).set _ _ _ (by omega) (by omega) (by omega), other _ m (by omega), by rw [boolsD_same l D p 155 h5]; exact other _ (other _ h.deps (by omega)) (by omega), t,
    (h.below.setCell (p := ⟨B + 2, _, none⟩) (by show B ≤ B + 2; omega) _).setCell (p := ⟨B + 4, _, none⟩) (by show B ≤ B + 4; omega) _⟩
theorem RV.after {w' : World} {vt' : Value} {L' : List VP} (h : RV l B H vt L D w0 w) (ht : TM B (B + 5) (B + 1) B H vt' L' w') (hb : Below B w w') (hf : Fr (B + 5) (B + 1) B w w') : RV l B H vt' L' D w0 w' :=
  ⟨ht, (hf _ (by omega) (by omega) (by omega)).trans h.many, (hf _ (by omega) (by omega) (by omega)).trans h.deps, (hf _ (by omega) (by omega) (by omega)).trans h.txs, h.below.trans hb⟩
theorem RV.manyAt (h : RV l B H vt L D w0 w) (hA : A ≤ l.length) : w.cell? ⟨B + 2, A, none⟩ = some (.int .i64 (cntD D A)) ∧ w.frozen? ⟨B + 2, A, none⟩ = false :=
  ⟨(cell_of_row _ _ A _ _ _ h.many).trans (ints_at _ _ (manyL_at _ _ _ hA)), frozen_of_row _ _ _ _ _ h.many⟩
theorem RV.depAt (h : RV l B H vt L D w0 w) (hA : A ≤ l.length) : w.cell? ⟨B + 3, A, none⟩ = some (.bool (hasD l D A 155)) ∧ w.frozen? ⟨B + 3, A, none⟩ = false :=
  ⟨(cell_of_row _ _ A _ _ _ h.deps).trans (boolsD_at _ _ _ _ hA), frozen_of_row _ _ _ _ _ h.deps⟩
theorem RV.txAt (h : RV l B H vt L D w0 w) (hA : A ≤ l.length) : w.cell? ⟨B + 4, A, none⟩ = some (.bool (hasD l D A 156)) ∧ w.frozen? ⟨B + 4, A, none⟩ = false :=
  ⟨(cell_of_row _ _ A _ _ _ h.txs).trans (boolsD_at _ _ _ _ hA), frozen_of_row _ _ _ _ _ h.txs⟩
end
theorem cntD_nil (k : Nat) : cntD [] k = 0 := rfl
theorem RV.start (l : List (Int × Int)) {B H : Nat} {w0 w : World} (h0 : w.heap[B]? = some (.cells (madeCells #[.bool false] H) 4)) (h1 : w.heap[B + 1]? = some (.cells #[.slice (some ⟨B, 0, none⟩) H H, .slice none 0 0] 64))
    (h2 : w.heap[B + 2]? = some (.cells (madeCells #[.int .i64 0] (l.length + 1)) 3)) (h3 : w.heap[B + 3]? = some (.cells (madeCells #[.bool false] (l.length + 1)) 4)) (h4 : w.heap[B + 4]? = some (.cells (madeCells #[.bool false] (l.length + 1)) 4))
    (hb : Below B w0 w) (hz : B + 5 ≤ w.heap.size) : RV l B H (.slice none 0 0) [] [] w0 w := by
  have hbools : ∀ e, boolsD l [] e = madeCells #[.bool false] (l.length + 1) := fun e => by
    apply Array.ext'
    rw [toList_madeCells_one]
    unfold boolsD
    simp only
    apply List.ext_getElem?
    intro k
    rw [List.getElem?_map, List.getElem?_replicate]
    by_cases hk : k < l.length + 1
    · rw [List.getElem?_range hk, if_pos hk]; rfl
    · rw [List.getElem?_eq_none (by simp; omega), if_neg hk]; rfl
  refine ⟨⟨h1, ⟨_, h0, made_size _ _, fun c hc => made_at _ _ _ hc⟩, World.ownsRow_nil _ _ _ _, by omega, Nat.le_refl _, by omega, by omega, hz⟩, ?_, by rw [hbools]; exact h3, by rw [hbools]; exact h4, hb⟩
  rw [h2, ints_made]
  congr 3
  unfold manyL
  apply List.ext_getElem?
  intro k
  rw [List.getElem?_map, List.getElem?_replicate]
  by_cases hk : k < l.length + 1
  · rw [List.getElem?_range hk, if_pos hk]; rfl
  · rw [List.getElem?_eq_none (by simp; omega), if_neg hk]; rfl
end Go.Proofs.YtojgdabkdbchnaaGreatDoor
