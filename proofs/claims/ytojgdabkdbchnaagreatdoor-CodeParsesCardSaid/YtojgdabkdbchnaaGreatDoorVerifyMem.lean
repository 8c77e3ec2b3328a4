/-
  THE MEMORY OF Verify's WALK: the states to do (a row), the states seen (a map), the counts and the verdicts (two blocks). No condition.
-/
import Derived.Test.YtojgdabkdbchnaaGreatDoorVerifyKey
import Derived.Laws.OwnMore
namespace Go.Proofs.YtojgdabkdbchnaaGreatDoor
open Go.RowKit Go.Maps Go.WideMaps
set_option maxRecDepth 100000

theorem ints_at (l : List Int) (k : Nat) {z : Int} (h : l[k]? = some z) : (ints l)[k]? = some (.int .i64 z) := by simp [ints, h]
theorem ints_set (l : List Int) (k : Nat) (z : Int) : (ints l).setIfInBounds k (.int .i64 z) = ints (l.set k z) := by simp [ints, List.map_set]
theorem ints_made (m : Nat) : madeCells #[.int .i64 0] m = ints (List.replicate m 0) := by
  apply Array.ext'
  rw [toList_madeCells_one]
  simp [ints]
def foundCells (l : List VP) : List Value := l.flatMap fun p => [.int .i64 p.1, .int .i64 p.2.1, .int .i64 p.2.2]
theorem foundCells_length : ∀ l, (foundCells l).length = l.length * 3
  | [] => rfl
  | p :: r => by
    have ih := foundCells_length r
    simp only [foundCells, List.flatMap_cons, List.length_append, List.length_cons, List.length_nil] at ih ⊢
    rw [ih]; omega
theorem foundCells_snoc (l : List VP) (p : VP) : foundCells (l ++ [p]) = foundCells l ++ [.int .i64 p.1, .int .i64 p.2.1, .int .i64 p.2.2] := by simp [foundCells]
theorem found_one (l : List VP) : ∀ v ∈ foundCells l, v.oneCell' = true := fun v hv => by
  obtain ⟨p, _, hv⟩ := List.mem_flatMap.1 hv
  simp at hv
  rcases hv with rfl | rfl | rfl <;> rfl
/-- the states to do, in a row of the call's own -/
def Todo (w : World) (B : Nat) (v : Value) (l : List VP) : Prop := w.ownsRow B 53 3 v l.length (foundCells l)
theorem Todo.last {w : World} {B : Nat} {v : Value} {l : List VP} {p : VP} (h : Todo w B v (l ++ [p])) :
    ∃ g cap, v = .slice (some ⟨g, 0, none⟩) (l.length + 1) cap ∧ w.cell? ⟨g, l.length * 3, none⟩ = some (.int .i64 p.1) ∧ w.cell? ⟨g, l.length * 3 + 1, none⟩ = some (.int .i64 p.2.1) ∧ w.cell? ⟨g, l.length * 3 + 2, none⟩ = some (.int .i64 p.2.2) ∧
      Todo w B (.slice (some ⟨g, 0, none⟩) l.length cap) l ∧ l.length + 1 ≤ cap ∧ cap ≤ maxLen ∧ g < w.heap.size ∧ B ≤ g := by
  have hlen : (l ++ [p]).length = l.length + 1 := by simp
  have h0 := h
  unfold Todo at h0
  rw [hlen] at h0
  obtain ⟨g, cap, hv⟩ := Joins.ownsRow_form h0 (by omega)
  subst hv
  have hc : ∀ i, i < 3 → w.cell? ⟨g, l.length * 3 + i, none⟩ = (foundCells (l ++ [p]))[l.length * 3 + i]? := fun i hi => h0.cellAt _ (by omega)
  have hx : ∀ i, (foundCells (l ++ [p]))[l.length * 3 + i]? = ([Value.int .i64 p.1, .int .i64 p.2.1, .int .i64 p.2.2])[i]? := fun i => by
    rw [foundCells_snoc, List.getElem?_append_right (by rw [foundCells_length]; omega), foundCells_length]
    congr 1; omega
  obtain ⟨cur, hcur⟩ := own_block h0 rfl
  have h1 := h0
  obtain ⟨_, h2 | ⟨g', cap', cur', hv, hB, hb, hn, hm, hs, ht⟩⟩ := h1
  · cases h2.1
  · injection hv with e1 e2 e3
    injection e1 with e1
    injection e1 with e1
    subst e1; subst e3
    refine ⟨g, cap, rfl, (hc 0 (by omega)).trans (hx 0), (hc 1 (by omega)).trans (hx 1), (hc 2 (by omega)).trans (hx 2), ?_, hn, hm, lt_of_block hb, hB⟩
    refine ⟨foundCells_length l, .inr ⟨g, cap, cur', rfl, hB, hb, by omega, hm, hs, ?_⟩⟩
    have e : cur'.toList.take (l.length * 3) = (cur'.toList.take ((l.length + 1) * 3)).take (l.length * 3) := by rw [List.take_take, Nat.min_eq_left (by omega)]
    rw [e, ht, foundCells_snoc]
    exact List.take_left' (foundCells_length l)
structure VMem (B gm gw mb n cnt : Nat) (st : VS) (v : Value) (w0 wr : World) : Prop where
  todo : Todo wr B v st.todo
  seen : ∃ D, wr.ownsMap (H := Unit) Tryz.prog 53 (plainElem Tryz.prog 3) mb cnt D ∧ SeenMap n st.seen D
  many : wr.heap[gm]? = some (.cells (ints st.many) 3)
  wrong : wr.heap[gw]? = some (.cells (ints st.wrong) 25)
  below : Below B w0 wr
  ge : B ≤ gm ∧ B ≤ gw ∧ B ≤ mb
section
variable {B gm gw mb n cnt : Nat} {st : VS} {v : Value} {w0 wr wr' : World}
theorem block_ne {w : World} {g g' : Nat} {t t' : TypeId} {cs cs' : Array Value} (h : w.heap[g]? = some (.cells cs t)) (h' : w.heap[g']? = some (.cells cs' t')) (hne : t ≠ t') : g ≠ g' := by
  rintro rfl
  rw [h] at h'
  injection h' with h'
  injection h' with _ ht
  exact hne ht
theorem VMem.own_ne (h : VMem B gm gw mb n cnt st v w0 wr) {g : Nat} (hg : v.ownBlock = some g) : g ≠ gm ∧ g ≠ gw ∧ g ≠ mb := by
  obtain ⟨cur, hc⟩ := own_block h.todo hg
  refine ⟨block_ne hc h.many (by decide), block_ne hc h.wrong (by decide), ?_⟩
  rintro rfl
  obtain ⟨D, hm, _⟩ := h.seen
  obtain ⟨es, c, hb⟩ := map_block hm
  rw [hc] at hb; cases hb
theorem VMem.gs_ne (h : VMem B gm gw mb n cnt st v w0 wr) : gm ≠ gw ∧ gm ≠ mb ∧ gw ≠ mb := by
  obtain ⟨D, hm, _⟩ := h.seen
  obtain ⟨es, c, hb⟩ := map_block hm
  refine ⟨block_ne h.many h.wrong (by decide), ?_, ?_⟩
  · rintro rfl; rw [h.many] at hb; cases hb
  · rintro rfl; rw [h.wrong] at hb; cases hb
/-- the memory stays while only new blocks come -/
theorem VMem.keep (h : VMem B gm gw mb n cnt st v w0 wr) (hb : Below wr.heap.size wr wr') : VMem B gm gw mb n cnt st v w0 wr' := by
  obtain ⟨D, hm, hs⟩ := h.seen
  refine ⟨ownsRow_at h.todo (fun g hg => ?_), ⟨D, ownsMap_at hm ?_, hs⟩, (hb.block _ (lt_of_block h.many)).trans h.many, (hb.block _ (lt_of_block h.wrong)).trans h.wrong, h.below.trans (hb.mono (Nat.le_trans h.ge.1 (Nat.le_of_lt (lt_of_block h.many)))), h.ge⟩
  · obtain ⟨cur, hc⟩ := own_block h.todo hg
    exact hb.block _ (lt_of_block hc)
  · obtain ⟨es, c, hb'⟩ := map_block hm
    exact hb.block _ (lt_of_block hb')
theorem VMem.drew (h : VMem B gm gw mb n cnt st v w0 wr) : VMem B gm gw mb n cnt st v w0 wr.drew :=
  ⟨h.todo, h.seen, h.many, h.wrong, ⟨h.below.os, h.below.tape, h.below.output, h.below.size, h.below.block⟩, h.ge⟩
theorem VMem.setMany (h : VMem B gm gw mb n cnt st v w0 wr) (k : Nat) (z : Int) : VMem B gm gw mb n cnt { st with many := st.many.set k z } v w0 (wr.setCell ⟨gm, k, none⟩ (.int .i64 z)) := by
  obtain ⟨h1, h2, h3⟩ := h.gs_ne
  obtain ⟨D, hm, hs⟩ := h.seen
  refine ⟨ownsRow_at h.todo (fun g hg => heap_setCell_other _ _ _ _ (h.own_ne hg).1), ⟨D, ownsMap_at hm (heap_setCell_other _ _ _ _ (Ne.symm h2)), hs⟩, ?_, (heap_setCell_other _ _ _ _ (Ne.symm h1)).trans h.wrong, h.below.setCell (p := ⟨gm, k, none⟩) h.ge.1 _, h.ge⟩
  have := heap_setCell_same wr gm k _ _ (.int .i64 z) h.many
  rw [ints_set] at this
  exact this
theorem VMem.setWrong (h : VMem B gm gw mb n cnt st v w0 wr) (k : Nat) (z : Int) : VMem B gm gw mb n cnt { st with wrong := st.wrong.set k z } v w0 (wr.setCell ⟨gw, k, none⟩ (.int .i64 z)) := by
  obtain ⟨h1, h2, h3⟩ := h.gs_ne
  obtain ⟨D, hm, hs⟩ := h.seen
  refine ⟨ownsRow_at h.todo (fun g hg => heap_setCell_other _ _ _ _ (h.own_ne hg).2.1), ⟨D, ownsMap_at hm (heap_setCell_other _ _ _ _ (Ne.symm h3)), hs⟩, (heap_setCell_other _ _ _ _ h1).trans h.many, ?_, h.below.setCell (p := ⟨gw, k, none⟩) h.ge.2.1 _, h.ge⟩
  have := heap_setCell_same wr gw k _ _ (.int .i64 z) h.wrong
  rw [ints_set] at this
  exact this
theorem VMem.manyAt (h : VMem B gm gw mb n cnt st v w0 wr) (k : Nat) {z : Int} (hz : st.many[k]? = some z) : wr.cell? ⟨gm, k, none⟩ = some (.int .i64 z) ∧ wr.frozen? ⟨gm, k, none⟩ = false :=
  ⟨(cell_of_row _ _ _ _ _ _ h.many).trans (ints_at _ _ hz), frozen_of_row _ _ _ _ _ h.many⟩
theorem VMem.wrongAt (h : VMem B gm gw mb n cnt st v w0 wr) (k : Nat) {z : Int} (hz : st.wrong[k]? = some z) : wr.cell? ⟨gw, k, none⟩ = some (.int .i64 z) ∧ wr.frozen? ⟨gw, k, none⟩ = false :=
  ⟨(cell_of_row _ _ _ _ _ _ h.wrong).trans (ints_at _ _ hz), frozen_of_row _ _ _ _ _ h.wrong⟩
theorem VMem.pop {p : VP} {l : List VP} (h : VMem B gm gw mb n cnt { st with todo := l ++ [p] } v w0 wr) {v' : Value} (h' : Todo wr B v' l) : VMem B gm gw mb n cnt { st with todo := l } v' w0 wr :=
  ⟨h', h.seen, h.many, h.wrong, h.below, h.ge⟩
end
end Go.Proofs.YtojgdabkdbchnaaGreatDoor
