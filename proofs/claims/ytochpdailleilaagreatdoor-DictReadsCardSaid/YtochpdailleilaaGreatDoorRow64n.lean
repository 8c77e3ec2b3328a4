/-
  Rows of int64 in memory of the call's own; append onto one. No condition.
-/
import Derived.Test.YtochpdailleilaaGreatDoorSees
import Derived.Lib.SliceRun
import Derived.Laws.OwnMore
import Derived.Laws.AppendOwnNone
import Derived.StillTailTactics
namespace Go.Proofs.YtochpdailleilaaGreatDoor
open Go.RowKit
set_option maxRecDepth 100000

theorem info64 : (Tryz.prog.info? 2).map (fun i => (i.zero, i.size, i.bytes)) = some (some (.int .i64 0), 1, 8) := by kernel_rfl
def i64s (zs : List Int) : List Value := zs.map (Value.int .i64)
theorem i64s_length (zs : List Int) : (i64s zs).length = zs.length := by simp [i64s]
theorem i64s_at (zs : List Int) (k : Nat) {z : Int} (h : zs[k]? = some z) : (i64s zs)[k]? = some (.int .i64 z) := by
  simp [i64s, h]
theorem i64s_set (zs : List Int) (k : Nat) (z : Int) : (i64s zs).set k (.int .i64 z) = i64s (zs.set k z) := by simp [i64s, List.map_set]
theorem i64s_app (a b : List Int) : i64s (a ++ b) = i64s a ++ i64s b := by simp [i64s]
theorem i64s_one {zs : List Int} : ∀ v ∈ i64s zs, v.oneCell' = true := fun v hv => by obtain ⟨_, _, rfl⟩ := List.mem_map.1 hv; rfl
/-- a row of int64 of the call's own -/
def Own (w : World) (B : Nat) (v : Value) (zs : List Int) : Prop := w.ownsRow B 2 1 v zs.length (i64s zs)
/-- .. at an address -/
def Bal (w : World) (B g cap : Nat) (zs : List Int) : Prop := w.ownsRow B 2 1 (.slice (some ⟨g, 0, none⟩) zs.length cap) zs.length (i64s zs)
section
variable {w : World} {B g cap : Nat} {zs : List Int} {v : Value}
theorem Bal.own (h : Bal w B g cap zs) : Own w B (.slice (some ⟨g, 0, none⟩) zs.length cap) zs := h
theorem Own.nil (w : World) (B : Nat) : Own w B (.slice none 0 0) [] := World.ownsRow_nil _ _ _ _
theorem Own.form (h : Own w B v zs) : (v = .slice none 0 0 ∧ zs = []) ∨ ∃ g cap, v = .slice (some ⟨g, 0, none⟩) zs.length cap ∧ Bal w B g cap zs := by
  have h0 := h
  obtain ⟨_, h1 | ⟨g, cap, cur, hv, _⟩⟩ := h0
  · exact Or.inl ⟨h1.1, List.eq_nil_of_length_eq_zero h1.2⟩
  · subst hv
    exact Or.inr ⟨g, cap, rfl, h⟩
theorem Own.below {w' : World} (h : Own w B v zs) (hb : Below w.heap.size w w') : Own w' B v zs :=
  ownsRow_at h (fun g hg => by obtain ⟨_, hc⟩ := own_block h hg; exact hb.block _ (lt_of_block hc))
theorem Own.lower (h : Own w B v zs) {B' : Nat} (hb : B' ≤ B) : Own w B' v zs := own_lower h hb
theorem Bal.lt (h : Bal w B g cap zs) : g < w.heap.size ∧ B ≤ g := by
  obtain ⟨cur, hc⟩ := own_block h rfl
  exact ⟨lt_of_block hc, own_ge h rfl⟩
theorem Bal.caps (h : Bal w B g cap zs) : zs.length ≤ cap ∧ cap ≤ maxLen := by
  obtain ⟨_, h | ⟨_, _, _, hv, _, _, h1, h2, _⟩⟩ := h
  · cases h.1
  · injection hv with _ _ h3; subst h3; exact ⟨h1, h2⟩
theorem Bal.block (h : Bal w B g cap zs) : ∃ cur, w.heap[g]? = some (.cells cur 2) ∧ cur.size = cap ∧ cur.toList.take zs.length = i64s zs := by
  obtain ⟨_, h | ⟨_, _, cur, hv, _, hb, _, _, h3, h4⟩⟩ := h
  · cases h.1
  · injection hv with h1 _ h2
    injection h1 with h1
    injection h1 with h1
    subst h1; subst h2
    exact ⟨cur, hb, by simpa using h3, by simpa using h4⟩
theorem Bal.cell (h : Bal w B g cap zs) (k : Nat) {z : Int} (hk : zs[k]? = some z) : w.cell? ⟨g, k, none⟩ = some (.int .i64 z) :=
  (h.cellAt k (by have := (List.getElem?_eq_some_iff.1 hk).1; omega)).trans (i64s_at zs k hk)
theorem Bal.below {w' : World} (h : Bal w B g cap zs) (hb : Below w.heap.size w w') : Bal w' B g cap zs := Own.below (v := .slice (some ⟨g, 0, none⟩) zs.length cap) h hb
theorem Bal.set (h : Bal w B g cap zs) (k : Nat) (z : Int) : Bal (w.setCell ⟨g, k, none⟩ (.int .i64 z)) B g cap (zs.set k z) := by
  obtain ⟨h1, _⟩ := World.ownsRow.stored h k (.int .i64 z)
  unfold Bal
  rw [i64s_set] at h1
  rw [List.length_set]
  exact h1
theorem Bal.of_block {cur : Array Value} (hg : B ≤ g) (hb : w.heap[g]? = some (.cells cur 2)) (hc : cur.size = cap) (hl : zs.length ≤ cap) (hm : cap ≤ maxLen) (ht : cur.toList.take zs.length = i64s zs) : Bal w B g cap zs :=
  ⟨by simp [i64s], .inr ⟨g, cap, cur, rfl, hg, hb, hl, hm, by simpa using hc, by simpa using ht⟩⟩
theorem Bal.sees (h : Bal w B g cap zs) : Sees w (some ⟨g, 0, none⟩) zs := Sees.of_own h
/-- a shorter slice of the same row -/
theorem Bal.take (h : Bal w B g cap zs) (k : Nat) (hk : k ≤ zs.length) : Bal w B g cap (zs.take k) := by
  obtain ⟨cur, hb, hs, ht⟩ := h.block
  refine Bal.of_block h.lt.2 hb hs (by have := h.caps.1; simp; omega) h.caps.2 ?_
  have hl : (zs.take k).length = k := by rw [List.length_take]; omega
  rw [hl, show cur.toList.take k = (cur.toList.take zs.length).take k by rw [List.take_take, Nat.min_eq_left hk], ht]
  simp [i64s, List.map_take]
theorem sees_one {w : World} {g : Nat} {v : Int} {t : TypeId} (h : w.heap[g]? = some (.cells #[.int .i64 v] t)) : Sees w (some ⟨g, 0, none⟩) [v] := Sees.cells fun j hj => by
  have e : j = 0 := by simpa using hj
  subst e
  exact cell_of_row _ _ 0 _ _ _ h
theorem sees_two {w : World} {g : Nat} {u v : Int} {t : TypeId} (h : w.heap[g]? = some (.cells #[.int .i64 u, .int .i64 v] t)) : Sees w (some ⟨g, 0, none⟩) [u, v] := Sees.cells fun j hj => by
  match j, hj with
  | 0, _ => exact cell_of_row _ _ 0 _ _ _ h
  | 1, _ => exact cell_of_row _ _ 1 _ _ _ h
  | j + 2, hj => exact absurd hj (by simp)
end
/-- the block of a row of the call's own, if it has one, is not this one -/
def Off (v : Value) (g : Nat) : Prop := v.ownBlock ≠ some g
/-- append of a slice that reads as a list, onto a row of int64 of the call's own -/
theorem wpList_append64 {w : World} {B : Nat} {v : Value} {xs : List Int} (hown : Own w B v xs) (hB : B ≤ w.heap.size) (ao : Option Addr) (n c : Nat) (zs : List Int) (hz : zs.length = n) (hs : Sees w ao zs) (hn : ao = none → c = 0) (hb : (xs.length + zs.length) * 8 ≤ 140737488355328)
    {ops : Array Oper} {Q : Exit → Act → World → Prop} {a : Act} {rest : List Oper} {o : Oper} (hgd : o.guard = none) (s x : Operand) (hop : o.op = Op.call { callee := Callee.builtin Builtin.append, args := #[s, x], argTypes := #[23, 23] })
    (ev : a.eval s = v) (hx : a.eval x = .slice ao n c)
    (hK : ∀ v' w', Own w' B v' (xs ++ zs) → w.grownBy w' v.ownBlock → wpList Tryz.prog ops Q rest (a.put o.dst v') w') : wpList Tryz.prog ops Q (o :: rest) a w := by
  subst hz
  obtain ⟨i0, hi, hz0, hz1, hz2⟩ := info_parts info64
  cases ao with
  | none =>
    obtain rfl := hn rfl
    have hz : zs = [] := by
      obtain ⟨b, o, h1, _⟩ := hs
      by_cases e : zs = []
      · exact e
      · exact absurd (h1 e) (by simp)
    subst hz
    refine wpList_append_own_none hgd s x _ hop B 2 i0 1 Tryz.underlying23 hi v _ _ ev hown hx (hK v w (by simpa using hown) (World.grownBy.refl w _))
  | some ad =>
    have hnews : ∀ j u, (i64s zs)[j]? = some u → w.cell? (ad.add j) = some u := hs.news
    exact wpList_append_own _ hgd s x 23 hop B 2 i0 (.int .i64 0) 1 8 Tryz.underlying23 hi hz0 hz1 hz2 rfl (by decide) v xs.length (i64s xs) ev hown ad zs.length c (i64s zs) hx (by simp [i64s]) hnews i64s_one (by unfold maxLen; omega) hb hB
      (fun v' w' h1 h2 _ => hK v' w' (by unfold Own; rw [List.length_append, i64s_app]; exact h1) h2)
/-- make of a row of int64 -/
theorem make64 (m : Nat) (h : m ≤ 100000) (w : World) : (Instr.makeSlice 23 (.int .i64 m) (.int .i64 m)).run Tryz.prog w = .ok (.slice (some ⟨w.heap.size, 0, none⟩) m m) (w.alloc (.cells (madeCells #[.int .i64 0] m) 2)) := by
  obtain ⟨i0, hi, hz0, hz1, hz2⟩ := info_parts info64
  have h := run_makeSlice (w := w) (P := Tryz.prog) 23 2 i0 (.int .i64 0) Tryz.underlying23 hi hz0 .i64 .i64 m m (by omega) (Int.le_refl _) (by rw [hz1]; simp; omega) (by rw [hz2]; omega) (by omega)
  rw [h, hz1]
  simp [Value.cells]
theorem made_bal (m : Nat) (w : World) (hm : m ≤ 100000) : Bal (w.alloc (.cells (madeCells #[.int .i64 0] m) 2)) w.heap.size w.heap.size m (List.replicate m 0) := by
  refine Bal.of_block (Nat.le_refl _) (heap_new _ _ _ rfl) (by simp [size_madeCells]) (by simp) (by unfold maxLen; omega) ?_
  rw [toList_madeCells_one]
  simp [i64s]
end Go.Proofs.YtochpdailleilaaGreatDoor
