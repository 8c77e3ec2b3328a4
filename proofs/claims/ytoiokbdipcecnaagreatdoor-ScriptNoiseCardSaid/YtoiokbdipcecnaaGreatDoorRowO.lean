/-
  One element is put behind a row: the law of the single operation. No condition.
  And: ROWS OF ANY ELEMENTS: a slice of the call's own that reads as a list of data, each laid as so many cells. No condition.
-/
import Derived.Test.YtoiokbdipcecnaaGreatDoorCodeInstrs
import Derived.Laws.AppendOwn
namespace Go.Proofs.YtoiokbdipcecnaaGreatDoor
open Go.RowKit

/-- how an element lies: the slice's type, the element's, its cells, its zero -/
structure ElemT (α : Type) where
  t : TypeId
  e : TypeId
  size : Nat
  bytes : Nat
  z : Value
  cells : α → List Value
  ht : Tryz.prog.underlying t = some (.slice e)
  info : ∃ i, Tryz.prog.info? e = some i ∧ i.zero = some z ∧ i.size = size ∧ i.bytes = bytes
  zs : z.cells.size = size
  pos : 0 < size
  len : ∀ x, (cells x).length = size
  one : ∀ x, ∀ v ∈ cells x, v.oneCell' = true
theorem add0 (g j : Nat) : (⟨g, 0, none⟩ : Addr).add j = ⟨g, j, none⟩ := by
  unfold Addr.add
  first | (simp; done) | (simp; intro h; exact h.symm)
section
variable {α : Type} (E : ElemT α)
def ElemT.all (l : List α) : List Value := l.flatMap E.cells
theorem ElemT.all_length : ∀ l : List α, (E.all l).length = l.length * E.size
  | [] => by simp [ElemT.all]
  | x :: l => by
    have ih := ElemT.all_length l
    unfold ElemT.all at ih ⊢
    rw [List.flatMap_cons, List.length_append, ih, E.len, List.length_cons, Nat.succ_mul]; omega
theorem ElemT.all_app (a b : List α) : E.all (a ++ b) = E.all a ++ E.all b := by simp [ElemT.all]
theorem ElemT.all_one (l : List α) : ∀ v ∈ E.all l, v.oneCell' = true := fun v hv => by
  obtain ⟨x, _, hx⟩ := List.mem_flatMap.1 hv
  exact E.one x v hx
theorem ElemT.all_at : ∀ (l : List α) (k i : Nat) (x : α) (v : Value), l[k]? = some x → (E.cells x)[i]? = some v → (E.all l)[k * E.size + i]? = some v
  | [], k, i, x, v, h, _ => by simp at h
  | y :: l, 0, i, x, v, h, hv => by
    simp at h; subst h
    have hi : i < (E.cells y).length := (List.getElem?_eq_some_iff.1 hv).1
    unfold ElemT.all
    rw [List.flatMap_cons, Nat.zero_mul, Nat.zero_add, List.getElem?_append_left hi]
    exact hv
  | y :: l, k + 1, i, x, v, h, hv => by
    have ih := ElemT.all_at l k i x v (by simpa using h) hv
    unfold ElemT.all at ih ⊢
    rw [List.flatMap_cons, List.getElem?_append_right (by rw [E.len, Nat.succ_mul]; omega), E.len]
    rw [show (k + 1) * E.size + i - E.size = k * E.size + i by rw [Nat.succ_mul]; omega]
    exact ih
def OwnG (w : World) (B : Nat) (v : Value) (l : List α) : Prop := w.ownsRow B E.e E.size v l.length (E.all l)
variable {E} {w : World} {B : Nat} {v : Value} {l : List α}
theorem OwnG.nil (E : ElemT α) (w : World) (B : Nat) : OwnG E w B (.slice none 0 0) [] := World.ownsRow_nil _ _ _ _
theorem OwnG.below {w' : World} (h : OwnG E w B v l) (hb : Below w.heap.size w w') : OwnG E w' B v l :=
  ownsRow_at h (fun g hg => by obtain ⟨_, hc⟩ := own_block h hg; exact hb.block _ (lt_of_block hc))
theorem OwnG.at {w' : World} (h : OwnG E w B v l) (hb : ∀ g, v.ownBlock = some g → w'.heap[g]? = w.heap[g]?) : OwnG E w' B v l := ownsRow_at h hb
theorem OwnG.lower (h : OwnG E w B v l) {B' : Nat} (hb : B' ≤ B) : OwnG E w B' v l := own_lower h hb
theorem OwnG.form (h : OwnG E w B v l) : (v = .slice none 0 0 ∧ l = []) ∨ ∃ g cap, v = .slice (some ⟨g, 0, none⟩) l.length cap := by
  obtain ⟨_, h1 | ⟨g, cap, cur, hv, _⟩⟩ := h
  · exact Or.inl ⟨h1.1, List.eq_nil_of_length_eq_zero h1.2⟩
  · exact Or.inr ⟨g, cap, hv⟩
theorem OwnG.cell {g cap n : Nat} (h : OwnG E w B (.slice (some ⟨g, 0, none⟩) n cap) l) {k i : Nat} {x : α} {u : Value} (hx : l[k]? = some x) (hu : (E.cells x)[i]? = some u) : w.cell? ⟨g, k * E.size + i, none⟩ = some u := by
  have hk : k < l.length := (List.getElem?_eq_some_iff.1 hx).1
  have hi : i < (E.cells x).length := (List.getElem?_eq_some_iff.1 hu).1
  rw [E.len] at hi
  have hlt : k * E.size + i < l.length * E.size := by
    have : (k + 1) * E.size ≤ l.length * E.size := Nat.mul_le_mul_right _ hk
    rw [Nat.succ_mul] at this
    omega
  have hfo := h
  rcases h.form with ⟨e, _⟩ | ⟨g', cap', e⟩
  · cases e
  · injection e with e1 e2 e3
    injection e1 with e1
    injection e1 with e1
    subst e1; subst e2; subst e3
    exact (World.ownsRow.cellAt h _ (by first | exact hlt | (rw [E.all_length]; exact hlt))).trans (E.all_at l k i x u hx hu)
theorem OwnG.some (h : OwnG E w B v l) (h0 : 0 < l.length) : ∃ g cap, v = .slice (some ⟨g, 0, none⟩) l.length cap := by
  rcases h.form with ⟨_, rfl⟩ | h
  · simp at h0
  · exact h
theorem OwnG.slice (h : OwnG E w B v l) : ∃ ao c, v = .slice ao l.length c := by
  rcases h.form with ⟨rfl, rfl⟩ | ⟨g, cap, rfl⟩
  · exact ⟨none, 0, rfl⟩
  · exact ⟨_, _, rfl⟩
/-- another row's growth leaves this one -/
theorem OwnG.grown {β : Type} {F : ElemT β} {w' : World} {u : Value} {B' : Nat} {k : List β} (h : OwnG E w B v l) (hu : OwnG F w B' u k) (hne : E.e ≠ F.e) (hg : w.grownBy w' u.ownBlock) : OwnG E w' B v l :=
  h.at fun g hv => by
    obtain ⟨cur, hc⟩ := own_block h hv
    refine hg.block g (lt_of_block hc) (fun e => ?_)
    obtain ⟨cur', hc'⟩ := own_block hu e.symm
    rw [hc] at hc'
    injection hc' with hc'
    injection hc' with _ hc'
    exact hne hc'
/-- append of one element out of a new block -/
theorem wpList_append1 (hown : OwnG E w B v l) (hB : B ≤ w.heap.size) (g : Nat) (c : Nat) (x : α) (tx : TypeId) (hg : w.heap[g]? = some (.cells (E.cells x).toArray tx)) (hb : (l.length + 1) * E.bytes ≤ 140737488355328) (hl : l.length + 1 ≤ maxLen)
    {ops : Array Oper} {Q : Exit → Act → World → Prop} {a : Act} {rest : List Oper} {o : Oper} (hgd : o.guard = none) (s y : Operand) (hop : o.op = Op.call { callee := Callee.builtin Builtin.append, args := #[s, y], argTypes := #[E.t, E.t] })
    (ev : a.eval s = v) (hx : a.eval y = .slice (some ⟨g, 0, none⟩) 1 c)
    (hK : ∀ v' w', OwnG E w' B v' (l ++ [x]) → w.grownBy w' v.ownBlock → wpList Tryz.prog ops Q rest (a.put o.dst v') w') : wpList Tryz.prog ops Q (o :: rest) a w := by
  obtain ⟨i0, hi, hz0, hz1, hz2⟩ := E.info
  have hnews : ∀ j u, (E.cells x)[j]? = some u → w.cell? ((⟨g, 0, none⟩ : Addr).add j) = some u := fun j u hj => by
    have e : (⟨g, 0, none⟩ : Addr).add j = ⟨g, j, none⟩ := add0 g j
    rw [e]
    simp [World.cell?, hg, hj]
  exact wpList_append_own _ hgd s y E.t hop B E.e i0 E.z E.size E.bytes E.ht hi hz0 hz1 hz2 E.zs E.pos v l.length (E.all l) ev hown ⟨g, 0, none⟩ 1 c (E.cells x) hx (by rw [E.len, Nat.one_mul]) hnews (E.one x) hl (by omega) hB
    (fun v' w' h1 h2 _ => hK v' w' (by unfold OwnG; rw [List.length_append, List.length_singleton, E.all_app]; simpa [ElemT.all] using h1) h2)
end
end Go.Proofs.YtoiokbdipcecnaaGreatDoor
namespace Go.Proofs.YtoiokbdipcecnaaGreatDoor
open Go.RowKit
section
variable {α : Type} {E : ElemT α} {w : World} {B : Nat} {v : Value} {l : List α}
theorem wp_append1 (hown : OwnG E w B v l) (hB : B ≤ w.heap.size) (g : Nat) (c : Nat) (x : α) (tx : TypeId) (hg : w.heap[g]? = some (.cells (E.cells x).toArray tx)) (hb : (l.length + 1) * E.bytes ≤ 140737488355328) (hl : l.length + 1 ≤ maxLen)
    {Q : Exit → Act → World → Prop} {K : Act → World → Prop} {a : Act} {o : Oper} (s y : Operand) (hop : o.op = Op.call { callee := Callee.builtin Builtin.append, args := #[s, y], argTypes := #[E.t, E.t] })
    (ev : a.eval s = v) (hx : a.eval y = .slice (some ⟨g, 0, none⟩) 1 c)
    (hK : ∀ v' w', OwnG E w' B v' (l ++ [x]) → w.grownBy w' v.ownBlock → K (a.put o.dst v') w') : o.wp Tryz.prog a w K Q := by
  obtain ⟨i0, hi, hz0, hz1, hz2⟩ := E.info
  have hnews : ∀ j u, (E.cells x)[j]? = some u → w.cell? ((⟨g, 0, none⟩ : Addr).add j) = some u := fun j u hj => by
    have e : (⟨g, 0, none⟩ : Addr).add j = ⟨g, j, none⟩ := add0 g j
    rw [e]
    simp [World.cell?, hg, hj]
  exact wp_append_own _ s y E.t hop B E.e i0 E.z E.size E.bytes E.ht hi hz0 hz1 hz2 E.zs E.pos v l.length (E.all l) ev hown ⟨g, 0, none⟩ 1 c (E.cells x) hx (by rw [E.len, Nat.one_mul]) hnews (E.one x) hl (by omega) hB
    (fun v' w' h1 h2 _ => hK v' w' (by unfold OwnG; rw [List.length_append, List.length_singleton, E.all_app]; simpa [ElemT.all] using h1) h2)
end
end Go.Proofs.YtoiokbdipcecnaaGreatDoor
