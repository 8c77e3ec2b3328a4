/-
  OPERATIONS OF Verify's WALK: a state is put into the map; one is laid on the heap of work; the maps' literal. No condition.
-/
import Derived.Test.YtojgdabkdbchnaaGreatDoorVerifyMem
namespace Go.Proofs.YtojgdabkdbchnaaGreatDoor
open Go.RowKit Go.Maps Go.WideMaps
set_option maxRecDepth 100000

theorem infoFound : (Tryz.prog.info? 53).map (fun i => (i.zero, i.size, i.bytes)) = some (some (foundV (0, 0, 0)), 3, 24) := by kernel_rfl
theorem wpList_insert_own {H : Type} {P : Program} (w : World) {ops : Array Oper} {rest : List Oper} {o : Oper} {a : Act} {Q : Exit → Act → World → Prop}
    (hg : o.guard = none) (m x v : Operand) (t : TypeId) (hop : o.op = Op.insert t m x v)
    (k e : TypeId) (K : Keyed P k) (ht : P.underlying t = some (.map k e)) (R : Value → Option (DataW H × List MemPlace)) (b n : Nat) (D : DataW H)
    (hm : a.eval m = .map (some b)) (hown : w.ownsMap P k R b n D) (hn : n < maxLen) (key val : Value) (kl : Lit) (hx : a.eval x = key) (hv : a.eval v = val) (hkey : keyOf P k key = some kl)
    (d : DataW H) (ps : List MemPlace) (hval : R val = some (d, ps))
    (hK : ∀ w', w'.ownsMap P k R b (n + 1) (D.put kl d) → w.grownBy w' (some b) → wpList P ops Q rest (a.put o.dst undef) w') :
    wpList P ops Q (o :: rest) a w := by
  refine wpList_plain hg fun K' hK' => ?_
  obtain ⟨w', hrun, r1, r2⟩ := hown.update K ht hn hkey hval
  unfold Oper.wp
  simp [execOp, hop, hm, hx, hv, hrun, Result.andThen]
  exact hK' _ _ (hK w' r1 r2)
def cells3 (p : VP) : List Value := [.int .i64 p.1, .int .i64 p.2.1, .int .i64 p.2.2]
theorem wpList_push {w : World} {B : Nat} {v : Value} {l : List VP} (hown : Todo w B v l) (hB : B ≤ w.heap.size) (g : Nat) (p : VP) (c : Nat) (hc : ∀ j u, (cells3 p)[j]? = some u → w.cell? ⟨g, j, none⟩ = some u) (hb : l.length + 1 ≤ 3000000)
    {ops : Array Oper} {Q : Exit → Act → World → Prop} {a : Act} {rest : List Oper} {o : Oper} (hgd : o.guard = none) (s x : Operand) (hop : o.op = Op.call { callee := Callee.builtin Builtin.append, args := #[s, x], argTypes := #[57, 57] })
    (ev : a.eval s = v) (hx : a.eval x = .slice (some ⟨g, 0, none⟩) 1 c)
    (hK : ∀ v' w', Todo w' B v' (l ++ [p]) → w.grownBy w' v.ownBlock → wpList Tryz.prog ops Q rest (a.put o.dst v') w') : wpList Tryz.prog ops Q (o :: rest) a w := by
  obtain ⟨i0, hi, hz0, hz1, hz2⟩ := info_parts infoFound
  refine wpList_append_own _ hgd s x 57 hop B 53 i0 (foundV (0, 0, 0)) 3 24 Tryz.underlying57 hi hz0 hz1 hz2 rfl (by decide) v l.length (foundCells l) ev hown ⟨g, 0, none⟩ 1 c (cells3 p) hx rfl (fun j u h => by have := hc j u h; cases j <;> simpa [Addr.add] using this) (fun u hu => ?_) (by unfold maxLen; omega) (by omega) hB (fun v' w' h1 h2 _ => hK v' w' ?_ h2)
  · simp [cells3] at hu
    rcases hu with rfl | rfl | rfl <;> rfl
  · unfold Todo
    rw [List.length_append, foundCells_snoc]
    exact h1
theorem Todo.first {w : World} {B g : Nat} {p : VP} (hB : B ≤ g) (h : w.heap[g]? = some (.cells #[.int .i64 p.1, .int .i64 p.2.1, .int .i64 p.2.2] 53)) : Todo w B (.slice (some ⟨g, 0, none⟩) 1 1) [p] :=
  ⟨rfl, .inr ⟨g, 1, _, rfl, hB, h, Nat.le_refl _, by unfold maxLen; omega, rfl, rfl⟩⟩
section
variable {B gm gw mb n cnt : Nat} {st : VS} {v : Value} {w0 wr wr' : World}
theorem VMem.lt (h : VMem B gm gw mb n cnt st v w0 wr) : B ≤ wr.heap.size := Nat.le_trans h.ge.1 (Nat.le_of_lt (lt_of_block h.many))
theorem VMem.mapLt (h : VMem B gm gw mb n cnt st v w0 wr) : mb < wr.heap.size := by
  obtain ⟨D, hm, _⟩ := h.seen
  exact hm.lt
theorem VMem.mapPut (h : VMem B gm gw mb n cnt st v w0 wr) (hn : n ≤ 400) {p : VP} (hp : okP n p) {D : DataW Unit} (hD : SeenMap n st.seen D)
    (hown : wr'.ownsMap (H := Unit) Tryz.prog 53 (plainElem Tryz.prog 3) mb (cnt + 1) (D.put (keyP p) (.lit (.int .i64 1)))) (hg : wr.grownBy wr' (some mb)) :
    VMem B gm gw mb n (cnt + 1) { st with seen := p :: st.seen } v w0 wr' := by
  obtain ⟨h1, h2, h3⟩ := h.gs_ne
  refine ⟨h.todo.kept hg ?_, ⟨_, hown, hD.put hn hp⟩, (hg.block _ (lt_of_block h.many) (by simpa using h2)).trans h.many, (hg.block _ (lt_of_block h.wrong) (by simpa using h3)).trans h.wrong, h.below.grown hg h.lt (fun k e => by cases e; exact h.ge.2.2), h.ge⟩
  cases hv : v.ownBlock with
  | none => simp
  | some g => simpa using (h.own_ne hv).2.2
theorem VMem.push (h : VMem B gm gw mb n cnt st v w0 wr) {p : VP} {v' : Value} (h' : Todo wr' B v' (st.todo ++ [p])) (hg : wr.grownBy wr' v.ownBlock) :
    VMem B gm gw mb n cnt { st with todo := st.todo ++ [p] } v' w0 wr' := by
  obtain ⟨D, hm, hs⟩ := h.seen
  have hne : ∀ x : Nat, (∀ g, v.ownBlock = some g → g ≠ x) → some x ≠ v.ownBlock := fun x hx e => hx x e.symm rfl
  refine ⟨h', ⟨D, hm.kept hg (hne _ fun g hg => (h.own_ne hg).2.2), hs⟩, (hg.block _ (lt_of_block h.many) (hne _ fun g hg => (h.own_ne hg).1)).trans h.many, (hg.block _ (lt_of_block h.wrong) (hne _ fun g hg => (h.own_ne hg).2.1)).trans h.wrong, h.below.grown hg h.lt (fun k e => ?_), h.ge⟩
  have := h.todo
  unfold Todo at this
  obtain ⟨_, h2 | ⟨g', cap', cur', hv, hB, _⟩⟩ := this
  · rw [h2.1] at e; cases e
  · rw [hv] at e; cases e; exact hB
/-- the memory ahead of the first round -/
theorem VMem.start {n2 g : Nat} (hn2 : n2 = n + 1) (hb : Below B w0 wr) (hB : B ≤ gm ∧ B ≤ gw ∧ B ≤ mb ∧ B ≤ g)
    (hmap : ∃ D, wr.ownsMap (H := Unit) Tryz.prog 53 (plainElem Tryz.prog 3) mb cnt D ∧ SeenMap n [(0, 0, -1)] D)
    (hm : wr.heap[gm]? = some (.cells (madeCells #[.int .i64 0] n2) 3)) (hw : wr.heap[gw]? = some (.cells (madeCells #[.int .i64 0] n2) 25))
    (ht : wr.heap[g]? = some (.cells #[.int .i64 0, .int .i64 0, .int .i64 (-1)] 53)) :
    VMem B gm gw mb n cnt (vstart n) (.slice (some ⟨g, 0, none⟩) 1 1) w0 wr := by
  subst hn2
  refine ⟨Todo.first hB.2.2.2 (p := (0, 0, -1)) ht, hmap, ?_, ?_, hb, hB.1, hB.2.1, hB.2.2.1⟩
  · rw [hm, ints_made]; rfl
  · rw [hw, ints_made]; rfl
end
end Go.Proofs.YtojgdabkdbchnaaGreatDoor
