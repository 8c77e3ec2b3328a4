/-
  Rows of instructions in memory of the call's own; append of instructions onto one. No condition.
-/
import Derived.Test.YtoiokbdipcecnaaGreatDoorCodeCheck
import Derived.Lib.SliceRun
import Derived.Laws.OwnMore
import Derived.Laws.AppendOwnNone
import Derived.Lib.Hide
import Derived.Deep.DeepMust
namespace Go.Proofs.YtoiokbdipcecnaaGreatDoor
open Go.RowKit
set_option maxRecDepth 100000

theorem infoP : (Tryz.prog.info? 82).map (fun i => (i.zero, i.size, i.bytes)) = some (some (.agg #[.int .i64 0, .int .i64 0]), 2, 16) := by kernel_rfl
/-- a row of instructions of the call's own -/
def OwnP (w : World) (B : Nat) (v : Value) (l : List (Int × Int)) : Prop := w.ownsRow B 82 2 v l.length (instrCells l)
theorem instrCells_app (a b : List (Int × Int)) : instrCells (a ++ b) = instrCells a ++ instrCells b := by simp [instrCells]
theorem instrCells_one : ∀ {l : List (Int × Int)}, ∀ v ∈ instrCells l, v.oneCell' = true := by
  intro l v hv
  obtain ⟨x, _, hx⟩ := List.mem_flatMap.1 hv
  simp only [List.mem_cons, List.not_mem_nil, or_false] at hx
  rcases hx with rfl | rfl <;> rfl
section
variable {w : World} {B g cap : Nat} {l : List (Int × Int)} {v : Value}
theorem OwnP.nil (w : World) (B : Nat) : OwnP w B (.slice none 0 0) [] := World.ownsRow_nil _ _ _ _
theorem OwnP.below {w' : World} (h : OwnP w B v l) (hb : Below w.heap.size w w') : OwnP w' B v l :=
  ownsRow_at h (fun g hg => by obtain ⟨_, hc⟩ := own_block h hg; exact hb.block _ (lt_of_block hc))
theorem OwnP.lower (h : OwnP w B v l) {B' : Nat} (hb : B' ≤ B) : OwnP w B' v l := own_lower h hb
theorem OwnP.form (h : OwnP w B v l) : (v = .slice none 0 0 ∧ l = []) ∨ ∃ g cap, v = .slice (some ⟨g, 0, none⟩) l.length cap := by
  obtain ⟨_, h1 | ⟨g, cap, cur, hv, _⟩⟩ := h
  · exact Or.inl ⟨h1.1, List.eq_nil_of_length_eq_zero h1.2⟩
  · exact Or.inr ⟨g, cap, hv⟩
theorem OwnP.slice (h : OwnP w B v l) : ∃ ao c, v = .slice ao l.length c ∧ SeesP w ao l ∧ (ao = none → c = 0) := by
  rcases h.form with ⟨rfl, rfl⟩ | ⟨g, cap, rfl⟩
  · exact ⟨none, 0, rfl, ⟨0, 0, fun h => absurd rfl h, fun j x hj => by simp at hj⟩, fun _ => rfl⟩
  · refine ⟨some ⟨g, 0, none⟩, cap, rfl, ⟨g, 0, fun _ => rfl, fun k x hx => ?_⟩, fun h => by cases h⟩
    have hk : k < l.length := (List.getElem?_eq_some_iff.1 hx).1
    rw [Nat.zero_add]
    exact ⟨(h.cellAt (k * 2) (by omega)).trans (instrCells_at l k _ hx).1, (h.cellAt (k * 2 + 1) (by omega)).trans (instrCells_at l k _ hx).2⟩
end
theorem SeesP.nil (w : World) (ao : Option Addr) : SeesP w ao [] := ⟨0, 0, fun h => absurd rfl h, fun j x hj => by simp at hj⟩
theorem SeesP.drewN {w : World} {ao : Option Addr} {l : List (Int × Int)} (h : SeesP w ao l) (n : Nat) : SeesP (w.drewN n) ao l := h
theorem SeesP.take {w : World} {ao : Option Addr} {l : List (Int × Int)} (h : SeesP w ao l) (n : Nat) : SeesP w ao (l.take n) := by
  obtain ⟨b, o, h1, h2⟩ := h
  refine ⟨b, o, fun hne => h1 (by intro e; subst e; simp at hne), fun j x hj => h2 j x ?_⟩
  rw [List.getElem?_take] at hj
  split at hj
  · exact hj
  · cases hj
theorem SeesP.news {w : World} {ad : Addr} {l : List (Int × Int)} (h : SeesP w (some ad) l) : ∀ (j : Nat) u, (instrCells l)[j]? = some u → w.cell? (ad.add j) = some u := by
  intro j u hj
  have hjl : j < l.length * 2 := by have := (List.getElem?_eq_some_iff.1 hj).1; rwa [instrCells_length] at this
  obtain ⟨b, o, h1, h2⟩ := h
  obtain rfl : ad = ⟨b, o, none⟩ := by
    have := h1 (by intro e; subst e; simp at hjl)
    simpa using this
  rw [Addr.add_lit]
  obtain ⟨x, hx⟩ : ∃ x, l[j / 2]? = some x := ⟨_, List.getElem?_eq_getElem (by omega)⟩
  have k1 := instrCells_at l (j / 2) x hx
  have k2 := h2 (j / 2) x hx
  obtain he | he : j = j / 2 * 2 ∨ j = j / 2 * 2 + 1 := by omega
  · rw [he] at hj ⊢
    rw [k1.1] at hj
    injection hj with hj
    subst hj
    exact k2.1
  · rw [he, k1.2] at hj
    injection hj with hj
    subst hj
    rw [he]
    have := k2.2
    rw [Nat.add_assoc] at this
    exact this
theorem OwnP.take {w : World} {B : Nat} {v : Value} {l k : List (Int × Int)} (h : OwnP w B v (l ++ k)) (h0 : 0 < (l ++ k).length) : ∃ g c, v = .slice (some ⟨g, 0, none⟩) (l ++ k).length c ∧ SeesP w (some ⟨g, 0, none⟩) l ∧ SeesP w (some ⟨g, 0, none⟩) (l ++ k) ∧ (l ++ k).length ≤ c ∧ c ≤ maxLen := by
  obtain ⟨g, c, hv⟩ := Joins.ownsRow_form h h0
  subst hv
  obtain ⟨ao, c', e, hs, _⟩ := OwnP.slice h
  injection e with e1 e2 e3
  subst e1
  refine ⟨g, c, rfl, ?_, hs, ?_⟩
  · have := hs.take l.length
    rwa [List.take_left] at this
  · obtain ⟨_, h | ⟨_, _, _, hv, _, _, h1, h2, _⟩⟩ := h
    · cases h.1
    · injection hv with _ _ h3; subst h3; exact ⟨h1, h2⟩
/-- append of a slice of instructions onto a row of the call's own -/
theorem wpList_appendP {w : World} {B : Nat} {v : Value} {xs : List (Int × Int)} (hown : OwnP w B v xs) (hB : B ≤ w.heap.size) (ao : Option Addr) (n c : Nat) (zs : List (Int × Int)) (hz : zs.length = n) (hs : SeesP w ao zs) (hn : ao = none → c = 0) (hb : (xs.length + zs.length) * 16 ≤ 140737488355328)
    {ops : Array Oper} {Q : Exit → Act → World → Prop} {a : Act} {rest : List Oper} {o : Oper} (hgd : o.guard = none) (s x : Operand) (hop : o.op = Op.call { callee := Callee.builtin Builtin.append, args := #[s, x], argTypes := #[45, 45] })
    (ev : a.eval s = v) (hx : a.eval x = .slice ao n c)
    (hK : ∀ v' w', OwnP w' B v' (xs ++ zs) → w.grownBy w' v.ownBlock → wpList Tryz.prog ops Q rest (a.put o.dst v') w') : wpList Tryz.prog ops Q (o :: rest) a w := by
  subst hz
  obtain ⟨i0, hi, hz0, hz1, hz2⟩ := info_parts infoP
  cases ao with
  | none =>
    obtain rfl := hn rfl
    have hz : zs = [] := by
      obtain ⟨b, o, h1, _⟩ := hs
      by_cases e : zs = []
      · exact e
      · exact absurd (h1 e) (by simp)
    subst hz
    refine wpList_append_own_none hgd s x _ hop B 82 i0 2 Tryz.underlying45 hi v _ _ ev hown hx (hK v w (by simpa using hown) (World.grownBy.refl w _))
  | some ad =>
    have hnews := hs.news
    exact wpList_append_own _ hgd s x 45 hop B 82 i0 (.agg #[.int .i64 0, .int .i64 0]) 2 16 Tryz.underlying45 hi hz0 hz1 hz2 rfl (by decide) v xs.length (instrCells xs) ev hown ad zs.length c (instrCells zs) hx (instrCells_length _) hnews instrCells_one (by unfold maxLen; omega) hb hB
      (fun v' w' h1 h2 _ => hK v' w' (by unfold OwnP; rw [List.length_append, instrCells_app]; exact h1) h2)
/-- three instructions in a block -/
theorem seesP_three {w : World} {g : Nat} {a b c d e f : Int} {t : TypeId} (h : w.heap[g]? = some (.cells #[.int .i64 a, .int .i64 b, .int .i64 c, .int .i64 d, .int .i64 e, .int .i64 f] t)) : SeesP w (some ⟨g, 0, none⟩) [(a, b), (c, d), (e, f)] := by
  refine ⟨g, 0, fun _ => rfl, fun j x hj => ?_⟩
  match j, hj with
  | 0, hj => simp at hj; subst hj; exact ⟨cell_of_row _ _ 0 _ _ _ h, cell_of_row _ _ 1 _ _ _ h⟩
  | 1, hj => simp at hj; subst hj; exact ⟨cell_of_row _ _ 2 _ _ _ h, cell_of_row _ _ 3 _ _ _ h⟩
  | 2, hj => simp at hj; subst hj; exact ⟨cell_of_row _ _ 4 _ _ _ h, cell_of_row _ _ 5 _ _ _ h⟩
  | j + 3, hj => simp at hj
theorem seesP_one {w : World} {g : Nat} {a b : Int} {t : TypeId} (h : w.heap[g]? = some (.cells #[.int .i64 a, .int .i64 b] t)) : SeesP w (some ⟨g, 0, none⟩) [(a, b)] := by
  refine ⟨g, 0, fun _ => rfl, fun j x hj => ?_⟩
  match j, hj with
  | 0, hj => simp at hj; subst hj; exact ⟨cell_of_row _ _ 0 _ _ _ h, cell_of_row _ _ 1 _ _ _ h⟩
  | j + 1, hj => simp at hj
theorem seesP_arr {w : World} {g : Nat} {l : List (Int × Int)} {t : TypeId} (h : w.heap[g]? = some (.cells (instrCells l).toArray t)) : SeesP w (some ⟨g, 0, none⟩) l := by
  refine ⟨g, 0, fun _ => rfl, fun j x hj => ?_⟩
  have k := instrCells_at l j x hj
  rw [Nat.zero_add]
  exact ⟨cell_of_row _ _ (j * 2) _ _ _ (by rw [h]) |>.trans (by simpa using k.1), cell_of_row _ _ (j * 2 + 1) _ _ _ (by rw [h]) |>.trans (by simpa using k.2)⟩
end Go.Proofs.YtoiokbdipcecnaaGreatDoor
