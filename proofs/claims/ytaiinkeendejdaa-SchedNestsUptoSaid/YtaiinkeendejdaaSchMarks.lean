/-
  SCHED: rows of marks in memory. No condition.
-/
import Derived.Test.YtaiinkeendejdaaProg
import Derived.Lib.SliceRun
import Derived.Laws.OwnMore
import Derived.Laws.AppendOwnNone
import Derived.Lib.Hide
import Derived.OwnWalk
import Derived.Deep.RegionLaw
import Derived.Maps.AppendAt
import Derived.KernelRfl
namespace Go.Proofs.Ytaiinkeendejdaa
open Go.RowKit
set_option maxRecDepth 100000
/-- a mark: pick, thread, answer -/
abbrev Mk := Int × Int × Int
def markCells (l : List Mk) : List Value := l.flatMap fun x => [.int .i64 x.1, .int .i64 x.2.1, .int .i64 x.2.2]
theorem infoM : (Try.prog.info? 34).map (fun i => (i.zero, i.size, i.bytes)) = some (some (.agg #[.int .i64 0, .int .i64 0, .int .i64 0]), 3, 24) := by kernel_rfl
/-- a row of marks of the call's own -/
def OwnM (w : World) (B : Nat) (v : Value) (l : List Mk) : Prop := w.ownsRow B 34 3 v l.length (markCells l)
theorem markCells_app (a b : List Mk) : markCells (a ++ b) = markCells a ++ markCells b := by simp [markCells]
theorem markCells_length (l : List Mk) : (markCells l).length = l.length * 3 := by
  induction l with
  | nil => rfl
  | cons x l ih =>
    have : markCells (x :: l) = [.int .i64 x.1, .int .i64 x.2.1, .int .i64 x.2.2] ++ markCells l := rfl
    rw [this, List.length_append, ih, List.length_cons]
    simp only [List.length_cons, List.length_nil]
    omega
theorem markCells_one : ∀ {l : List Mk}, ∀ v ∈ markCells l, v.oneCell' = true := by
  intro l v hv
  obtain ⟨x, _, hx⟩ := List.mem_flatMap.1 hv
  simp only [List.mem_cons, List.not_mem_nil, or_false] at hx
  rcases hx with rfl | rfl | rfl <;> rfl
theorem markCells_at : ∀ (l : List Mk) (k : Nat) x, l[k]? = some x → (markCells l)[k * 3]? = some (.int .i64 x.1) ∧ (markCells l)[k * 3 + 1]? = some (.int .i64 x.2.1) ∧ (markCells l)[k * 3 + 2]? = some (.int .i64 x.2.2)
  | [], _, _, h => by simp at h
  | y :: l, 0, x, h => by
    simp only [List.getElem?_cons_zero, Option.some.injEq] at h
    subst h
    exact ⟨rfl, rfl, rfl⟩
  | y :: l, k + 1, x, h => by
    have := markCells_at l k x (by simpa using h)
    have e : markCells (y :: l) = .int .i64 y.1 :: .int .i64 y.2.1 :: .int .i64 y.2.2 :: markCells l := rfl
    rw [e, show (k + 1) * 3 = k * 3 + 1 + 1 + 1 by omega]
    simpa only [List.getElem?_cons_succ, Nat.add_assoc, Nat.reduceAdd] using this
/-- a slice of marks reads as a list -/
def SeesM (w : World) (ao : Option Addr) (l : List Mk) : Prop := ∃ b o, (l ≠ [] → ao = some ⟨b, o, none⟩) ∧ ∀ (j : Nat) x, l[j]? = some x → w.cell? ⟨b, o + j * 3, none⟩ = some (.int .i64 x.1) ∧ w.cell? ⟨b, o + (j * 3 + 1), none⟩ = some (.int .i64 x.2.1) ∧ w.cell? ⟨b, o + (j * 3 + 2), none⟩ = some (.int .i64 x.2.2)
section
variable {w : World} {B : Nat} {l : List Mk} {v : Value}
theorem OwnM.nil (w : World) (B : Nat) : OwnM w B (.slice none 0 0) [] := World.ownsRow_nil _ _ _ _
theorem OwnM.at {w' : World} (h : OwnM w B v l) (hk : ∀ g, v.ownBlock = some g → w'.heap[g]? = w.heap[g]?) : OwnM w' B v l := by
  obtain ⟨h1, h2⟩ := h
  refine ⟨h1, ?_⟩
  rcases h2 with h2 | ⟨g, cap, cur, hv, hg, hh, r⟩
  · exact Or.inl h2
  · exact Or.inr ⟨g, cap, cur, hv, hg, by rw [hk g (by rw [hv]; rfl)]; exact hh, r⟩
theorem OwnM.lower (h : OwnM w B v l) {B' : Nat} (hb : B' ≤ B) : OwnM w B' v l := by
  obtain ⟨h1, h2⟩ := h
  refine ⟨h1, ?_⟩
  rcases h2 with h2 | ⟨g, cap, cur, hv, hg, r⟩
  · exact .inl h2
  · exact .inr ⟨g, cap, cur, hv, Nat.le_trans hb hg, r⟩
theorem OwnM.heap (h : OwnM w B v l) {g : Nat} (hg : v.ownBlock = some g) : ∃ cur cap, v = .slice (some ⟨g, 0, none⟩) l.length cap ∧ w.heap[g]? = some (.cells cur 34) := by
  rcases h.2 with ⟨hv, _⟩ | ⟨g', cap, cur, hv, h3, hh, _⟩
  · rw [hv] at hg; cases hg
  · rw [hv] at hg
    obtain rfl : g' = g := by simpa [Value.ownBlock] using hg
    exact ⟨cur, cap, hv, hh⟩
theorem OwnM.block (h : OwnM w B v l) {g : Nat} (hg : v.ownBlock = some g) : B ≤ g ∧ g < w.heap.size := by
  rcases h.2 with ⟨hv, _⟩ | ⟨g', cap, cur, hv, h3, hh, _⟩
  · rw [hv] at hg; cases hg
  · rw [hv] at hg
    have e1 : g' = g := by simpa [Value.ownBlock] using hg
    subst e1
    exact ⟨h3, (Array.getElem?_eq_some_iff.1 hh).1⟩
theorem OwnM.form (h : OwnM w B v l) : (v = .slice none 0 0 ∧ l = []) ∨ ∃ g cap, v = .slice (some ⟨g, 0, none⟩) l.length cap := by
  obtain ⟨_, h1 | ⟨g, cap, cur, hv, _⟩⟩ := h
  · exact Or.inl ⟨h1.1, List.eq_nil_of_length_eq_zero h1.2⟩
  · exact Or.inr ⟨g, cap, hv⟩
theorem OwnM.slice (h : OwnM w B v l) : ∃ ao c, v = .slice ao l.length c ∧ SeesM w ao l ∧ (ao = none → c = 0) := by
  rcases h.form with ⟨rfl, rfl⟩ | ⟨g, cap, rfl⟩
  · exact ⟨none, 0, rfl, ⟨0, 0, fun h => absurd rfl h, fun j x hj => by simp at hj⟩, fun _ => rfl⟩
  · refine ⟨some ⟨g, 0, none⟩, cap, rfl, ⟨g, 0, fun _ => rfl, fun k x hx => ?_⟩, fun h => by cases h⟩
    have hk : k < l.length := (List.getElem?_eq_some_iff.1 hx).1
    rw [Nat.zero_add, Nat.zero_add, Nat.zero_add]
    obtain ⟨k1, k2, k3⟩ := markCells_at l k _ hx
    exact ⟨(h.cellAt (k * 3) (by omega)).trans k1, (h.cellAt (k * 3 + 1) (by omega)).trans k2, (h.cellAt (k * 3 + 2) (by omega)).trans k3⟩
end
theorem SeesM.news {w : World} {ad : Addr} {l : List Mk} (h : SeesM w (some ad) l) : ∀ (j : Nat) u, (markCells l)[j]? = some u → w.cell? (ad.add j) = some u := by
  intro j u hj
  have hjl : j < l.length * 3 := by have := (List.getElem?_eq_some_iff.1 hj).1; rwa [markCells_length] at this
  obtain ⟨b, o, h1, h2⟩ := h
  obtain rfl : ad = ⟨b, o, none⟩ := by
    have := h1 (by intro e; subst e; simp at hjl)
    simpa using this
  rw [Addr.add_lit]
  obtain ⟨x, hx⟩ : ∃ x, l[j / 3]? = some x := ⟨_, List.getElem?_eq_getElem (by omega)⟩
  obtain ⟨k1, k2, k3⟩ := markCells_at l (j / 3) x hx
  obtain ⟨m1, m2, m3⟩ := h2 (j / 3) x hx
  obtain he | he | he : j = j / 3 * 3 ∨ j = j / 3 * 3 + 1 ∨ j = j / 3 * 3 + 2 := by omega
  · rw [he] at hj ⊢
    rw [k1] at hj
    injection hj with hj
    subst hj
    exact m1
  · rw [he, k2] at hj
    injection hj with hj
    subst hj
    rw [he]
    exact m2
  · rw [he, k3] at hj
    injection hj with hj
    subst hj
    rw [he]
    exact m3
/-- append of a slice of marks onto a row of the call's own -/
theorem wpList_appendM {w : World} {B : Nat} {v : Value} {xs : List Mk} (hown : OwnM w B v xs) (hB : B ≤ w.heap.size) (ao : Option Addr) (n c : Nat) (zs : List Mk) (hz : zs.length = n) (hs : SeesM w ao zs) (hn : ao = none → c = 0) (hb : (xs.length + zs.length) * 24 ≤ 140737488355328)
    {ops : Array Oper} {Q : Exit → Act → World → Prop} {a : Act} {rest : List Oper} {o : Oper} (hgd : o.guard = none) (s x : Operand) (hop : o.op = Op.call { callee := Callee.builtin Builtin.append, args := #[s, x], argTypes := #[27, 27] })
    (ev : a.eval s = v) (hx : a.eval x = .slice ao n c)
    (hK : ∀ v' w', OwnM w' B v' (xs ++ zs) → w.grownBy w' v.ownBlock → wpList Try.prog ops Q rest (a.put o.dst v') w') : wpList Try.prog ops Q (o :: rest) a w := by
  subst hz
  obtain ⟨i0, hi, hz0, hz1, hz2⟩ := info_parts infoM
  cases ao with
  | none =>
    obtain rfl := hn rfl
    have hz : zs = [] := by
      obtain ⟨b, o, h1, _⟩ := hs
      by_cases e : zs = []
      · exact e
      · exact absurd (h1 e) (by simp)
    subst hz
    refine wpList_append_own_none hgd s x _ hop B 34 i0 3 Try.underlying27 hi v _ _ ev hown hx (hK v w (by simpa using hown) (World.grownBy.refl w _))
  | some ad =>
    have hnews := hs.news
    exact wpList_append_own _ hgd s x 27 hop B 34 i0 (.agg #[.int .i64 0, .int .i64 0, .int .i64 0]) 3 24 Try.underlying27 hi hz0 hz1 hz2 rfl (by decide) v xs.length (markCells xs) ev hown ad zs.length c (markCells zs) hx (markCells_length _) hnews markCells_one (by unfold maxLen; omega) hb hB
      (fun v' w' h1 h2 _ => hK v' w' (by unfold OwnM; rw [List.length_append, markCells_app]; exact h1) h2)
/-- the same as one step of a region that draws its order -/
theorem step_appendM {ops : Array Oper} {o : Oper} {a : Act} {w : World} {K : Act → World → Prop} {Q : Exit → Act → World → Prop} {E : Prop} {B : Nat} {v : Value} {xs zs : List Mk} (hown : OwnM w B v xs) (hB : B ≤ w.heap.size)
    (hg : o.guard = none) (s x : Operand) (hop : o.op = Op.call { callee := Callee.builtin Builtin.append, args := #[s, x], argTypes := #[27, 27] })
    (ev : a.eval s = v) (ad : Addr) (c : Nat) (hx : a.eval x = .slice (some ad) zs.length c) (hs : SeesM w (some ad) zs) (hb : (xs.length + zs.length) * 24 ≤ 140737488355328)
    (hK : ∀ v' w', OwnM w' B v' (xs ++ zs) → w.grownBy w' v.ownBlock → (v'.ownBlock = v.ownBlock ∨ v'.ownBlock = some w.heap.size) → K (a.put o.dst v') w') :
    if Region.wanted o (yielded ops a.tmps) = true then Oper.wp Try.prog o a w K Q else E := by
  have hw : Region.wanted o (yielded ops a.tmps) = true := by simp [Region.wanted, hg]
  rw [if_pos hw]
  obtain ⟨i0, hi, hz0, hz1, hz2⟩ := info_parts infoM
  obtain ⟨v', w', hrun, r1, r2, _, r3⟩ := run_append_own_at (P := Try.prog) w B 27 o.type 34 i0 (.agg #[.int .i64 0, .int .i64 0, .int .i64 0]) 3 24 Try.underlying27 hi hz0 hz1 hz2 rfl (by decide) v xs.length (markCells xs) hown ad zs.length c (markCells zs) (markCells_length _) hs.news markCells_one (by unfold maxLen; omega) hb hB
  unfold Oper.wp
  simp [execOp, hop, resolve, invoke, builtin, ev, hx, hrun, Result.andThen]
  exact hK v' w' (by unfold OwnM; rw [List.length_append, markCells_app]; exact r1) r2 r3
theorem seesM_one {w : World} {g : Nat} {a b c : Int} {t : TypeId} {f : Nat × Nat} (h : w.heap[g]? = some (.cells #[.int .i64 a, .int .i64 b, .int .i64 c] t f)) : SeesM w (some ⟨g, 0, none⟩) [(a, b, c)] := by
  refine ⟨g, 0, fun _ => rfl, fun j x hj => ?_⟩
  match j, hj with
  | 0, hj =>
    simp only [List.getElem?_cons_zero, Option.some.injEq] at hj
    subst hj
    unfold World.cell?
    simp [h]
  | j + 1, hj => simp at hj
end Go.Proofs.Ytaiinkeendejdaa
