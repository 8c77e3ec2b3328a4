/-
  Rows of entries (two numbers each) in memory of the call's own; append onto one, make of none, slices.Clone at []Entry of any slice. No condition.
-/
import Derived.Test.YtochpdailleilaaGreatDoorCodeInstrs
import Derived.Test.YtochpdailleilaaGreatDoorRow64n
import Derived.Maps.AppendAt
namespace Go.Proofs.YtochpdailleilaaGreatDoor
open Go.RowKit
set_option maxRecDepth 100000

theorem infoE : (Tryz.prog.info? 36).map (fun i => (i.zero, i.size, i.bytes)) = some (some (.agg #[.int .i64 0, .int .i64 0]), 2, 16) := by kernel_rfl
theorem instrCells_cons (x : Int × Int) (r : List (Int × Int)) : instrCells (x :: r) = .int .i64 x.1 :: .int .i64 x.2 :: instrCells r := by simp [instrCells]
theorem instrCells_set : ∀ (l : List (Int × Int)) (k : Nat) (a b : Int), k < l.length → ((instrCells l).set (k * 2) (.int .i64 a)).set (k * 2 + 1) (.int .i64 b) = instrCells (l.set k (a, b))
  | [], k, a, b, h => by simp at h
  | x :: r, 0, a, b, _ => by simp [instrCells_cons]
  | x :: r, k + 1, a, b, h => by
    have ih := instrCells_set r k a b (by simpa using h)
    rw [show (k + 1) * 2 = k * 2 + 1 + 1 by omega, instrCells_cons, List.set_cons_succ, List.set_cons_succ, List.set_cons_succ, List.set_cons_succ, List.set_cons_succ, instrCells_cons, ih]
theorem instrCells_set2 : ∀ (l : List (Int × Int)) (k : Nat) (a b c : Int), l[k]? = some (a, c) → (instrCells l).set (k * 2 + 1) (.int .i64 b) = instrCells (l.set k (a, b))
  | [], k, a, b, c, h => by simp at h
  | x :: r, 0, a, b, c, h => by
    obtain rfl : x = (a, c) := by simpa using h
    simp [instrCells_cons]
  | x :: r, k + 1, a, b, c, h => by
    have ih := instrCells_set2 r k a b c (by simpa using h)
    rw [show (k + 1) * 2 + 1 = k * 2 + 1 + 1 + 1 by omega, instrCells_cons, List.set_cons_succ, List.set_cons_succ, List.set_cons_succ, instrCells_cons, ih]
theorem instrCells_take : ∀ (l : List (Int × Int)) (k : Nat), (instrCells l).take (k * 2) = instrCells (l.take k)
  | [], k => by simp [instrCells]
  | x :: r, 0 => by simp [instrCells]
  | x :: r, k + 1 => by
    rw [show (k + 1) * 2 = k * 2 + 1 + 1 by omega, instrCells_cons, List.take_succ_cons, List.take_succ_cons, List.take_succ_cons, instrCells_cons, instrCells_take r k]
theorem instrCells_drop : ∀ (l : List (Int × Int)) (k : Nat), (instrCells l).drop (k * 2) = instrCells (l.drop k)
  | [], k => by simp [instrCells]
  | x :: r, 0 => by simp
  | x :: r, k + 1 => by
    rw [show (k + 1) * 2 = k * 2 + 1 + 1 by omega, instrCells_cons, List.drop_succ_cons, List.drop_succ_cons, List.drop_succ_cons, instrCells_drop r k]
/-- a row of entries of the call's own -/
def OwnE (w : World) (B : Nat) (v : Value) (l : List (Int × Int)) : Prop := w.ownsRow B 36 2 v l.length (instrCells l)
/-- .. at an address -/
def BalE (w : World) (B g cap : Nat) (l : List (Int × Int)) : Prop := w.ownsRow B 36 2 (.slice (some ⟨g, 0, none⟩) l.length cap) l.length (instrCells l)
section
variable {w : World} {B g cap : Nat} {l : List (Int × Int)} {v : Value}
theorem BalE.own (h : BalE w B g cap l) : OwnE w B (.slice (some ⟨g, 0, none⟩) l.length cap) l := h
theorem OwnE.nil (w : World) (B : Nat) : OwnE w B (.slice none 0 0) [] := World.ownsRow_nil _ _ _ _
theorem OwnE.form (h : OwnE w B v l) : (v = .slice none 0 0 ∧ l = []) ∨ ∃ g cap, v = .slice (some ⟨g, 0, none⟩) l.length cap ∧ BalE w B g cap l := by
  have h0 := h
  obtain ⟨_, h1 | ⟨g, cap, cur, hv, _⟩⟩ := h0
  · exact Or.inl ⟨h1.1, List.eq_nil_of_length_eq_zero h1.2⟩
  · subst hv
    exact Or.inr ⟨g, cap, rfl, h⟩
theorem OwnE.below {w' : World} (h : OwnE w B v l) (hb : Below w.heap.size w w') : OwnE w' B v l :=
  ownsRow_at h (fun g hg => by obtain ⟨_, hc⟩ := own_block h hg; exact hb.block _ (lt_of_block hc))
theorem OwnE.lower (h : OwnE w B v l) {B' : Nat} (hb : B' ≤ B) : OwnE w B' v l := own_lower h hb
theorem BalE.lt (h : BalE w B g cap l) : g < w.heap.size ∧ B ≤ g := by
  obtain ⟨cur, hc⟩ := own_block h rfl
  exact ⟨lt_of_block hc, own_ge h rfl⟩
theorem BalE.caps (h : BalE w B g cap l) : l.length ≤ cap ∧ cap ≤ maxLen := by
  obtain ⟨_, h | ⟨_, _, _, hv, _, _, h1, h2, _⟩⟩ := h
  · cases h.1
  · injection hv with _ _ h3; subst h3; exact ⟨h1, h2⟩
theorem BalE.block (h : BalE w B g cap l) : ∃ cur, w.heap[g]? = some (.cells cur 36) ∧ cur.size = cap * 2 ∧ cur.toList.take (l.length * 2) = instrCells l := by
  obtain ⟨_, h | ⟨_, _, cur, hv, _, hb, _, _, h3, h4⟩⟩ := h
  · cases h.1
  · injection hv with h1 _ h2
    injection h1 with h1
    injection h1 with h1
    subst h1; subst h2
    exact ⟨cur, hb, h3, h4⟩
theorem BalE.cell (h : BalE w B g cap l) (k : Nat) {x : Int × Int} (hk : l[k]? = some x) : w.cell? ⟨g, k * 2, none⟩ = some (.int .i64 x.1) ∧ w.cell? ⟨g, k * 2 + 1, none⟩ = some (.int .i64 x.2) := by
  have hl := (List.getElem?_eq_some_iff.1 hk).1
  have := instrCells_at l k x hk
  exact ⟨(h.cellAt (k * 2) (by omega)).trans this.1, (h.cellAt (k * 2 + 1) (by omega)).trans this.2⟩
theorem BalE.below {w' : World} (h : BalE w B g cap l) (hb : Below w.heap.size w w') : BalE w' B g cap l := OwnE.below (v := .slice (some ⟨g, 0, none⟩) l.length cap) h hb
theorem BalE.set2 (h : BalE w B g cap l) (k : Nat) {a c : Int} (b : Int) (hk : l[k]? = some (a, c)) : BalE (w.setCell ⟨g, k * 2 + 1, none⟩ (.int .i64 b)) B g cap (l.set k (a, b)) := by
  obtain ⟨h1, _⟩ := World.ownsRow.stored h (k * 2 + 1) (.int .i64 b)
  unfold BalE
  rw [instrCells_set2 l k a b c hk] at h1
  rw [List.length_set]
  exact h1
theorem BalE.set (h : BalE w B g cap l) (k : Nat) (a b : Int) (hk : k < l.length) : BalE ((w.setCell ⟨g, k * 2, none⟩ (.int .i64 a)).setCell ⟨g, k * 2 + 1, none⟩ (.int .i64 b)) B g cap (l.set k (a, b)) := by
  obtain ⟨h1, _⟩ := World.ownsRow.stored h (k * 2) (.int .i64 a)
  obtain ⟨h2, _⟩ := World.ownsRow.stored h1 (k * 2 + 1) (.int .i64 b)
  unfold BalE
  rw [instrCells_set l k a b hk] at h2
  rw [List.length_set]
  exact h2
theorem BalE.of_block {cur : Array Value} (hg : B ≤ g) (hb : w.heap[g]? = some (.cells cur 36)) (hc : cur.size = cap * 2) (hl : l.length ≤ cap) (hm : cap ≤ maxLen) (ht : cur.toList.take (l.length * 2) = instrCells l) : BalE w B g cap l :=
  ⟨instrCells_length l, .inr ⟨g, cap, cur, rfl, hg, hb, hl, hm, hc, ht⟩⟩
theorem BalE.sees (h : BalE w B g cap l) : SeesP w (some ⟨g, 0, none⟩) l :=
  ⟨g, 0, fun _ => rfl, fun j x hj => by rw [Nat.zero_add]; exact h.cell j hj⟩
theorem BalE.take (h : BalE w B g cap l) (k : Nat) (hk : k ≤ l.length) : BalE w B g cap (l.take k) := by
  obtain ⟨cur, hb, hs, ht⟩ := h.block
  refine BalE.of_block h.lt.2 hb hs (by have := h.caps.1; simp; omega) h.caps.2 ?_
  have hl : (l.take k).length = k := by rw [List.length_take]; omega
  rw [hl, show cur.toList.take (k * 2) = (cur.toList.take (l.length * 2)).take (k * 2) by rw [List.take_take, Nat.min_eq_left (by omega)], ht, instrCells_take]
theorem BalE.frozenAt (h : BalE w B g cap l) (j : Nat) : w.frozen? ⟨g, j, none⟩ = false := World.ownsRow.frozenAt h j
theorem OwnE.sees {ao : Option Addr} {n c : Nat} (h : OwnE w B (.slice ao n c) l) : SeesP w ao l := by
  rcases h.form with ⟨h1, rfl⟩ | ⟨g, cap, h1, h2⟩
  · exact SeesP.nil _ _
  · injection h1 with h3 _ _
    subst h3
    exact h2.sees
theorem OwnE.slice (h : OwnE w B v l) : ∃ ao c, v = .slice ao l.length c ∧ (ao = none → c = 0) ∧ l.length ≤ c ∧ c ≤ maxLen ∧ (l.length ≠ 0 → ∃ g, ao = some ⟨g, 0, none⟩ ∧ BalE w B g c l) := by
  rcases h.form with ⟨rfl, rfl⟩ | ⟨g, cap, rfl, hb⟩
  · exact ⟨none, 0, rfl, fun _ => rfl, Nat.le_refl _, by decide, fun h => absurd rfl h⟩
  · exact ⟨_, cap, rfl, fun h => (by cases h), hb.caps.1, hb.caps.2, fun _ => ⟨g, rfl, hb⟩⟩
end
/-- append of a slice of entries onto a row of the call's own -/
theorem wpList_appendE {w : World} {B : Nat} {v : Value} {xs : List (Int × Int)} (hown : OwnE w B v xs) (hB : B ≤ w.heap.size) (ao : Option Addr) (n c : Nat) (zs : List (Int × Int)) (hz : zs.length = n) (hs : SeesP w ao zs) (hn : ao = none → c = 0) (hb : (xs.length + zs.length) * 16 ≤ 140737488355328)
    {ops : Array Oper} {Q : Exit → Act → World → Prop} {a : Act} {rest : List Oper} {o : Oper} (hgd : o.guard = none) (s x : Operand) (hop : o.op = Op.call { callee := Callee.builtin Builtin.append, args := #[s, x], argTypes := #[24, 24] })
    (ev : a.eval s = v) (hx : a.eval x = .slice ao n c)
    (hK : ∀ v' w', OwnE w' B v' (xs ++ zs) → w.grownBy w' v.ownBlock → wpList Tryz.prog ops Q rest (a.put o.dst v') w') : wpList Tryz.prog ops Q (o :: rest) a w := by
  subst hz
  obtain ⟨i0, hi, hz0, hz1, hz2⟩ := info_parts infoE
  cases ao with
  | none =>
    obtain rfl := hn rfl
    have hz : zs = [] := by
      obtain ⟨b, o, h1, _⟩ := hs
      by_cases e : zs = []
      · exact e
      · exact absurd (h1 e) (by simp)
    subst hz
    refine wpList_append_own_none hgd s x _ hop B 36 i0 2 Tryz.underlying24 hi v _ _ ev hown hx (hK v w (by simpa using hown) (World.grownBy.refl w _))
  | some ad =>
    have hnews := hs.news
    exact wpList_append_own _ hgd s x 24 hop B 36 i0 (.agg #[.int .i64 0, .int .i64 0]) 2 16 Tryz.underlying24 hi hz0 hz1 hz2 rfl (by decide) v xs.length (instrCells xs) ev hown ad zs.length c (instrCells zs) hx (instrCells_length _) hnews instrCells_one (by unfold maxLen; omega) hb hB
      (fun v' w' h1 h2 _ => hK v' w' (by unfold OwnE; rw [List.length_append, instrCells_app]; exact h1) h2)
/-- .. as one step of a region that draws -/
theorem step_appendE {w : World} {B : Nat} {v : Value} {xs : List (Int × Int)} (hown : OwnE w B v xs) (hB : B ≤ w.heap.size) (ao : Option Addr) (m c : Nat) (ys : List (Int × Int)) (hl : ys.length = m) (hs : SeesP w ao ys) (hn : ao = none → c = 0) (hb : (xs.length + ys.length) * 16 ≤ 140737488355328)
    {ops : Array Oper} {o : Oper} {a : Act} {K : Act → World → Prop} {Q : Exit → Act → World → Prop} {E : Prop} (hg : o.guard = none) (s x : Operand) (hop : o.op = Op.call { callee := Callee.builtin Builtin.append, args := #[s, x], argTypes := #[24, 24] })
    (ev : a.eval s = v) (hx : a.eval x = .slice ao m c)
    (hK : ∀ v' w', OwnE w' B v' (xs ++ ys) → w.grownBy w' v.ownBlock → K (a.put o.dst v') w') :
    if Region.wanted o (yielded ops a.tmps) = true then Oper.wp Tryz.prog o a w K Q else E := by
  subst hl
  obtain ⟨i0, hi, hz0, hz1, hz2⟩ := info_parts infoE
  cases ao with
  | none =>
    obtain rfl := hn rfl
    have hz : ys = [] := by
      obtain ⟨b, o, h1, _⟩ := hs
      by_cases e : ys = []
      · exact e
      · exact absurd (h1 e) (by simp)
    subst hz
    have hw : Region.wanted o (yielded ops a.tmps) = true := by simp [Region.wanted, hg]
    rw [if_pos hw]
    have hrun := run_append_owned_none (P := Tryz.prog) (w := w) B 24 o.type 36 i0 2 Tryz.underlying24 hi v _ _ hown
    unfold Oper.wp
    simp [execOp, hop, resolve, invoke, builtin, ev, hx, hrun, Result.andThen]
    exact hK v w (by simpa using hown) (World.grownBy.refl w _)
  | some ad =>
    have hnews := hs.news
    exact step_append_own hg s x 24 hop B 36 i0 (.agg #[.int .i64 0, .int .i64 0]) 2 16 Tryz.underlying24 hi hz0 hz1 hz2 rfl (by decide) v xs.length (instrCells xs) ev hown ad ys.length c (instrCells ys) hx (instrCells_length _) hnews instrCells_one (by unfold maxLen; omega) hb hB
      (fun v' w' h1 h2 _ => hK v' w' (by unfold OwnE; rw [List.length_append, instrCells_app]; exact h1) h2)
theorem ownE_empty {W : World} {B g : Nat} (hB : B ≤ g) (h : W.heap[g]? = some (.cells #[] 36)) : OwnE W B (.slice (some ⟨g, 0, none⟩) 0 0) [] :=
  BalE.own (l := []) (BalE.of_block hB h rfl (by simp) (by decide) rfl)
set_option maxHeartbeats 2000000 in
/-- a clone of any slice that reads as a list -/
theorem CloneE_any (ao : Option Addr) (n c : Nat) (zs : List (Int × Int)) (w : World) (hl : zs.length = n) (hbig : zs.length * 16 ≤ 140737488355328) (_hcap : n ≤ c) (hs : SeesP w ao zs) (hn : ao = none → c = 0) :
    Calls Tryz.prog 32 #[.slice ao n c] w fun e w' => ∃ v', e = .returned v' ∧ OwnE w' w.heap.size v' zs ∧ Below w.heap.size w w' := by
  have q22 : ∀ (w : World) (a : Option Addr) (n c n' c' : Nat), (binOp .eql 24 (.slice a n c) (.slice none n' c')).run Tryz.prog w = .ok (.bool a.isNone) w := fun w a n c n' c' => Lib.run_eql_slice_nil w _ _ a n c n' c' Tryz.underlying24
  have u22 : ∀ w, Sem.run Tryz.prog (underlying 24) w = .ok (TypeDesc.slice 36) w := run_underlying Tryz.underlying24
  cases ao with
  | none =>
    obtain rfl := hn rfl
    obtain rfl : n = 0 := by omega
    have hz : zs = [] := List.eq_nil_of_length_eq_zero hl
    subst hz
    clear hs hn hl hbig
    go_enter Tryz.func32, Tryz.ntmps32
    go_wp2
    go_ret
    exact ⟨_, rfl, OwnE.nil _ _, Below.refl _ _⟩
  | some ad =>
    have A := Lib.hid hs
    have HL := Lib.hid hl
    have HBG := Lib.hid hbig
    clear hs hl hbig hn
    go_enter Tryz.func32, Tryz.ntmps32
    go_wp2_with (at_builtin; refine wpList_appendE (xs := []) (World.ownsRow_made w #[] 0 (Nat.le_refl _) (Nat.zero_le _) rfl) (by simp) (some ad) n c zs HL.out ((A.out.below ((Below.refl _ _).alloc (Nat.le_refl _) _))) (fun h => by cases h) (by simpa using HBG.out) rfl _ _ rfl rfl rfl ?_; intro v' w1 hown hgrow)
    go_wp2
    go_ret
    refine ⟨v', rfl, by simpa using hown, ?_⟩
    exact ((Below.refl _ w).alloc (Nat.le_refl _) _).grown hgrow (by simp) (by intro k hk; simp [Value.ownBlock] at hk; omega)
end Go.Proofs.YtochpdailleilaaGreatDoor
