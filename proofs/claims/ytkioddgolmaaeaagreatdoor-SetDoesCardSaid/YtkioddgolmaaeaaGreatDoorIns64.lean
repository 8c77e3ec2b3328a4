/-
  slices.Insert at []int64, of one element into a row of the call's own; slices.Delete of one element of such a row. Condition: at most 100000 elements.
-/
import Derived.Test.YtkioddgolmaaeaaGreatDoorRow64
import Derived.Laws.CopyOwn
import Derived.Lib.Overlaps
import Derived.Laws.Externs
import Derived.Lib.AppendZeros
import Derived.Lib.AppendZerosOnto
import Derived.Laws.NewBlocks
import Derived.Lib.RowBridge
import Derived.Shelf.Spec.SlicesInsertGrow
import Derived.Deep.RegionLaw
import Derived.Deep.DeepCutAuto
import Derived.Maps.AppendAt
namespace Go.Proofs.YtkioddgolmaaeaaGreatDoor
open Go.RowKit
set_option maxRecDepth 100000

def insL (zs : List Int) (i : Nat) (x : Int) : List Int := zs.take i ++ x :: zs.drop i
theorem insL_length (zs : List Int) (i : Nat) (x : Int) (h : i ≤ zs.length) : (insL zs i x).length = zs.length + 1 := by
  simp [insL]; omega
theorem overlaps_apart (w : World) (vb g off m vc lb cb : Nat) (hvb : vb ≠ g) (x : Value) (cur : Array Value) (hv : w.heap[vb]? = some (.cells #[x] 2)) (hg : w.heap[g]? = some (.cells cur 2)) (hz : cur.size ≠ 0) :
    (callFunc 42 #[.slice (some ⟨vb, 0, none⟩) m vc, .slice (some ⟨g, off, none⟩) lb cb]).run Tryz.prog w = .ok (.value (.bool false)) w := by
  rw [run_callFunc_extern Tryz.func42 (by kernel_rfl) (by kernel_rfl) (by kernel_rfl) (e := Extern.SlicesOverlaps.overlaps #[23, 23] #[4]) (by kernel_rfl),
    Lib.run_overlaps_apart w 23 4 2 Tryz.underlying23 1 Tryz.sizeOf2 ⟨vb, 0, none⟩ ⟨g, off, none⟩ m vc lb cb hvb 2 2 1 cur.size (by simp [World.shape?, hv]) (by simp [World.shape?, hg]) hz (by simp [World.frozen?, hv]) (by simp [World.frozen?, hv])]
  rfl
/-- where a new value lies: where the old one lay, or in new memory -/
def Near (v0 v' : Value) (w : World) : Prop := ∀ g, v'.ownBlock = some g → v0.ownBlock = some g ∨ w.heap.size ≤ g
/-- append of one number, and where what it gives lies -/
theorem wpList_append64at {w : World} {B : Nat} {v : Value} {xs : List Int} (hown : Own w B v xs) (hB : B ≤ w.heap.size) (nb : Nat) (z : Int) (hs : Sees w (some ⟨nb, 0, none⟩) [z]) (hb : (xs.length + 1) * 8 ≤ 140737488355328)
    {ops : Array Oper} {Q : Exit → Act → World → Prop} {a : Act} {rest : List Oper} {o : Oper} (hgd : o.guard = none) (s x : Operand) (hop : o.op = Op.call { callee := Callee.builtin Builtin.append, args := #[s, x], argTypes := #[23, 23] })
    (ev : a.eval s = v) (hx : a.eval x = .slice (some ⟨nb, 0, none⟩) 1 1)
    (hK : ∀ v' w', Own w' B v' (xs ++ [z]) → w.grownBy w' v.ownBlock → Near v v' w → wpList Tryz.prog ops Q rest (a.put o.dst v') w') : wpList Tryz.prog ops Q (o :: rest) a w := by
  obtain ⟨i0, hi, hz0, hz1, hz2⟩ := info_parts info64
  have hnews : ∀ j u, (i64s [z])[j]? = some u → w.cell? ((⟨nb, 0, none⟩ : Addr).add j) = some u := hs.news
  exact wpList_append_own_at _ hgd s x 23 hop B 2 i0 (.int .i64 0) 1 8 Tryz.underlying23 hi hz0 hz1 hz2 rfl (by decide) v xs.length (i64s xs) ev hown ⟨nb, 0, none⟩ 1 1 (i64s [z]) hx (by simp [i64s]) hnews i64s_one (by unfold maxLen; omega) hb hB
    (fun v' w' h1 h2 _ h4 => hK v' w' (by unfold Own; rw [List.length_append, i64s_app]; exact h1) h2 (fun g hg => by
      rcases h4 with h4 | h4
      · exact .inl (by rw [← h4]; exact hg)
      · rw [h4] at hg
        injection hg with hg
        exact .inr (Nat.le_of_eq hg)))
/-- at the end -/
theorem Insert64_end (v : Value) (ao : Option Addr) (n c : Nat) (B : Nat) (zs : List Int) (x : Int) (nb : Nat) (w : World) (hv : v = .slice ao n c) (hl : zs.length = n) (h : Own w B v zs) (hb : w.heap[nb]? = some (.cells #[.int .i64 x] 2)) (hB : B ≤ w.heap.size) (hlen : zs.length ≤ 100000) (_hc : n ≤ c) (_hc63 : c ≤ maxLen) :
    Calls Tryz.prog 32 #[.slice ao n c, .int .i64 n, .slice (some ⟨nb, 0, none⟩) 1 1] w fun e w' => ∃ v', e = .returned v' ∧ Own w' B v' (zs ++ [x]) ∧ w.grownBy w' v.ownBlock ∧ Near v v' w := by
  subst hv
  have HO := Lib.hid h
  have HL := Lib.hid hl
  have HS := Lib.hid (sees_one hb)
  have hlen' : n ≤ 100000 := by omega
  clear h hb hl
  go_enter Tryz.func32, Tryz.ntmps32
  go_wp2_with (at_builtin; refine wpList_append64at HO.out hB nb x HS.out (by omega) rfl _ _ rfl rfl rfl ?_; intro v' w1 hown hgrow hnear)
  all_goals
    go_ret
    exact ⟨v', rfl, hown, by first | exact hgrow | (cases ao <;> exact hgrow), by first | exact hnear | (cases ao <;> exact hnear)⟩
theorem take_splice {α : Type} (L cs : List α) (off k : Nat) (h : k ≤ off) (h2 : off ≤ L.length) : (splice L off cs).take k = L.take k := by
  unfold splice
  rw [List.take_append_of_le_length (by simp; omega), List.take_take, Nat.min_eq_left h]
theorem shift_list {cs : List Value} {L : List Value} {i : Nat} {x : Value} (hi : i < cs.length) (hL : L.take cs.length = cs) (hr : cs.length + 1 ≤ L.length) :
    (splice (splice L (i + 1) (cs.drop i)) i [x]).take (cs.length + 1) = cs.take i ++ x :: cs.drop i := by
  have hti : L.take i = cs.take i := by rw [← hL, List.take_take, Nat.min_eq_left (by omega)]
  have e1 : splice L (i + 1) (cs.drop i) = L.take (i + 1) ++ (cs.drop i ++ L.drop (cs.length + 1)) := by
    unfold splice
    rw [List.length_drop, show i + 1 + (cs.length - i) = cs.length + 1 by omega]
  have hl1 : (L.take (i + 1)).length = i + 1 := by rw [List.length_take]; omega
  have e2 : splice (L.take (i + 1) ++ (cs.drop i ++ L.drop (cs.length + 1))) i [x] = cs.take i ++ (x :: cs.drop i ++ L.drop (cs.length + 1)) := by
    unfold splice
    rw [List.take_append_of_le_length (by omega), List.take_take, Nat.min_eq_left (by omega), hti]
    simp only [List.length_cons, List.length_nil, Nat.zero_add]
    rw [List.drop_left' hl1]
    simp
  rw [e1, e2, ← List.append_assoc]
  exact List.take_left' (by simp; omega)
theorem splice_cons {α : Type} (L : List α) (o : Nat) (v : α) (r : List α) (h : o + (v :: r).length ≤ L.length) : splice (L.set o v) (o + 1) r = splice L o (v :: r) := by
  simp only [List.length_cons] at h
  unfold splice
  rw [List.drop_set_of_lt (by omega), List.take_succ_eq_append_getElem (by simp; omega), List.take_set_of_le (Nat.le_refl _), List.getElem_set_self, List.length_cons, show o + (r.length + 1) = o + 1 + r.length by omega]
  simp
theorem heap_setCells (g : Nat) (t : TypeId) : ∀ (vs : List Value) (o : Nat) (w : World) (L : List Value), w.heap[g]? = some (.cells L.toArray t (0, 0)) → o + vs.length ≤ L.length → (w.setCells g o vs).heap[g]? = some (.cells (splice L o vs).toArray t (0, 0))
  | [], o, w, L, h, _ => by simpa [splice, World.setCells] using h
  | v :: r, o, w, L, h, hl => by
    have h1 := heap_setCell_same w g o L.toArray t v h
    have e : L.toArray.setIfInBounds o v = (L.set o v).toArray := by simp
    rw [e] at h1
    have ih := heap_setCells g t r (o + 1) _ (L.set o v) h1 (by simp at hl ⊢; omega)
    rw [splice_cons L o v r hl] at ih
    exact ih
theorem heap_setCells_other (g k : Nat) (hk : k ≠ g) : ∀ (vs : List Value) (o : Nat) (w : World), (w.setCells g o vs).heap[k]? = w.heap[k]?
  | [], _, _ => rfl
  | v :: r, o, w => (heap_setCells_other g k hk r (o + 1) _).trans (heap_setCell_other w ⟨g, o, none⟩ k v hk)
theorem below_setCellsK {B g : Nat} {w0 : World} : ∀ (vs : List Value) (o : Nat) {w : World}, Below B w0 w → B ≤ g → Below B w0 (w.setCells g o vs)
  | [], _, _, h, _ => h
  | v :: r, o, _, h, hg => below_setCellsK r (o + 1) (h.setCell (p := ⟨g, o, none⟩) hg v) hg
theorem grownBy_setCellsK {w0 : World} {row : Option Nat} {g : Nat} : ∀ (vs : List Value) (o : Nat) {w : World}, w0.grownBy w row → (row = some g ∨ w0.heap.size ≤ g) → w0.grownBy (w.setCells g o vs) row
  | [], _, _, h, _ => h
  | v :: r, o, w, h, hg => grownBy_setCellsK r (o + 1) (w := w.setCell ⟨g, o, none⟩ v) ⟨h.os, h.tape, h.output, Nat.le_trans h.size (Nat.le_of_eq (World.size_setCell w _ v).symm), fun k hk hne => (heap_setCell_other w ⟨g, o, none⟩ k v (fun e => by
      have e : k = g := e
      subst e
      rcases hg with h1 | h1
      · exact hne h1.symm
      · omega)).trans (h.block k hk hne)⟩ hg
theorem grownBy_drewed1 {w0 w : World} {row : Option Nat} (h : w0.grownBy w row) : w0.grownBy w.drew row := ⟨h.os, h.tape, h.output, h.size, h.block⟩
theorem grownBy_reflK (w : World) (row : Option Nat) : w.grownBy w row := World.grownBy.refl w row
theorem below_drewed1 {B : Nat} {w w' : World} (h : Below B w w') : Below B w w'.drew := ⟨h.os, h.tape, h.output, h.size, h.block⟩
theorem size64 : (Tryz.prog.info? 2).map (·.size) = some 1 := by
  obtain ⟨i0, hi, _, h1, _⟩ := info_parts info64
  rw [hi]; simp [h1]
/-- a cell of a row that is known whole -/
theorem row_cells {w : World} {g : Nat} {cur : Array Value} {cs : List Value} {N : Nat} (hg : w.heap[g]? = some (.cells cur 2)) (hct : cur.toList.take N = cs) : ∀ j v, cs[j]? = some v → w.cell? ⟨g, j, none⟩ = some v := fun j v hj => by
  have e := cell_of_row w g j cur 2 (0, 0) hg
  rw [e, ← Array.getElem?_toList]
  rw [← hct, List.getElem?_take] at hj
  split at hj
  · exact hj
  · cases hj
set_option maxHeartbeats 4000000 in
/-- ahead of the end, where there is room -/
theorem Insert64_shift (B g cap : Nat) (zs : List Int) (i : Nat) (x : Int) (nb : Nat) (w : World) (h : Bal w B g cap zs) (hb : w.heap[nb]? = some (.cells #[.int .i64 x] 2)) (hne : nb ≠ g) (hi : i < zs.length) (hroom : zs.length + 1 ≤ cap) :
    Calls Tryz.prog 32 #[.slice (some ⟨g, 0, none⟩) zs.length cap, .int .i64 i, .slice (some ⟨nb, 0, none⟩) 1 1] w fun e w' => ∃ v', e = .returned v' ∧ Own w' B v' (insL zs i x) ∧ w.grownBy w' (some g) ∧ Near (.slice (some ⟨g, 0, none⟩) zs.length cap) v' w := by
  obtain ⟨N, hN⟩ : ∃ N, N = zs.length := ⟨_, rfl⟩
  have hcm := h.caps.2
  unfold maxLen at hcm
  obtain ⟨cur, hg, hcs, hct⟩ := h.block
  have hge := h.lt.2
  rw [← hN] at hi hroom hct
  rw [← hN]
  obtain ⟨cs, hcsd⟩ : ∃ cs, cs = i64s zs := ⟨_, rfl⟩
  rw [← hcsd] at hct
  have hcl : cs.length = N := by rw [hcsd, i64s_length, hN]
  have h1c : ∀ v ∈ cs, v.oneCell' = true := by rw [hcsd]; exact i64s_one
  have hdl : (cs.drop i).length = N - i := by rw [List.length_drop, hcl]
  have hov : ∀ lb cb, (callFunc 42 #[.slice (some ⟨nb, 0, none⟩) 1 1, .slice (some ⟨g, 0 + (i + 1), none⟩) lb cb]).run Tryz.prog w = .ok (.value (.bool false)) w := fun lb cb => overlaps_apart w nb g (0 + (i + 1)) 1 1 lb cb hne (.int .i64 x) cur hb hg (by omega)
  have hcell := row_cells hg hct
  have hsome : ∀ j, j < N + 1 → (w.cell? ⟨g, j, none⟩).isSome = true := fun j hj => by
    rw [cell_of_row w g j cur 2 (0, 0) hg, Array.getElem?_eq_getElem (by omega)]; rfl
  have hfz : ∀ j, w.frozen? ⟨g, j, none⟩ = false := fun j => frozen_of_row w g j _ _ hg
  have hcp1 : ∀ ty dc sc, (Builtin.copy_ #[23, 23] ty #[.slice (some ⟨g, 0 + (i + 1), none⟩) (N - i) dc, .slice (some ⟨g, 0 + i, none⟩) (N + 1 - i) sc]).run Tryz.prog w.drew = .ok (goInt (cs.drop i).length) (w.drew.setCells g (0 + (i + 1)) (cs.drop i)) := fun ty dc sc =>
    run_copy_cells w.drew _ _ ty 2 g (0 + (i + 1)) (N - i) dc ⟨g, 0 + i, none⟩ (N + 1 - i) sc (cs.drop i) Tryz.underlying23 size64 (by rw [hdl]; simp only [Nat.min_def]; split <;> omega)
      (fun j v hj => by rw [Addr.add_lit, Nat.add_assoc, Nat.zero_add]; exact hcell (i + j) v (by rwa [List.getElem?_drop] at hj))
      (fun j hj => by rw [Nat.zero_add]; exact hsome _ (by omega)) (fun j hj => hfz _) (fun v hv => h1c v (List.mem_of_mem_drop hv))
  obtain ⟨W1, hW1⟩ : ∃ W1, W1 = w.drew.setCells g (0 + (i + 1)) (cs.drop i) := ⟨_, rfl⟩
  have hgL : w.drew.heap[g]? = some (.cells cur.toList.toArray 2 (0, 0)) := by rw [Array.toArray_toList]; exact hg
  have hg1 := heap_setCells g 2 (cs.drop i) (0 + (i + 1)) w.drew cur.toList hgL (by rw [hdl]; simp; omega)
  rw [← hW1] at hg1
  have hn1 : W1.heap[nb]? = some (.cells #[.int .i64 x] 2) := by rw [hW1]; exact (heap_setCells_other g nb hne _ _ _).trans hb
  have hl1 : (splice cur.toList (0 + (i + 1)) (cs.drop i)).length = cap := by rw [length_splice _ _ _ (by rw [hdl]; simp; omega)]; simpa using hcs
  have hcp2 : ∀ (W : World), (∀ y, W.cell? y = W1.cell? y) → (∀ y, W.frozen? y = W1.frozen? y) → ∀ ty dc, (Builtin.copy_ #[23, 23] ty #[.slice (some ⟨g, 0 + i, none⟩) (N + 1 - i) dc, .slice (some ⟨nb, 0, none⟩) 1 1]).run Tryz.prog W = .ok (goInt [Value.int .i64 x].length) (W.setCells g (0 + i) [.int .i64 x]) := fun W hWc hWf ty dc =>
    run_copy_cells W _ _ ty 2 g (0 + i) (N + 1 - i) dc ⟨nb, 0, none⟩ 1 1 [.int .i64 x] Tryz.underlying23 size64 (by simp only [List.length_cons, List.length_nil, Nat.min_def]; split <;> omega)
      (fun j v hj => by
        match j, hj with
        | 0, hj => rw [Addr.add_lit, hWc]; exact (cell_of_row W1 nb 0 _ _ (0, 0) hn1).trans hj)
      (fun j hj => by
        have : j = 0 := by simpa using hj
        subst this
        rw [hWc, Nat.add_zero, Nat.zero_add, cell_of_row W1 g i _ _ (0, 0) hg1, List.getElem?_toArray, List.getElem?_eq_getElem (by omega)]; rfl)
      (fun j hj => by rw [hWf]; exact frozen_of_row W1 g _ _ _ hg1) (fun v hv => by simp at hv; subst hv; rfl)
  rw [← hW1] at hcp1
  have hg2 := heap_setCells g 2 [.int .i64 x] (0 + i) W1 _ hg1 (by rw [hl1]; simp only [List.length_cons, List.length_nil]; omega)
  have hfin : Bal (W1.setCells g (0 + i) [.int .i64 x]) B g cap (insL zs i x) := by
    refine Bal.of_block hge hg2 (by rw [List.size_toArray, length_splice _ _ _ (by rw [hl1]; simp only [List.length_cons, List.length_nil]; omega)]; exact hl1) (by rw [insL_length _ _ _ (by omega)]; omega) (by unfold maxLen; omega) ?_
    rw [insL_length _ _ _ (by omega), ← hN, ← hcl, Nat.zero_add, Nat.zero_add]
    refine (shift_list (cs := cs) (L := cur.toList) (i := i) (x := .int .i64 x) (by omega) (by rw [hcl]; exact hct) (by simp; omega)).trans ?_
    rw [hcsd]; simp [insL, i64s]
  have hbel : w.grownBy (W1.setCells g (0 + i) [.int .i64 x]) (some g) := by
    rw [hW1]
    exact grownBy_setCellsK _ _ (grownBy_setCellsK _ _ (grownBy_drewed1 (grownBy_reflK _ _)) (.inl rfl)) (.inl rfl)
  have HFIN := Lib.hid hfin
  have HBEL := Lib.hid hbel
  have HW := Lib.hid hW1
  have HLI := Lib.hid (insL_length zs i x (by omega))
  have HN := Lib.hid hN
  have hcl2 : (cs.drop i).length = N - i := hdl
  clear hg hcs hct hcell hsome hfz hW1 hgL hg1 hn1 hl1 hg2 hfin hbel h hb hcsd hcl h1c hdl hN
  simp only [Nat.zero_add] at hov hcp1 hcp2
  have hw1 : IntKind.i64.wrap ((i : Int) + 1) = (i : Int) + 1 := by rw [IntKind.wrap_i64]; omega
  have hw2 : IntKind.i64.wrap ((N : Int) + 1) = (N : Int) + 1 := by rw [IntKind.wrap_i64]; omega
  have hz2 : ¬ ((i : Int) = (N : Int)) := by omega
  have hz3 : ¬ ((cap : Int) < (N : Int) + 1) := by omega
  have hb1 : (0 : Int) ≤ (i : Int) + 1 := by omega
  have htn : ((i : Int) + 1).toNat = i + 1 := by omega
  have htn2 : ((N : Int) + 1).toNat = N + 1 := by omega
  have hb2 : ¬ (cap = i + 1) := by omega
  have hb3 : (i : Int) ≤ (N : Int) + 1 := by omega
  have hb4 : ¬ (cap = i) := by omega
  have hin : i ≤ N := by omega
  go_enter Tryz.func32, Tryz.ntmps32
  go_wp2_with (simp only [hov])
  go_region_law (refine step_copy_runI rfl _ _ 23 23 rfl _ _ (by simp [Act.eval, Act.put]) (by simp [Act.eval, Act.put]) (hcp1 _ _ _) ?_)
  go_wp2_with (at_builtin; refine wpList_copy_runI _ rfl _ _ 23 23 rfl _ _ rfl rfl (hcp2 _ (fun _ => rfl) (fun _ => rfl) _ _) ?_)
  go_ret
  refine ⟨_, rfl, ?_, ?_, fun g' hg' => .inl hg'⟩
  · have := HFIN.out
    unfold Bal at this
    rw [HLI.out, ← HN.out] at this
    unfold Own
    rw [HLI.out, ← HN.out]
    rw [Nat.zero_add] at this
    exact this
  · have := HBEL.out
    rw [Nat.zero_add] at this
    exact this

theorem splice_app {α : Type} (A B C : List α) (n : Nat) (h : A.length = n) : splice (A ++ B) n C = A ++ (C ++ B.drop C.length) := by
  subst h
  unfold splice
  rw [List.take_left, List.drop_append, List.drop_eq_nil_of_le (by omega), List.nil_append, show A.length + C.length - A.length = C.length by omega]
theorem grow_list {cs R : List Value} {i : Nat} {x : Value} (hi : i < cs.length) (_hR : cs.length + 1 ≤ R.length) (ht : R.take i = cs.take i) :
    (splice (splice R i [x]) (i + 1) (cs.drop i)).take (cs.length + 1) = cs.take i ++ x :: cs.drop i := by
  have e1 : splice R i [x] = cs.take i ++ (x :: R.drop (i + 1)) := by
    unfold splice
    rw [ht]; simp
  have hl : (cs.take i).length = i := by rw [List.length_take]; omega
  have e3 : cs.take i ++ (x :: R.drop (i + 1)) = (cs.take i ++ [x]) ++ R.drop (i + 1) := by simp
  have e2 : splice (cs.take i ++ (x :: R.drop (i + 1))) (i + 1) (cs.drop i) = (cs.take i ++ [x]) ++ (cs.drop i ++ (R.drop (i + 1)).drop (cs.drop i).length) := by
    rw [e3]
    exact splice_app _ _ _ _ (by simp; omega)
  rw [e1, e2, ← List.append_assoc]
  rw [List.take_left' (by simp; omega)]
  simp
set_option maxHeartbeats 4000000 in
/-- ahead of the end, where there is no room -/
theorem Insert64_grow (B g cap : Nat) (zs : List Int) (i : Nat) (x : Int) (nb : Nat) (w : World) (h : Bal w B g cap zs) (hb : w.heap[nb]? = some (.cells #[.int .i64 x] 2)) (hBw : B ≤ w.heap.size) (hi : i < zs.length) (hroom : cap < zs.length + 1) (hlen : zs.length ≤ 100000) :
    Calls Tryz.prog 32 #[.slice (some ⟨g, 0, none⟩) zs.length cap, .int .i64 i, .slice (some ⟨nb, 0, none⟩) 1 1] w fun e w' => ∃ v', e = .returned v' ∧ Own w' B v' (insL zs i x) ∧ w.grownBy w' (some g) ∧ Near (.slice (some ⟨g, 0, none⟩) zs.length cap) v' w := by
  obtain ⟨N, hN⟩ : ∃ N, N = zs.length := ⟨_, rfl⟩
  obtain ⟨cur, hg, hcs, hct⟩ := h.block
  have hcp := h.caps
  rw [← hN] at hi hroom hct hcp hlen
  obtain rfl : cap = N := by omega
  rw [← hN]
  obtain ⟨cs, hcsd⟩ : ∃ cs, cs = i64s zs := ⟨_, rfl⟩
  rw [← hcsd] at hct
  have hcl : cs.length = cap := by rw [hcsd, i64s_length, hN]
  have h1c : ∀ v ∈ cs, v.oneCell' = true := by rw [hcsd]; exact i64s_one
  have hdl : (cs.drop i).length = cap - i := by rw [List.length_drop, hcl]
  have hcell := row_cells hg hct
  have hgw := h.lt.1
  have hnw := lt_of_block hb
  obtain ⟨i0, hi0, hz0, hzs, hzb⟩ := info_parts info64
  have hkk : (cap : Int) + 1 - (i : Int) = ((cap + 1 - i : Nat) : Int) := by omega
  have hik : i + (cap + 1 - i) = cap + 1 := by omega
  have hold : (Builtin.firstCells i0.size i (.slice (some ⟨g, 0, none⟩) i cap)).run Tryz.prog w.drew = .ok (cs.take i).toArray w.drew := by
    rw [hzs]
    exact run_firstCells_some w.drew 1 i ⟨g, 0, none⟩ i cap (cs.take i) (by rw [List.length_take]; omega) (fun j v hj => by
      rw [Addr.add_lit, Nat.zero_add]
      rw [List.getElem?_take] at hj
      split at hj
      · exact hcell j v hj
      · cases hj)
  have hrz : ∀ ty, (Builtin.append_ #[23, 3] ty #[.slice (some ⟨g, 0, none⟩) i cap, .int .i64 ((cap : Int) + 1 - (i : Int))]).run Tryz.prog w =
      .ok (.slice (some ⟨w.heap.size, 0, none⟩) (cap + 1) (grownCap w (cap + 1) cap 2)) (w.drew.alloc (.cells ((cs.take i).toArray ++ Builtin.zeroCells (Value.int .i64 0).cells (cap + 1 - i) ++ Builtin.zeroCells (Value.int .i64 0).cells (grownCap w (cap + 1) cap 2 - (cap + 1))) 2)) := fun ty => by
    have h := Lib.run_append_grow_zeros w 23 3 ty 2 i0 _ .i64 .i64 Tryz.underlying23 Tryz.underlying3 hi0 hz0 (some ⟨g, 0, none⟩) i cap (cs.take i) hold (cap + 1 - i) (by omega) (by omega) (by omega) (by omega) (by rw [hzb]; omega) (by rw [hzb, hik]; exact growslice_fits hroom (by omega))
    rw [hik] at h
    rw [hkk]
    exact h
  obtain ⟨G, hG⟩ : ∃ G, G = grownCap w (cap + 1) cap 2 := ⟨_, rfl⟩
  obtain ⟨ROW, hROW⟩ : ∃ ROW : Array Value, ROW = (cs.take i).toArray ++ Builtin.zeroCells (Value.int .i64 0).cells (cap + 1 - i) ++ Builtin.zeroCells (Value.int .i64 0).cells (G - (cap + 1)) := ⟨_, rfl⟩
  rw [← hG] at hrz
  rw [← hROW] at hrz
  have hGn : cap + 1 ≤ G := by rw [hG]; exact grownCap_ge w _ _ _
  have hG63 : G ≤ 9223372036854775807 := by
    have := grownCap_le_maxLen w (cap + 1) cap 2 (by unfold maxLen; omega)
    rw [← hG] at this
    unfold maxLen at this
    omega
  have hRs : ROW.size = G := by
    rw [hROW]
    simp [Builtin.zeroCells, Value.cells]
    omega
  have hRt : ROW.toList.take i = cs.take i := by
    rw [hROW, Array.toList_append, Array.toList_append, List.append_assoc]
    exact List.take_left' (by simp; omega)
  obtain ⟨W1, hW1⟩ : ∃ W1, W1 = w.drew.alloc (.cells ROW 2) := ⟨_, rfl⟩
  rw [← hW1] at hrz
  have hH : W1.heap[w.heap.size]? = some (.cells ROW 2) := by rw [hW1]; exact heap_new _ _ _ rfl
  have hOb : W1.heap[g]? = some (.cells cur 2) := by rw [hW1]; exact (Below.heap_alloc _ _ _ (by simpa using hgw)).trans hg
  have hOn : W1.heap[nb]? = some (.cells #[.int .i64 x] 2) := by rw [hW1]; exact (Below.heap_alloc _ _ _ (by simpa using hnw)).trans hb
  have hcpA : ∀ (W : World), (∀ x, W.cell? x = W1.cell? x) → (∀ x, W.frozen? x = W1.frozen? x) → ∀ ty dc, (Builtin.copy_ #[23, 23] ty #[.slice (some ⟨w.heap.size, i, none⟩) (cap + 1 - i) dc, .slice (some ⟨nb, 0, none⟩) 1 1]).run Tryz.prog W = .ok (goInt [Value.int .i64 x].length) (W.setCells w.heap.size i [.int .i64 x]) := fun W hWc hWf ty dc =>
    run_copy_cells W _ _ ty 2 w.heap.size i (cap + 1 - i) dc ⟨nb, 0, none⟩ 1 1 [.int .i64 x] Tryz.underlying23 size64 (by simp only [List.length_cons, List.length_nil, Nat.min_def]; split <;> omega)
      (fun j v hj => by
        match j, hj with
        | 0, hj => rw [Addr.add_lit, hWc]; exact (cell_of_row W1 nb 0 _ _ (0, 0) hOn).trans hj)
      (fun j hj => by
        have : j = 0 := by simpa using hj
        subst this
        rw [hWc, Nat.add_zero, cell_of_row W1 w.heap.size i _ _ (0, 0) hH, Array.getElem?_eq_getElem (by omega)]; rfl)
      (fun j hj => by rw [hWf]; exact frozen_of_row W1 _ _ _ _ hH) (fun v hv => by simp at hv; subst hv; rfl)
  have hHL : W1.heap[w.heap.size]? = some (.cells ROW.toList.toArray 2 (0, 0)) := by rw [Array.toArray_toList]; exact hH
  have hH2 := heap_setCells w.heap.size 2 [.int .i64 x] i W1 ROW.toList hHL (by simp; omega)
  have hl2 : (splice ROW.toList i [.int .i64 x]).length = G := by rw [length_splice _ _ _ (by simp; omega)]; simpa using hRs
  obtain ⟨W2, hW2⟩ : ∃ W2, W2 = W1.setCells w.heap.size i [.int .i64 x] := ⟨_, rfl⟩
  rw [← hW2] at hH2
  have hgb : W2.heap[g]? = some (.cells cur 2) := by rw [hW2]; exact (heap_setCells_other _ g (by omega) _ _ _).trans hOb
  have hcell2 := row_cells hgb hct
  have hcpB : ∀ (W : World), (∀ x, W.cell? x = W2.cell? x) → (∀ x, W.frozen? x = W2.frozen? x) → ∀ ty dc sc, (Builtin.copy_ #[23, 23] ty #[.slice (some ⟨w.heap.size, i + 1, none⟩) (cap - i) dc, .slice (some ⟨g, i, none⟩) (cap - i) sc]).run Tryz.prog W = .ok (goInt (cs.drop i).length) (W.setCells w.heap.size (i + 1) (cs.drop i)) := fun W hWc hWf ty dc sc =>
    run_copy_cells W _ _ ty 2 w.heap.size (i + 1) (cap - i) dc ⟨g, i, none⟩ (cap - i) sc (cs.drop i) Tryz.underlying23 size64 (by rw [hdl]; simp only [Nat.min_def]; split <;> omega)
      (fun j v hj => by rw [Addr.add_lit, hWc]; exact hcell2 (i + j) v (by rwa [List.getElem?_drop] at hj))
      (fun j hj => by rw [hWc, cell_of_row W2 w.heap.size (i + 1 + j) _ _ (0, 0) hH2, List.getElem?_toArray, List.getElem?_eq_getElem (by omega)]; rfl)
      (fun j hj => by rw [hWf]; exact frozen_of_row W2 _ _ _ _ hH2) (fun v hv => h1c v (List.mem_of_mem_drop hv))
  have hH3 := heap_setCells w.heap.size 2 (cs.drop i) (i + 1) W2 _ hH2 (by rw [hl2, hdl]; omega)
  have hfin : Bal (W2.setCells w.heap.size (i + 1) (cs.drop i)) B w.heap.size G (insL zs i x) := by
    refine Bal.of_block hBw hH3 (by rw [List.size_toArray, length_splice _ _ _ (by rw [hl2, hdl]; omega)]; exact hl2) (by rw [insL_length _ _ _ (by omega)]; omega) (by unfold maxLen; omega) ?_
    rw [insL_length _ _ _ (by omega), ← hN, ← hcl]
    refine (grow_list (cs := cs) (R := ROW.toList) (i := i) (x := .int .i64 x) (by omega) (by simp; omega) hRt).trans ?_
    rw [hcsd]; simp [insL, i64s]
  have hbel : w.grownBy (W2.setCells w.heap.size (i + 1) (cs.drop i)) (some g) := by
    rw [hW2, hW1]
    exact grownBy_setCellsK _ _ (grownBy_setCellsK _ _ (by have h := fun o row => World.grownBy_alloc w.drew o row; exact ⟨(h _ (some g)).os, (h _ (some g)).tape, (h _ (some g)).output, (h _ (some g)).size, (h _ (some g)).block⟩) (.inr (Nat.le_refl _))) (.inr (Nat.le_refl _))
  have HFIN := Lib.hid hfin
  have HBEL := Lib.hid hbel
  have HLI := Lib.hid (insL_length zs i x (by omega))
  have HN := Lib.hid hN
  have hE1 : ∀ x, ((w.alloc (.cells ROW 2)).drew).cell? x = W1.cell? x := fun x => by rw [hW1]; rfl
  have hE2 : ∀ x, ((w.alloc (.cells ROW 2)).drew).frozen? x = W1.frozen? x := fun x => by rw [hW1]; rfl
  have hF1 : ∀ x', ((W1.setCells w.heap.size i [.int .i64 x]).drew).cell? x' = W2.cell? x' := fun x' => by rw [hW2]; rfl
  have hF2 : ∀ x', ((W1.setCells w.heap.size i [.int .i64 x]).drew).frozen? x' = W2.frozen? x' := fun x' => by rw [hW2]; rfl
  have HW2 := Lib.hid hW2
  clear hW2 hG hROW hRs hRt hW1 hH hOb hOn hHL hH2 hl2 hgb hcell2 hH3 hfin hbel hkk hik hold hcell h hb hg hct hcsd hcl h1c hcp hi0 hz0 hzs hzb hN hcs
  have hw1 : IntKind.i64.wrap ((i : Int) + 1) = (i : Int) + 1 := by rw [IntKind.wrap_i64]; omega
  have hb1 : (0 : Int) ≤ (i : Int) + 1 := by omega
  have hz2 : ¬ ((i : Int) = (cap : Int)) := by omega
  have hz3 : ((cap : Int) < (cap : Int) + 1) := by omega
  have htn : ((i : Int) + 1).toNat = i + 1 := by omega
  have hb2 : ¬ (cap = i) := by omega
  have hb4 : ¬ (G = i) := by omega
  have hb5 : ¬ (G = i + 1) := by omega
  have hin : i ≤ cap := by omega
  have hbN : (i : Int) ≤ (cap : Int) := by omega
  have hbN2 : (i : Int) ≤ (cap : Int) + 1 := by omega
  go_enter Tryz.func32, Tryz.ntmps32
  go_wp2_with (first
    | (at_builtin; refine Lib.wpList_append_run _ rfl _ _ _ _ rfl _ _ rfl rfl _ _ (hrz _) ?_)
    | (at_builtin; refine wpList_copy_runI _ rfl _ _ 23 23 rfl _ _ rfl rfl (hcpA _ hE1 hE2 _ _) ?_))
  go_region_law (refine step_copy_runI rfl _ _ 23 23 rfl _ _ (by simp [Act.eval, Act.put]) (by simp [Act.eval, Act.put]) (hcpB _ hF1 hF2 _ _ _) ?_)
  go_wp2
  go_ret
  refine ⟨_, rfl, ?_, ?_, fun g' hg' => .inr (by simp [Value.ownBlock] at hg'; omega)⟩
  · have := HFIN.out
    unfold Bal at this
    rw [HLI.out, ← HN.out, HW2.out] at this
    unfold Own
    rw [HLI.out, ← HN.out, ← drew_setCells]
    exact this
  · have := HBEL.out
    rw [HW2.out] at this
    rw [← drew_setCells]
    exact grownBy_drewed1 this
/-- slices.Insert of one element, at any place of a row of the call's own -/
theorem Insert64_K (B : Nat) (ao : Option Addr) (n c : Nat) (zs : List Int) (i : Nat) (x : Int) (nb : Nat) (w : World) (hl : zs.length = n) (h : Own w B (.slice ao n c) zs) (hb : w.heap[nb]? = some (.cells #[.int .i64 x] 2)) (hne : ∀ a, ao = some a → nb ≠ a.block) (hB : B ≤ w.heap.size) (hi : i ≤ n) (hlen : n ≤ 100000) :
    Calls Tryz.prog 32 #[.slice ao n c, .int .i64 i, .slice (some ⟨nb, 0, none⟩) 1 1] w fun e w' => ∃ v', e = .returned v' ∧ Own w' B v' (insL zs i x) ∧ w.grownBy w' (Value.slice ao n c).ownBlock ∧ Near (.slice ao n c) v' w := by
  by_cases hin : i = n
  · subst hin
    have hc : i ≤ c ∧ c ≤ maxLen := by
      rcases h.form with ⟨h1, h2⟩ | ⟨g, cap, h1, h2⟩
      · injection h1 with _ h3 h4
        subst h3; subst h4
        exact ⟨Nat.le_refl _, by decide⟩
      · injection h1 with _ _ h4
        subst h4
        have := h2.caps
        exact ⟨by omega, this.2⟩
    refine (Insert64_end (.slice ao i c) ao i c B zs x nb w rfl hl h hb hB (by omega) hc.1 hc.2).mono ?_
    rintro e w' ⟨v', h1, h2, h3, h4⟩
    refine ⟨v', h1, ?_, h3, h4⟩
    rw [insL, ← hl, List.take_length, List.drop_length]
    exact h2
  · rcases h.form with ⟨h1, h2⟩ | ⟨g, cap, h1, h2⟩
    · subst h2
      simp at hl
      omega
    · injection h1 with h3 h4 h5
      subst h3; subst h4; subst h5
      by_cases hr : zs.length + 1 ≤ c
      · exact Insert64_shift B g c zs i x nb w h2 hb (hne _ rfl) (by omega) hr
      · exact Insert64_grow B g c zs i x nb w h2 hb hB (by omega) (by omega) (by omega)
theorem Insert64_any (B : Nat) (ao : Option Addr) (n c : Nat) (zs : List Int) (i : Nat) (x : Int) (nb : Nat) (w : World) (hl : zs.length = n) (h : Own w B (.slice ao n c) zs) (hb : w.heap[nb]? = some (.cells #[.int .i64 x] 2)) (hne : ∀ a, ao = some a → nb ≠ a.block) (hB : B ≤ w.heap.size) (hi : i ≤ n) (hlen : n ≤ 100000) :
    Calls Tryz.prog 32 #[.slice ao n c, .int .i64 i, .slice (some ⟨nb, 0, none⟩) 1 1] w fun e w' => ∃ v', e = .returned v' ∧ Own w' B v' (insL zs i x) ∧ Below B w w' :=
  (Insert64_K B ao n c zs i x nb w hl h hb hne hB hi hlen).mono fun _ _ ⟨v', h1, h2, h3, _⟩ => ⟨v', h1, h2, (Below.refl _ _).grown h3 hB (fun _ hk => own_ge h hk)⟩
theorem setList (zs : List Int) : ∀ (ys : List Int) (k : Nat), k + ys.length ≤ zs.length → ∀ (w : World) (B g cap : Nat), Bal w B g cap zs → Bal (w.setCells g k (i64s ys)) B g cap (zs.take k ++ (ys ++ zs.drop (k + ys.length)))
  | [], k, h, w, B, g, cap, hb => by simpa [i64s, World.setCells] using hb
  | y :: r, k, h, w, B, g, cap, hb => by
    have h1 := hb.set k y
    have hk : k < zs.length := by simp at h; omega
    have ih := setList (zs.set k y) r (k + 1) (by simp at h ⊢; omega) _ B g cap h1
    have e : (zs.set k y).take (k + 1) ++ (r ++ (zs.set k y).drop (k + 1 + r.length)) = zs.take k ++ ((y :: r) ++ zs.drop (k + (y :: r).length)) := by
      rw [List.drop_set_of_lt (by omega), List.take_succ_eq_append_getElem (by simpa using hk), List.take_set_of_le (Nat.le_refl _), List.getElem_set_self, List.length_cons, show k + (r.length + 1) = k + 1 + r.length by omega]
      simp
    rw [e] at ih
    exact ih
/-- slices.Delete of one element -/
theorem Delete64_K (B g cap : Nat) (zs : List Int) (i : Nat) (w : World) (h : Bal w B g cap zs) (hi : i < zs.length) :
    Calls Tryz.prog 33 #[.slice (some ⟨g, 0, none⟩) zs.length cap, .int .i64 i, .int .i64 (i + 1 : Nat)] w fun e w' => e = .returned (.slice (some ⟨g, 0, none⟩) (zs.length - 1) cap) ∧ Bal w' B g cap (zs.take i ++ zs.drop (i + 1)) ∧ w.grownBy w' (some g) := by
  have hH : Sort.Holds (Value.int .i64) w g 0 zs.toArray := fun j hj => by
    have hj' : j < zs.length := by simpa using hj
    have e : zs.toArray[j]! = zs[j] := by simp [hj']
    rw [Nat.zero_add, e]
    exact ⟨h.cell j (List.getElem?_eq_getElem hj'), h.frozenAt j⟩
  have hcp := h.caps
  refine (Tryz.slices_Delete_int g 0 cap i (i + 1) zs w hH hcp.1 (by have := hcp.2; unfold maxLen at this; exact this) (by omega) (by omega)).mono ?_
  rintro e w' ⟨rfl, q, rfl⟩
  refine ⟨by rw [show i + 1 - i = 1 by omega], ?_, ?_⟩
  · rw [Lib.putRow_eq_setCells (Value.int .i64) w g 0 zs.toArray _ q hH (by simp; omega)]
    have h2 : Bal (w.drewN q) B g cap zs := h
    have h3 := setList zs (zs.take i ++ zs.drop (i + 1) ++ List.replicate (i + 1 - i) (0 : Int)) 0 (by simp; omega) _ B g cap h2
    have h4 := h3.take (zs.length - 1) (by simp; omega)
    have e : (zs.take 0 ++ ((zs.take i ++ zs.drop (i + 1) ++ List.replicate (i + 1 - i) (0 : Int)) ++ zs.drop (0 + (zs.take i ++ zs.drop (i + 1) ++ List.replicate (i + 1 - i) (0 : Int)).length))).take (zs.length - 1) = zs.take i ++ zs.drop (i + 1) := by
      rw [List.take_zero, List.nil_append, List.append_assoc, List.append_assoc]
      rw [← List.append_assoc]
      exact List.take_left' (by simp; omega)
    rw [e] at h4
    exact h4
  · rw [Lib.putRow_eq_setCells (Value.int .i64) w g 0 zs.toArray _ q hH (by simp; omega)]
    exact grownBy_setCellsK _ 0 (show w.grownBy (w.drewN q) (some g) from ⟨rfl, rfl, rfl, Nat.le_refl _, fun _ _ _ => rfl⟩) (.inl rfl)
theorem Delete64_any (B g cap : Nat) (zs : List Int) (i : Nat) (w : World) (h : Bal w B g cap zs) (hi : i < zs.length) :
    Calls Tryz.prog 33 #[.slice (some ⟨g, 0, none⟩) zs.length cap, .int .i64 i, .int .i64 (i + 1 : Nat)] w fun e w' => e = .returned (.slice (some ⟨g, 0, none⟩) (zs.length - 1) cap) ∧ Bal w' B g cap (zs.take i ++ zs.drop (i + 1)) ∧ Below B w w' :=
  (Delete64_K B g cap zs i w h hi).mono fun _ _ ⟨h1, h2, h3⟩ => ⟨h1, h2, (Below.refl _ _).grown h3 (by have := h.lt; omega) (fun k hk => by cases hk; exact h.lt.2)⟩
end Go.Proofs.YtkioddgolmaaeaaGreatDoor
