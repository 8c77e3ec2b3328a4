/-
  slices.Insert at []Entry, of one entry into a row of the call's own; slices.Delete of one entry of such a row. Condition: at most 100000 entries.
-/
import Derived.Test.YtochpdailleilaaGreatDoorRowE
import Derived.Laws.CopyOwn
import Derived.Lib.Overlaps
import Derived.Laws.Externs
import Derived.Lib.AppendZeros
import Derived.Lib.AppendZerosOnto
import Derived.Laws.NewBlocks
import Derived.Lib.RowBridge
import Derived.Shelf.Spec.SlicesInsertGrow
import Derived.Deep.RegionLaw
import Derived.Deep.DeepCutAuto
namespace Go.Proofs.YtochpdailleilaaGreatDoor
open Go.RowKit
set_option maxRecDepth 100000

def insE (l : List (Int × Int)) (i : Nat) (x : Int × Int) : List (Int × Int) := l.take i ++ x :: l.drop i
theorem insE_length (l : List (Int × Int)) (i : Nat) (x : Int × Int) (h : i ≤ l.length) : (insE l i x).length = l.length + 1 := by
  simp [insE]; omega
theorem sizeE : (Tryz.prog.info? 36).map (·.size) = some 2 := by
  obtain ⟨i0, hi, _, h1, _⟩ := info_parts infoE
  rw [hi]; simp [h1]
theorem sizeOfE (w : World) : (Go.sizeOf 36).run Tryz.prog w = .ok 2 w := by kernel_rfl
/-- ALL IS READ BEFORE ANYTHING IS WRITTEN, elements of two cells. -/
theorem run_copy_cells2 {P : Program} (w : World) (dT sT ty elem : TypeId) (b o dLen dCap : Nat) (a : Addr) (sLen sCap n : Nat) (cs : List Value)
    (hu : P.underlying dT = some (.slice elem)) (hs : (P.info? elem).map (·.size) = some 2) (hn : n = Nat.min sLen dLen) (hcl : cs.length = n * 2)
    (hsrc : ∀ j v, cs[j]? = some v → w.cell? (a.add j) = some v) (hc : ∀ j, j < cs.length → (w.cell? ⟨b, o + j, none⟩).isSome = true) (hf : ∀ j, j < cs.length → w.frozen? ⟨b, o + j, none⟩ = false) (h1 : ∀ v ∈ cs, v.oneCell' = true) :
    (Builtin.copy_ #[dT, sT] ty #[.slice (some ⟨b, o, none⟩) dLen dCap, .slice (some a) sLen sCap]).run P w = .ok (goInt n) (w.setCells b o cs) := by
  have hl := run_loadCells_list (P := P) w a cs hsrc
  have hst := run_storeCells_cells (P := P) b o cs 0 w (by simpa using hc) (by simpa using hf) h1
  rw [hcl] at hl
  cases hq : P.info? elem with
  | none => simp [hq] at hs
  | some i =>
    have hi : i.size = 2 := by simpa [hq] using hs
    simp [Builtin.copy_, run_underlying hu, Builtin.lenOf, Builtin.firstCells, sizeOf, typeInfo, hq, hi, ← hn, hl, hst]
theorem overlapsE_apart (w : World) (vb g off m vc lb cb : Nat) (hvb : vb ≠ g) (x y : Value) (cur : Array Value) (hv : w.heap[vb]? = some (.cells #[x, y] 36)) (hg : w.heap[g]? = some (.cells cur 36)) (hz : cur.size ≠ 0) :
    (callFunc 47 #[.slice (some ⟨vb, 0, none⟩) m vc, .slice (some ⟨g, off, none⟩) lb cb]).run Tryz.prog w = .ok (.value (.bool false)) w := by
  rw [run_callFunc_extern Tryz.func47 (by kernel_rfl) (by kernel_rfl) (by kernel_rfl) (e := Extern.SlicesOverlaps.overlaps #[24, 24] #[4]) (by kernel_rfl),
    Lib.run_overlaps_apart w 24 4 36 Tryz.underlying24 2 sizeOfE ⟨vb, 0, none⟩ ⟨g, off, none⟩ m vc lb cb hvb 36 36 2 cur.size (by simp [World.shape?, hv]) (by simp [World.shape?, hg]) hz (by simp [World.frozen?, hv]) (by simp [World.frozen?, hv])]
  rfl
/-- where a new value lies: where the old one lay, or in new memory -/
def Near (v0 v' : Value) (w : World) : Prop := ∀ g, v'.ownBlock = some g → v0.ownBlock = some g ∨ w.heap.size ≤ g
/-- append of one entry, and where what it gives lies -/
theorem wpList_appendEat {w : World} {B : Nat} {v : Value} {xs : List (Int × Int)} (hown : OwnE w B v xs) (hB : B ≤ w.heap.size) (nb : Nat) (z : Int × Int) (hs : SeesP w (some ⟨nb, 0, none⟩) [z]) (hb : (xs.length + 1) * 16 ≤ 140737488355328)
    {ops : Array Oper} {Q : Exit → Act → World → Prop} {a : Act} {rest : List Oper} {o : Oper} (hgd : o.guard = none) (s x : Operand) (hop : o.op = Op.call { callee := Callee.builtin Builtin.append, args := #[s, x], argTypes := #[24, 24] })
    (ev : a.eval s = v) (hx : a.eval x = .slice (some ⟨nb, 0, none⟩) 1 1)
    (hK : ∀ v' w', OwnE w' B v' (xs ++ [z]) → w.grownBy w' v.ownBlock → Near v v' w → wpList Tryz.prog ops Q rest (a.put o.dst v') w') : wpList Tryz.prog ops Q (o :: rest) a w := by
  obtain ⟨i0, hi, hz0, hz1, hz2⟩ := info_parts infoE
  have hnews := hs.news
  exact wpList_append_own_at _ hgd s x 24 hop B 36 i0 (.agg #[.int .i64 0, .int .i64 0]) 2 16 Tryz.underlying24 hi hz0 hz1 hz2 rfl (by decide) v xs.length (instrCells xs) ev hown ⟨nb, 0, none⟩ 1 1 (instrCells [z]) hx (instrCells_length _) hnews instrCells_one (by unfold maxLen; omega) hb hB
    (fun v' w' h1 h2 _ h4 => hK v' w' (by unfold OwnE; rw [List.length_append, instrCells_app]; exact h1) h2 (fun g hg => by
      rcases h4 with h4 | h4
      · exact .inl (by rw [← h4]; exact hg)
      · rw [h4] at hg
        injection hg with hg
        exact .inr (Nat.le_of_eq hg)))
/-- at the end -/
theorem InsertE_end (v : Value) (ao : Option Addr) (n c : Nat) (B : Nat) (zs : List (Int × Int)) (x : Int × Int) (nb : Nat) (w : World) (hv : v = .slice ao n c) (hl : zs.length = n) (h : OwnE w B v zs) (hb : w.heap[nb]? = some (.cells #[.int .i64 x.1, .int .i64 x.2] 36)) (hB : B ≤ w.heap.size) (hlen : zs.length ≤ 100000) (_hc : n ≤ c) (_hc63 : c ≤ maxLen) :
    Calls Tryz.prog 36 #[.slice ao n c, .int .i64 n, .slice (some ⟨nb, 0, none⟩) 1 1] w fun e w' => ∃ v', e = .returned v' ∧ OwnE w' B v' (zs ++ [x]) ∧ w.grownBy w' v.ownBlock ∧ Near v v' w := by
  subst hv
  have HO := Lib.hid h
  have HL := Lib.hid hl
  have HS := Lib.hid (seesP_one (a := x.1) (b := x.2) hb)
  have hlen' : n ≤ 100000 := by omega
  clear h hb hl
  go_enter Tryz.func36, Tryz.ntmps36
  go_wp2_with (at_builtin; refine wpList_appendEat HO.out hB nb x HS.out (by omega) rfl _ _ rfl rfl rfl ?_; intro v' w1 hown hgrow hnear)
  all_goals
    go_ret
    exact ⟨v', rfl, hown, by first | exact hgrow | (cases ao <;> exact hgrow), by first | exact hnear | (cases ao <;> exact hnear)⟩
theorem take_splice {α : Type} (L cs : List α) (off k : Nat) (h : k ≤ off) (h2 : off ≤ L.length) : (splice L off cs).take k = L.take k := by
  unfold splice
  rw [List.take_append_of_le_length (by simp; omega), List.take_take, Nat.min_eq_left h]
theorem shift_list2 {cs ys : List Value} {L : List Value} {i : Nat} (hi : i < cs.length) (hL : L.take cs.length = cs) (hr : cs.length + ys.length ≤ L.length) :
    (splice (splice L (i + ys.length) (cs.drop i)) i ys).take (cs.length + ys.length) = cs.take i ++ ys ++ cs.drop i := by
  have hti : L.take i = cs.take i := by rw [← hL, List.take_take, Nat.min_eq_left (by omega)]
  have e1 : splice L (i + ys.length) (cs.drop i) = L.take (i + ys.length) ++ (cs.drop i ++ L.drop (cs.length + ys.length)) := by
    unfold splice
    rw [List.length_drop, show i + ys.length + (cs.length - i) = cs.length + ys.length by omega]
  have hl1 : (L.take (i + ys.length)).length = i + ys.length := by rw [List.length_take]; omega
  have e2 : splice (L.take (i + ys.length) ++ (cs.drop i ++ L.drop (cs.length + ys.length))) i ys = cs.take i ++ (ys ++ (cs.drop i ++ L.drop (cs.length + ys.length))) := by
    unfold splice
    rw [List.take_append_of_le_length (by omega), List.take_take, Nat.min_eq_left (by omega), hti]
    rw [List.drop_left' hl1]
  rw [e1, e2, ← List.append_assoc, ← List.append_assoc]
  exact List.take_left' (by simp; omega)
theorem splice_cons {α : Type} (L : List α) (o : Nat) (v : α) (r : List α) (h : o + (v :: r).length ≤ L.length) : splice (L.set o v) (o + 1) r = splice L o (v :: r) := by
  simp only [List.length_cons] at h
  unfold splice
  rw [List.drop_set_of_lt (by omega), List.take_succ_eq_append_getElem (by simp; omega), List.take_set_of_le (Nat.le_refl _), List.getElem_set_self, List.length_cons, show o + (r.length + 1) = o + 1 + r.length by omega]
  simp
theorem heap_setCells (g : Nat) (t : TypeId) : ∀ (vs : List Value) (o : Nat) (w : World) (L : List Value), w.heap[g]? = some (.cells L.toArray t (0, 0)) → o + vs.length ≤ L.length → (w.setCells g o vs).heap[g]? = some (.cells (splice L o vs).toArray t (0, 0))
  | [], o, w, L, h, _ => by simpa [splice, World.setCells] using h
  | v :: r, o, w, L, h, hl => by
    have h1 := heap_setCell_same w g o L.toArray t v h
    have e : L.toArray.setIfInBounds o v = (L.set o v).toArray := by simp
    rw [e] at h1
    have ih := heap_setCells g t r (o + 1) _ (L.set o v) h1 (by simp at hl ⊢; omega)
    rw [splice_cons L o v r hl] at ih
    exact ih
theorem heap_setCells_other (g k : Nat) (hk : k ≠ g) : ∀ (vs : List Value) (o : Nat) (w : World), (w.setCells g o vs).heap[k]? = w.heap[k]?
  | [], _, _ => rfl
  | v :: r, o, w => (heap_setCells_other g k hk r (o + 1) _).trans (heap_setCell_other w ⟨g, o, none⟩ k v hk)
theorem below_setCellsK {B g : Nat} {w0 : World} : ∀ (vs : List Value) (o : Nat) {w : World}, Below B w0 w → B ≤ g → Below B w0 (w.setCells g o vs)
  | [], _, _, h, _ => h
  | v :: r, o, _, h, hg => below_setCellsK r (o + 1) (h.setCell (p := ⟨g, o, none⟩) hg v) hg
theorem grownBy_setCellsK {w0 : World} {row : Option Nat} {g : Nat} : ∀ (vs : List Value) (o : Nat) {w : World}, w0.grownBy w row → (row = some g ∨ w0.heap.size ≤ g) → w0.grownBy (w.setCells g o vs) row
  | [], _, _, h, _ => h
  | v :: r, o, w, h, hg => grownBy_setCellsK r (o + 1) (w := w.setCell ⟨g, o, none⟩ v) ⟨h.os, h.tape, h.output, Nat.le_trans h.size (Nat.le_of_eq (World.size_setCell w _ v).symm), fun k hk hne => (heap_setCell_other w ⟨g, o, none⟩ k v (fun e => by
      have e : k = g := e
      subst e
      rcases hg with h1 | h1
      · exact hne h1.symm
      · omega)).trans (h.block k hk hne)⟩ hg
theorem grownBy_drewed1 {w0 w : World} {row : Option Nat} (h : w0.grownBy w row) : w0.grownBy w.drew row := ⟨h.os, h.tape, h.output, h.size, h.block⟩
theorem grownBy_reflK (w : World) (row : Option Nat) : w.grownBy w row := World.grownBy.refl w row
theorem below_drewed1 {B : Nat} {w w' : World} (h : Below B w w') : Below B w w'.drew := ⟨h.os, h.tape, h.output, h.size, h.block⟩
/-- a cell of a row that is known whole -/
theorem row_cells {w : World} {g : Nat} {cur : Array Value} {cs : List Value} {N : Nat} (hg : w.heap[g]? = some (.cells cur 36)) (hct : cur.toList.take N = cs) : ∀ j v, cs[j]? = some v → w.cell? ⟨g, j, none⟩ = some v := fun j v hj => by
  have e := cell_of_row w g j cur 36 (0, 0) hg
  rw [e, ← Array.getElem?_toList]
  rw [← hct, List.getElem?_take] at hj
  split at hj
  · exact hj
  · cases hj
theorem instrCells_ins (zs : List (Int × Int)) (i : Nat) (x : Int × Int) : (instrCells zs).take (i * 2) ++ [.int .i64 x.1, .int .i64 x.2] ++ (instrCells zs).drop (i * 2) = instrCells (insE zs i x) := by
  rw [instrCells_take, instrCells_drop, insE, instrCells_app, instrCells_cons]
  simp
set_option maxHeartbeats 4000000 in
/-- ahead of the end, where there is room -/
theorem InsertE_shift (B g cap : Nat) (zs : List (Int × Int)) (i : Nat) (x y : Int) (nb : Nat) (w : World) (h : BalE w B g cap zs) (hb : w.heap[nb]? = some (.cells #[.int .i64 x, .int .i64 y] 36)) (hne : nb ≠ g) (hi : i < zs.length) (hroom : zs.length + 1 ≤ cap) :
    Calls Tryz.prog 36 #[.slice (some ⟨g, 0, none⟩) zs.length cap, .int .i64 i, .slice (some ⟨nb, 0, none⟩) 1 1] w fun e w' => ∃ v', e = .returned v' ∧ OwnE w' B v' (insE zs i (x, y)) ∧ w.grownBy w' (some g) ∧ Near (.slice (some ⟨g, 0, none⟩) zs.length cap) v' w := by
  obtain ⟨N, hN⟩ : ∃ N, N = zs.length := ⟨_, rfl⟩
  have hcm := h.caps.2
  unfold maxLen at hcm
  obtain ⟨cur, hg, hcs, hct⟩ := h.block
  have hge := h.lt.2
  rw [← hN] at hi hroom hct
  rw [← hN]
  obtain ⟨cs, hcsd⟩ : ∃ cs, cs = instrCells zs := ⟨_, rfl⟩
  rw [← hcsd] at hct
  have hcl : cs.length = N * 2 := by rw [hcsd, instrCells_length, hN]
  have h1c : ∀ v ∈ cs, v.oneCell' = true := by rw [hcsd]; exact instrCells_one
  have hdl : (cs.drop (i * 2)).length = (N - i) * 2 := by rw [List.length_drop, hcl]; omega
  have hov : ∀ lb cb, (callFunc 47 #[.slice (some ⟨nb, 0, none⟩) 1 1, .slice (some ⟨g, 0 + (i + 1) * 2, none⟩) lb cb]).run Tryz.prog w = .ok (.value (.bool false)) w := fun lb cb => overlapsE_apart w nb g (0 + (i + 1) * 2) 1 1 lb cb hne (.int .i64 x) (.int .i64 y) cur hb hg (by omega)
  have hcell := row_cells hg hct
  have hsome : ∀ j, j < (N + 1) * 2 → (w.cell? ⟨g, j, none⟩).isSome = true := fun j hj => by
    rw [cell_of_row w g j cur 36 (0, 0) hg, Array.getElem?_eq_getElem (by omega)]; rfl
  have hfz : ∀ j, w.frozen? ⟨g, j, none⟩ = false := fun j => frozen_of_row w g j _ _ hg
  have hcp1 : ∀ ty dc sc, (Builtin.copy_ #[24, 24] ty #[.slice (some ⟨g, 0 + (i + 1) * 2, none⟩) (N - i) dc, .slice (some ⟨g, 0 + i * 2, none⟩) (N + 1 - i) sc]).run Tryz.prog w.drew = .ok (goInt (N - i : Nat)) (w.drew.setCells g (0 + (i + 1) * 2) (cs.drop (i * 2))) := fun ty dc sc =>
    run_copy_cells2 w.drew _ _ ty 36 g (0 + (i + 1) * 2) (N - i) dc ⟨g, 0 + i * 2, none⟩ (N + 1 - i) sc (N - i) (cs.drop (i * 2)) Tryz.underlying24 sizeE (by simp only [Nat.min_def]; split <;> omega) hdl
      (fun j v hj => by rw [Addr.add_lit, Nat.add_assoc, Nat.zero_add]; exact hcell (i * 2 + j) v (by rwa [List.getElem?_drop] at hj))
      (fun j hj => by rw [Nat.zero_add]; exact hsome _ (by omega)) (fun j hj => hfz _) (fun v hv => h1c v (List.mem_of_mem_drop hv))
  obtain ⟨W1, hW1⟩ : ∃ W1, W1 = w.drew.setCells g (0 + (i + 1) * 2) (cs.drop (i * 2)) := ⟨_, rfl⟩
  have hgL : w.drew.heap[g]? = some (.cells cur.toList.toArray 36 (0, 0)) := by rw [Array.toArray_toList]; exact hg
  have hg1 := heap_setCells g 36 (cs.drop (i * 2)) (0 + (i + 1) * 2) w.drew cur.toList hgL (by rw [hdl]; simp; omega)
  rw [← hW1] at hg1
  have hn1 : W1.heap[nb]? = some (.cells #[.int .i64 x, .int .i64 y] 36) := by rw [hW1]; exact (heap_setCells_other g nb hne _ _ _).trans hb
  have hl1 : (splice cur.toList (0 + (i + 1) * 2) (cs.drop (i * 2))).length = cap * 2 := by rw [length_splice _ _ _ (by rw [hdl]; simp; omega)]; simpa using hcs
  have hcp2 : ∀ (W : World), (∀ y, W.cell? y = W1.cell? y) → (∀ y, W.frozen? y = W1.frozen? y) → ∀ ty dc, (Builtin.copy_ #[24, 24] ty #[.slice (some ⟨g, 0 + i * 2, none⟩) (N + 1 - i) dc, .slice (some ⟨nb, 0, none⟩) 1 1]).run Tryz.prog W = .ok (goInt (1 : Nat)) (W.setCells g (0 + i * 2) [.int .i64 x, .int .i64 y]) := fun W hWc hWf ty dc =>
    run_copy_cells2 W _ _ ty 36 g (0 + i * 2) (N + 1 - i) dc ⟨nb, 0, none⟩ 1 1 1 [.int .i64 x, .int .i64 y] Tryz.underlying24 sizeE (by simp only [Nat.min_def]; split <;> omega) rfl
      (fun j v hj => by
        match j, hj with
        | 0, hj => rw [Addr.add_lit, hWc]; exact (cell_of_row W1 nb 0 _ _ (0, 0) hn1).trans hj
        | 1, hj => rw [Addr.add_lit, hWc]; exact (cell_of_row W1 nb 1 _ _ (0, 0) hn1).trans hj)
      (fun j hj => by
        have : j < 2 := by simpa using hj
        rw [hWc, Nat.zero_add, cell_of_row W1 g (i * 2 + j) _ _ (0, 0) hg1, List.getElem?_toArray, List.getElem?_eq_getElem (by omega)]; rfl)
      (fun j hj => by rw [hWf]; exact frozen_of_row W1 g _ _ _ hg1) (fun v hv => by simp at hv; rcases hv with rfl | rfl <;> rfl)
  rw [← hW1] at hcp1
  have hg2 := heap_setCells g 36 [.int .i64 x, .int .i64 y] (0 + i * 2) W1 _ hg1 (by rw [hl1]; simp only [List.length_cons, List.length_nil]; omega)
  have hfin : BalE (W1.setCells g (0 + i * 2) [.int .i64 x, .int .i64 y]) B g cap (insE zs i (x, y)) := by
    refine BalE.of_block hge hg2 (by rw [List.size_toArray, length_splice _ _ _ (by rw [hl1]; simp only [List.length_cons, List.length_nil]; omega)]; exact hl1) (by rw [insE_length _ _ _ (by omega)]; omega) (by unfold maxLen; omega) ?_
    rw [insE_length _ _ _ (by omega), ← hN, Nat.zero_add, Nat.zero_add, show (i + 1) * 2 = i * 2 + 2 by omega, show (N + 1) * 2 = cs.length + 2 by omega, List.toList_toArray]
    refine (shift_list2 (cs := cs) (ys := [.int .i64 x, .int .i64 y]) (L := cur.toList) (i := i * 2) (by omega) (by rw [hcl]; exact hct) (by simp; omega)).trans ?_
    rw [hcsd]; exact instrCells_ins zs i (x, y)
  have hbel : w.grownBy (W1.setCells g (0 + i * 2) [.int .i64 x, .int .i64 y]) (some g) := by
    rw [hW1]
    exact grownBy_setCellsK _ _ (grownBy_setCellsK _ _ (grownBy_drewed1 (grownBy_reflK _ _)) (.inl rfl)) (.inl rfl)
  have HFIN := Lib.hid hfin
  have HBEL := Lib.hid hbel
  have HW := Lib.hid hW1
  have HLI := Lib.hid (insE_length zs i (x, y) (by omega))
  have HN := Lib.hid hN
  clear hg hcs hct hcell hsome hfz hW1 hgL hg1 hn1 hl1 hg2 hfin hbel h hb hcsd hcl h1c hdl hN
  simp only [Nat.zero_add] at hov hcp1 hcp2
  have hw1 : IntKind.i64.wrap ((i : Int) + 1) = (i : Int) + 1 := by rw [IntKind.wrap_i64]; omega
  have hw2 : IntKind.i64.wrap ((N : Int) + 1) = (N : Int) + 1 := by rw [IntKind.wrap_i64]; omega
  have hz2 : ¬ ((i : Int) = (N : Int)) := by omega
  have hz3 : ¬ ((cap : Int) < (N : Int) + 1) := by omega
  have hb1 : (0 : Int) ≤ (i : Int) + 1 := by omega
  have htn : ((i : Int) + 1).toNat = i + 1 := by omega
  have htn2 : ((N : Int) + 1).toNat = N + 1 := by omega
  have hb2 : ¬ (cap = i + 1) := by omega
  have hb3 : (i : Int) ≤ (N : Int) + 1 := by omega
  have hb4 : ¬ (cap = i) := by omega
  have hin : i ≤ N := by omega
  go_enter Tryz.func36, Tryz.ntmps36
  go_wp2_with (simp only [hov])
  go_region_law (refine step_copy_runI rfl _ _ 24 24 rfl _ _ (by simp [Act.eval, Act.put]) (by simp [Act.eval, Act.put]) (hcp1 _ _ _) ?_)
  go_wp2_with (at_builtin; refine wpList_copy_runI _ rfl _ _ 24 24 rfl _ _ rfl rfl (hcp2 _ (fun _ => rfl) (fun _ => rfl) _ _) ?_)
  go_ret
  refine ⟨_, rfl, ?_, ?_, fun g' hg' => .inl hg'⟩
  · have := HFIN.out
    unfold BalE at this
    rw [HLI.out, ← HN.out] at this
    unfold OwnE
    rw [HLI.out, ← HN.out]
    rw [Nat.zero_add] at this
    exact this
  · have := HBEL.out
    rw [Nat.zero_add] at this
    exact this

theorem splice_app {α : Type} (A B C : List α) (n : Nat) (h : A.length = n) : splice (A ++ B) n C = A ++ (C ++ B.drop C.length) := by
  subst h
  unfold splice
  rw [List.take_left, List.drop_append, List.drop_eq_nil_of_le (by omega), List.nil_append, show A.length + C.length - A.length = C.length by omega]
theorem grow_list2 {cs R ys : List Value} {i : Nat} (hi : i < cs.length) (_hR : cs.length + ys.length ≤ R.length) (ht : R.take i = cs.take i) :
    (splice (splice R i ys) (i + ys.length) (cs.drop i)).take (cs.length + ys.length) = cs.take i ++ ys ++ cs.drop i := by
  have e1 : splice R i ys = (cs.take i ++ ys) ++ R.drop (i + ys.length) := by
    unfold splice
    rw [ht]; simp
  rw [e1, splice_app _ _ _ _ (by simp; omega), ← List.append_assoc]
  rw [List.take_left' (by simp; omega)]
set_option maxHeartbeats 4000000 in
/-- ahead of the end, where there is no room -/
theorem InsertE_grow (B g cap : Nat) (zs : List (Int × Int)) (i : Nat) (x y : Int) (nb : Nat) (w : World) (h : BalE w B g cap zs) (hb : w.heap[nb]? = some (.cells #[.int .i64 x, .int .i64 y] 36)) (hBw : B ≤ w.heap.size) (hi : i < zs.length) (hroom : cap < zs.length + 1) (hlen : zs.length ≤ 100000) :
    Calls Tryz.prog 36 #[.slice (some ⟨g, 0, none⟩) zs.length cap, .int .i64 i, .slice (some ⟨nb, 0, none⟩) 1 1] w fun e w' => ∃ v', e = .returned v' ∧ OwnE w' B v' (insE zs i (x, y)) ∧ w.grownBy w' (some g) ∧ Near (.slice (some ⟨g, 0, none⟩) zs.length cap) v' w := by
  obtain ⟨N, hN⟩ : ∃ N, N = zs.length := ⟨_, rfl⟩
  obtain ⟨cur, hg, hcs, hct⟩ := h.block
  have hcp := h.caps
  rw [← hN] at hi hroom hct hcp hlen
  obtain rfl : cap = N := by omega
  rw [← hN]
  obtain ⟨cs, hcsd⟩ : ∃ cs, cs = instrCells zs := ⟨_, rfl⟩
  rw [← hcsd] at hct
  have hcl : cs.length = cap * 2 := by rw [hcsd, instrCells_length, hN]
  have h1c : ∀ v ∈ cs, v.oneCell' = true := by rw [hcsd]; exact instrCells_one
  have hdl : (cs.drop (i * 2)).length = (cap - i) * 2 := by rw [List.length_drop, hcl]; omega
  have hcell := row_cells hg hct
  have hgw := h.lt.1
  have hnw := lt_of_block hb
  obtain ⟨i0, hi0, hz0, hzs, hzb⟩ := info_parts infoE
  have hkk : (cap : Int) + 1 - (i : Int) = ((cap + 1 - i : Nat) : Int) := by omega
  have hik : i + (cap + 1 - i) = cap + 1 := by omega
  have hold : (Builtin.firstCells i0.size i (.slice (some ⟨g, 0, none⟩) i cap)).run Tryz.prog w.drew = .ok (cs.take (i * 2)).toArray w.drew := by
    rw [hzs]
    exact run_firstCells_some w.drew 2 i ⟨g, 0, none⟩ i cap (cs.take (i * 2)) (by rw [List.length_take]; omega) (fun j v hj => by
      rw [Addr.add_lit, Nat.zero_add]
      rw [List.getElem?_take] at hj
      split at hj
      · exact hcell j v hj
      · cases hj)
  have hrz : ∀ ty, (Builtin.append_ #[24, 3] ty #[.slice (some ⟨g, 0, none⟩) i cap, .int .i64 ((cap : Int) + 1 - (i : Int))]).run Tryz.prog w =
      .ok (.slice (some ⟨w.heap.size, 0, none⟩) (cap + 1) (grownCap w (cap + 1) cap 36)) (w.drew.alloc (.cells ((cs.take (i * 2)).toArray ++ Builtin.zeroCells (Value.agg #[.int .i64 0, .int .i64 0]).cells (cap + 1 - i) ++ Builtin.zeroCells (Value.agg #[.int .i64 0, .int .i64 0]).cells (grownCap w (cap + 1) cap 36 - (cap + 1))) 36)) := fun ty => by
    have h := Lib.run_append_grow_zeros w 24 3 ty 36 i0 _ .i64 .i64 Tryz.underlying24 Tryz.underlying3 hi0 hz0 (some ⟨g, 0, none⟩) i cap (cs.take (i * 2)) hold (cap + 1 - i) (by omega) (by omega) (by omega) (by omega) (by rw [hzb]; omega) (by
      rw [hzb, hik]
      have := growslice_fits (bytes := 16) hroom (by omega)
      exact this)
    rw [hik] at h
    rw [hkk]
    exact h
  obtain ⟨G, hG⟩ : ∃ G, G = grownCap w (cap + 1) cap 36 := ⟨_, rfl⟩
  obtain ⟨ROW, hROW⟩ : ∃ ROW : Array Value, ROW = (cs.take (i * 2)).toArray ++ Builtin.zeroCells (Value.agg #[.int .i64 0, .int .i64 0]).cells (cap + 1 - i) ++ Builtin.zeroCells (Value.agg #[.int .i64 0, .int .i64 0]).cells (G - (cap + 1)) := ⟨_, rfl⟩
  rw [← hG] at hrz
  rw [← hROW] at hrz
  have hGn : cap + 1 ≤ G := by rw [hG]; exact grownCap_ge w _ _ _
  have hG63 : G ≤ 9223372036854775807 := by
    have := grownCap_le_maxLen w (cap + 1) cap 36 (by unfold maxLen; omega)
    rw [← hG] at this
    unfold maxLen at this
    omega
  have hRs : ROW.size = G * 2 := by
    rw [hROW]
    simp [Builtin.zeroCells, Value.cells]
    omega
  have hRt : ROW.toList.take (i * 2) = cs.take (i * 2) := by
    rw [hROW, Array.toList_append, Array.toList_append, List.append_assoc]
    exact List.take_left' (by simp; omega)
  obtain ⟨W1, hW1⟩ : ∃ W1, W1 = w.drew.alloc (.cells ROW 36) := ⟨_, rfl⟩
  rw [← hW1] at hrz
  have hH : W1.heap[w.heap.size]? = some (.cells ROW 36) := by rw [hW1]; exact heap_new _ _ _ rfl
  have hOb : W1.heap[g]? = some (.cells cur 36) := by rw [hW1]; exact (Below.heap_alloc _ _ _ (by simpa using hgw)).trans hg
  have hOn : W1.heap[nb]? = some (.cells #[.int .i64 x, .int .i64 y] 36) := by rw [hW1]; exact (Below.heap_alloc _ _ _ (by simpa using hnw)).trans hb
  have hcpA : ∀ (W : World), (∀ x, W.cell? x = W1.cell? x) → (∀ x, W.frozen? x = W1.frozen? x) → ∀ ty dc, (Builtin.copy_ #[24, 24] ty #[.slice (some ⟨w.heap.size, i * 2, none⟩) (cap + 1 - i) dc, .slice (some ⟨nb, 0, none⟩) 1 1]).run Tryz.prog W = .ok (goInt (1 : Nat)) (W.setCells w.heap.size (i * 2) [.int .i64 x, .int .i64 y]) := fun W hWc hWf ty dc =>
    run_copy_cells2 W _ _ ty 36 w.heap.size (i * 2) (cap + 1 - i) dc ⟨nb, 0, none⟩ 1 1 1 [.int .i64 x, .int .i64 y] Tryz.underlying24 sizeE (by simp only [Nat.min_def]; split <;> omega) rfl
      (fun j v hj => by
        match j, hj with
        | 0, hj => rw [Addr.add_lit, hWc]; exact (cell_of_row W1 nb 0 _ _ (0, 0) hOn).trans hj
        | 1, hj => rw [Addr.add_lit, hWc]; exact (cell_of_row W1 nb 1 _ _ (0, 0) hOn).trans hj)
      (fun j hj => by
        have : j < 2 := by simpa using hj
        rw [hWc, cell_of_row W1 w.heap.size (i * 2 + j) _ _ (0, 0) hH, Array.getElem?_eq_getElem (by omega)]; rfl)
      (fun j hj => by rw [hWf]; exact frozen_of_row W1 _ _ _ _ hH) (fun v hv => by simp at hv; rcases hv with rfl | rfl <;> rfl)
  have hHL : W1.heap[w.heap.size]? = some (.cells ROW.toList.toArray 36 (0, 0)) := by rw [Array.toArray_toList]; exact hH
  have hH2 := heap_setCells w.heap.size 36 [.int .i64 x, .int .i64 y] (i * 2) W1 ROW.toList hHL (by simp; omega)
  have hl2 : (splice ROW.toList (i * 2) [.int .i64 x, .int .i64 y]).length = G * 2 := by rw [length_splice _ _ _ (by simp; omega)]; simpa using hRs
  obtain ⟨W2, hW2⟩ : ∃ W2, W2 = W1.setCells w.heap.size (i * 2) [.int .i64 x, .int .i64 y] := ⟨_, rfl⟩
  rw [← hW2] at hH2
  have hgb : W2.heap[g]? = some (.cells cur 36) := by rw [hW2]; exact (heap_setCells_other _ g (by omega) _ _ _).trans hOb
  have hcell2 := row_cells hgb hct
  have hcpB : ∀ (W : World), (∀ x, W.cell? x = W2.cell? x) → (∀ x, W.frozen? x = W2.frozen? x) → ∀ ty dc sc, (Builtin.copy_ #[24, 24] ty #[.slice (some ⟨w.heap.size, (i + 1) * 2, none⟩) (cap - i) dc, .slice (some ⟨g, i * 2, none⟩) (cap - i) sc]).run Tryz.prog W = .ok (goInt (cap - i : Nat)) (W.setCells w.heap.size ((i + 1) * 2) (cs.drop (i * 2))) := fun W hWc hWf ty dc sc =>
    run_copy_cells2 W _ _ ty 36 w.heap.size ((i + 1) * 2) (cap - i) dc ⟨g, i * 2, none⟩ (cap - i) sc (cap - i) (cs.drop (i * 2)) Tryz.underlying24 sizeE (by simp only [Nat.min_def]; split <;> omega) hdl
      (fun j v hj => by rw [Addr.add_lit, hWc]; exact hcell2 (i * 2 + j) v (by rwa [List.getElem?_drop] at hj))
      (fun j hj => by rw [hWc, cell_of_row W2 w.heap.size ((i + 1) * 2 + j) _ _ (0, 0) hH2, List.getElem?_toArray, List.getElem?_eq_getElem (by omega)]; rfl)
      (fun j hj => by rw [hWf]; exact frozen_of_row W2 _ _ _ _ hH2) (fun v hv => h1c v (List.mem_of_mem_drop hv))
  have hH3 := heap_setCells w.heap.size 36 (cs.drop (i * 2)) ((i + 1) * 2) W2 _ hH2 (by rw [hl2, hdl]; omega)
  have hfin : BalE (W2.setCells w.heap.size ((i + 1) * 2) (cs.drop (i * 2))) B w.heap.size G (insE zs i (x, y)) := by
    refine BalE.of_block hBw hH3 (by rw [List.size_toArray, length_splice _ _ _ (by rw [hl2, hdl]; omega)]; exact hl2) (by rw [insE_length _ _ _ (by omega)]; omega) (by unfold maxLen; omega) ?_
    rw [insE_length _ _ _ (by omega), ← hN, show (i + 1) * 2 = i * 2 + 2 by omega, show (cap + 1) * 2 = cs.length + 2 by omega, List.toList_toArray]
    refine (grow_list2 (cs := cs) (R := ROW.toList) (i := i * 2) (ys := [.int .i64 x, .int .i64 y]) (by omega) (by simp; omega) hRt).trans ?_
    rw [hcsd]; exact instrCells_ins zs i (x, y)
  have hbel : w.grownBy (W2.setCells w.heap.size ((i + 1) * 2) (cs.drop (i * 2))) (some g) := by
    rw [hW2, hW1]
    exact grownBy_setCellsK _ _ (grownBy_setCellsK _ _ (by have h := fun o row => World.grownBy_alloc w.drew o row; exact ⟨(h _ (some g)).os, (h _ (some g)).tape, (h _ (some g)).output, (h _ (some g)).size, (h _ (some g)).block⟩) (.inr (Nat.le_refl _))) (.inr (Nat.le_refl _))
  have HFIN := Lib.hid hfin
  have HBEL := Lib.hid hbel
  have HLI := Lib.hid (insE_length zs i (x, y) (by omega))
  have HN := Lib.hid hN
  have hE1 : ∀ x, ((w.alloc (.cells ROW 36)).drew).cell? x = W1.cell? x := fun x => by rw [hW1]; rfl
  have hE2 : ∀ x, ((w.alloc (.cells ROW 36)).drew).frozen? x = W1.frozen? x := fun x => by rw [hW1]; rfl
  have hF1 : ∀ x', ((W1.setCells w.heap.size (i * 2) [.int .i64 x, .int .i64 y]).drew).cell? x' = W2.cell? x' := fun x' => by rw [hW2]; rfl
  have hF2 : ∀ x', ((W1.setCells w.heap.size (i * 2) [.int .i64 x, .int .i64 y]).drew).frozen? x' = W2.frozen? x' := fun x' => by rw [hW2]; rfl
  have HW2 := Lib.hid hW2
  clear hW2 hG hROW hRs hRt hW1 hH hOb hOn hHL hH2 hl2 hgb hcell2 hH3 hfin hbel hkk hik hold hcell h hb hg hct hcsd hcl h1c hcp hi0 hz0 hzs hzb hN hcs
  have hw1 : IntKind.i64.wrap ((i : Int) + 1) = (i : Int) + 1 := by rw [IntKind.wrap_i64]; omega
  have hb1 : (0 : Int) ≤ (i : Int) + 1 := by omega
  have hz2 : ¬ ((i : Int) = (cap : Int)) := by omega
  have hz3 : ((cap : Int) < (cap : Int) + 1) := by omega
  have htn : ((i : Int) + 1).toNat = i + 1 := by omega
  have hb2 : ¬ (cap = i) := by omega
  have hb4 : ¬ (G = i) := by omega
  have hb5 : ¬ (G = i + 1) := by omega
  have hin : i ≤ cap := by omega
  have hbN : (i : Int) ≤ (cap : Int) := by omega
  have hbN2 : (i : Int) ≤ (cap : Int) + 1 := by omega
  go_enter Tryz.func36, Tryz.ntmps36
  go_wp2_with (first
    | (at_builtin; refine Lib.wpList_append_run _ rfl _ _ _ _ rfl _ _ rfl rfl _ _ (hrz _) ?_)
    | (at_builtin; refine wpList_copy_runI _ rfl _ _ 24 24 rfl _ _ rfl rfl (hcpA _ hE1 hE2 _ _) ?_))
  go_region_law (refine step_copy_runI rfl _ _ 24 24 rfl _ _ (by simp [Act.eval, Act.put]) (by simp [Act.eval, Act.put]) (hcpB _ hF1 hF2 _ _ _) ?_)
  go_wp2
  go_ret
  refine ⟨_, rfl, ?_, ?_, fun g' hg' => .inr (by simp [Value.ownBlock] at hg'; omega)⟩
  · have := HFIN.out
    unfold BalE at this
    rw [HLI.out, ← HN.out, HW2.out] at this
    unfold OwnE
    rw [HLI.out, ← HN.out, ← drew_setCells]
    exact this
  · have := HBEL.out
    rw [HW2.out] at this
    rw [← drew_setCells]
    exact grownBy_drewed1 this
/-- slices.Insert of one entry, at any place of a row of the call's own -/
theorem InsertE_K (B : Nat) (ao : Option Addr) (n c : Nat) (zs : List (Int × Int)) (i : Nat) (x y : Int) (nb : Nat) (w : World) (hl : zs.length = n) (h : OwnE w B (.slice ao n c) zs) (hb : w.heap[nb]? = some (.cells #[.int .i64 x, .int .i64 y] 36)) (hne : ∀ a, ao = some a → nb ≠ a.block) (hB : B ≤ w.heap.size) (hi : i ≤ n) (hlen : n ≤ 100000) :
    Calls Tryz.prog 36 #[.slice ao n c, .int .i64 i, .slice (some ⟨nb, 0, none⟩) 1 1] w fun e w' => ∃ v', e = .returned v' ∧ OwnE w' B v' (insE zs i (x, y)) ∧ w.grownBy w' (Value.slice ao n c).ownBlock ∧ Near (.slice ao n c) v' w := by
  by_cases hin : i = n
  · subst hin
    have hc : i ≤ c ∧ c ≤ maxLen := by
      rcases h.form with ⟨h1, h2⟩ | ⟨g, cap, h1, h2⟩
      · injection h1 with _ h3 h4
        subst h3; subst h4
        exact ⟨Nat.le_refl _, by decide⟩
      · injection h1 with _ _ h4
        subst h4
        have := h2.caps
        exact ⟨by omega, this.2⟩
    refine (InsertE_end (.slice ao i c) ao i c B zs (x, y) nb w rfl hl h hb hB (by omega) hc.1 hc.2).mono ?_
    rintro e w' ⟨v', h1, h2, h3, h4⟩
    refine ⟨v', h1, ?_, h3, h4⟩
    rw [insE, ← hl, List.take_length, List.drop_length]
    exact h2
  · rcases h.form with ⟨h1, h2⟩ | ⟨g, cap, h1, h2⟩
    · subst h2
      simp at hl
      omega
    · injection h1 with h3 h4 h5
      subst h3; subst h4; subst h5
      by_cases hr : zs.length + 1 ≤ c
      · exact InsertE_shift B g c zs i x y nb w h2 hb (hne _ rfl) (by omega) hr
      · exact InsertE_grow B g c zs i x y nb w h2 hb hB (by omega) (by omega) (by omega)
/-- 'clear' of one entry -/
theorem run_clear_one2 (w : World) (ty : TypeId) (b o c : Nat) (hc : ∀ j, j < 2 → (w.cell? ⟨b, o + j, none⟩).isSome = true) (hf : ∀ j, j < 2 → w.frozen? ⟨b, o + j, none⟩ = false) :
    (Builtin.clear_ #[24] ty #[.slice (some ⟨b, o, none⟩) 1 c]).run Tryz.prog w = .ok (.tuple #[]) (w.setCells b o [.int .i64 0, .int .i64 0]) := by
  have hv : ∀ w, (zeroValue 36).run Tryz.prog w = .ok (.agg #[.int .i64 0, .int .i64 0]) w := fun w => by kernel_rfl
  have hzc : (Builtin.zeroCells (Value.agg #[.int .i64 0, .int .i64 0]).cells 1).toList = [.int .i64 0, .int .i64 0] := by kernel_rfl
  have hst := run_storeCells_cells (P := Tryz.prog) b o [.int .i64 0, .int .i64 0] 0 w (by simpa using hc) (by simpa using hf) (by intro v hv'; simp at hv'; subst hv'; rfl)
  simp only [Nat.add_zero] at hst
  simp [Builtin.clear_, run_underlying Tryz.underlying24, hv, hzc, hst]
set_option maxHeartbeats 4000000 in
/-- slices.Delete of one entry -/
theorem DeleteE_K (B g cap : Nat) (zs : List (Int × Int)) (i : Nat) (w : World) (h : BalE w B g cap zs) (hi : i < zs.length) :
    Calls Tryz.prog 37 #[.slice (some ⟨g, 0, none⟩) zs.length cap, .int .i64 i, .int .i64 ((i : Int) + 1)] w fun e w' => e = .returned (.slice (some ⟨g, 0, none⟩) (zs.length - 1) cap) ∧ BalE w' B g cap (zs.take i ++ zs.drop (i + 1)) ∧ w.grownBy w' (some g) := by
  obtain ⟨N, hN⟩ : ∃ N, N = zs.length := ⟨_, rfl⟩
  have hcm := h.caps
  unfold maxLen at hcm
  obtain ⟨cur, hg, hcs, hct⟩ := h.block
  have hge := h.lt.2
  rw [← hN] at hi hct hcm
  rw [← hN]
  obtain ⟨cs, hcsd⟩ : ∃ cs, cs = instrCells zs := ⟨_, rfl⟩
  rw [← hcsd] at hct
  have hcl : cs.length = N * 2 := by rw [hcsd, instrCells_length, hN]
  have h1c : ∀ v ∈ cs, v.oneCell' = true := by rw [hcsd]; exact instrCells_one
  obtain ⟨news, hnews⟩ : ∃ news, news = cs.drop ((i + 1) * 2) := ⟨_, rfl⟩
  have hlen : news.length = (N - (i + 1)) * 2 := by rw [hnews, List.length_drop, hcl]; omega
  have hcell := row_cells hg hct
  obtain ⟨A, hA, hsrc⟩ : ∃ A : Addr, (if cap = i + 1 then (some (⟨g, 0, none⟩ : Addr)) else some ⟨g, (i + 1) * 2, none⟩) = some A ∧ Hid (∀ t u, news[t]? = some u → w.drew.cell? (A.add t) = some u) := by
    by_cases h : cap = i + 1
    · refine ⟨⟨g, 0, none⟩, by simp [h], fun t u hu => ?_⟩
      have h0 : news.length = 0 := by rw [hlen]; omega
      rw [List.length_eq_zero_iff.1 h0] at hu
      simp at hu
    · refine ⟨⟨g, (i + 1) * 2, none⟩, by simp [h], fun t u hu => ?_⟩
      rw [Addr.add_lit]
      exact hcell ((i + 1) * 2 + t) u (by rw [hnews, List.getElem?_drop] at hu; exact hu)
  have s1 := Lib.hid hlen
  have s2 := Lib.hid (show ∀ u ∈ news, u.oneCell' = true from fun u hu => h1c u (List.mem_of_mem_drop (by rw [hnews] at hu; exact hu)))
  have hfz : ∀ j, w.frozen? ⟨g, j, none⟩ = false := fun j => frozen_of_row w g j _ _ hg
  have s3 : Hid (∀ t, t < news.length → (w.drew.cell? ⟨g, 0 + i * 2 + t, none⟩).isSome = true ∧ w.drew.frozen? ⟨g, 0 + i * 2 + t, none⟩ = false) := by
    intro t ht
    rw [hlen] at ht
    refine ⟨?_, hfz _⟩
    show (w.cell? _).isSome = true
    rw [cell_of_row w g _ cur 36 (0, 0) hg, Array.getElem?_eq_getElem (by omega)]; rfl
  obtain ⟨W1, hW1⟩ : ∃ W1, W1 = w.drew.setCells g (0 + i * 2) news := ⟨_, rfl⟩
  have hgL : w.drew.heap[g]? = some (.cells cur.toList.toArray 36 (0, 0)) := by rw [Array.toArray_toList]; exact hg
  have hg1 := heap_setCells g 36 news (0 + i * 2) w.drew cur.toList hgL (by rw [hlen]; simp; omega)
  rw [← hW1] at hg1
  have hl1 : (splice cur.toList (0 + i * 2) news).length = cap * 2 := by rw [length_splice _ _ _ (by rw [hlen]; simp; omega)]; simpa using hcs
  have hcl2 : ∀ ty c, (Builtin.clear_ #[24] ty #[.slice (some ⟨g, (N - 1) * 2, none⟩) 1 c]).run Tryz.prog W1 = .ok (.tuple #[]) (W1.setCells g ((N - 1) * 2) [.int .i64 0, .int .i64 0]) := fun ty c =>
    run_clear_one2 W1 ty g ((N - 1) * 2) c (fun j hj => by rw [cell_of_row W1 g _ _ _ (0, 0) hg1, List.getElem?_toArray, List.getElem?_eq_getElem (by omega)]; rfl) (fun j hj => frozen_of_row W1 g _ _ _ hg1)
  have hg2 := heap_setCells g 36 [.int .i64 0, .int .i64 0] ((N - 1) * 2) W1 _ hg1 (by rw [hl1]; simp only [List.length_cons, List.length_nil]; omega)
  have hdl : (zs.take i ++ zs.drop (i + 1)).length = N - 1 := by simp; omega
  have hfin : BalE (W1.setCells g ((N - 1) * 2) [.int .i64 0, .int .i64 0]) B g cap (zs.take i ++ zs.drop (i + 1)) := by
    refine BalE.of_block hge hg2 (by rw [List.size_toArray, length_splice _ _ _ (by rw [hl1]; simp only [List.length_cons, List.length_nil]; omega)]; exact hl1) (by rw [hdl]; omega) (by unfold maxLen; omega) ?_
    rw [hdl, List.toList_toArray, take_splice _ _ _ _ (Nat.le_refl _) (by omega), instrCells_app, ← instrCells_take, ← instrCells_drop, ← hcsd, ← hnews, Nat.zero_add]
    unfold splice
    rw [← List.append_assoc]
    have e1 : cur.toList.take (i * 2) = cs.take (i * 2) := by rw [← hct, List.take_take, Nat.min_eq_left (by omega)]
    rw [e1]
    exact List.take_left' (by simp; omega)
  have hbel : w.grownBy (W1.setCells g ((N - 1) * 2) [.int .i64 0, .int .i64 0]) (some g) := by
    rw [hW1]
    exact grownBy_setCellsK _ _ (grownBy_setCellsK _ _ (grownBy_drewed1 (grownBy_reflK _ _)) (.inl rfl)) (.inl rfl)
  obtain ⟨i0, hi0, hz0, hz1, hz2⟩ := info_parts infoE
  have HFIN := Lib.hid hfin
  have HBEL := Lib.hid hbel
  have hW : Hid (W1 = w.drew.setCells g (0 + i * 2) news) := hW1
  have HN := Lib.hid hN
  have hlen2 : N - (i + 1) + i = N - 1 := by omega
  clear hg hcs hct hcell hfz hW1 hgL hg1 hl1 hg2 hdl hfin hbel h hcsd hcl h1c hN hlen hnews
  have hw1 : IntKind.i64.wrap ((i : Int) + 1) = (i : Int) + 1 := by rw [IntKind.wrap_i64]; omega
  have hb1 : (0 : Int) ≤ (i : Int) + 1 := by omega
  have hb2 : (i : Int) + 1 ≤ (N : Int) := by omega
  have htn : ((i : Int) + 1).toNat = i + 1 := by omega
  have hic : i ≤ cap := by omega
  have hjc : i + 1 ≤ cap := by omega
  have hsum : i + (N - (i + 1)) = N - 1 := by omega
  have hone : N - (N - 1) = 1 := by omega
  go_enter Tryz.func37, Tryz.ntmps37
  go_wp2_with fail
  go_region_law (refine step_append_room rfl (.tmp 22) (.tmp 25) 24 rfl 36 i0 2 Tryz.underlying24 hi0 hz1 g 0 i cap (by simp [Act.eval, Act.put]) A (N - (i + 1)) (cap - (i + 1)) news (by simp [Act.eval, Act.put]) s1.out hsrc.out s2.out (by omega) s3.out ?_; rw [← hW.out])
  go_wp2
  go_ret
  exact ⟨rfl, HFIN.out, HBEL.out⟩
end Go.Proofs.YtochpdailleilaaGreatDoor
