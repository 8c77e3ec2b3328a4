/-
  A slice of programs that reads as a list of them; slices.Clone at instructions; an operand written into a row of the call's own. No condition.
-/
import Derived.Test.YtoiokbdipcecnaaGreatDoorCodeInstrs
import Derived.Test.YtoiokbdipcecnaaGreatDoorCodePlaces
import Derived.Test.YtoiokbdipcecnaaGreatDoorJoinS
namespace Go.Proofs.YtoiokbdipcecnaaGreatDoor
open Go.RowKit
set_option maxRecDepth 100000

abbrev PartV := Option Addr × Nat × Prog
def progsV (P : List PartV) : List Prog := P.map (·.2.2)
/-- the slice at this address reads as these programs, each by its own slice -/
def SeesR (w : World) (ro : Option Addr) (P : List PartV) : Prop := ∃ b o, (P ≠ [] → ro = some ⟨b, o, none⟩) ∧ ∀ (j : Nat) (x : PartV), P[j]? = some x → w.cell? ⟨b, o + j, none⟩ = some (.slice x.1 x.2.2.length x.2.1) ∧ SeesP w x.1 x.2.2
theorem SeesR.nil (w : World) (ro : Option Addr) : SeesR w ro [] := ⟨0, 0, fun h => absurd rfl h, fun j x hj => by simp at hj⟩
theorem SeesR.below {w w' : World} {ro : Option Addr} {P : List PartV} (h : SeesR w ro P) (hb : Below w.heap.size w w') : SeesR w' ro P := by
  obtain ⟨b, o, h1, h2⟩ := h
  exact ⟨b, o, h1, fun j x hj => ⟨(hb.cell (p := ⟨b, _, none⟩) (block_lt_of_cell (h2 j x hj).1)).trans (h2 j x hj).1, (h2 j x hj).2.below hb⟩⟩
theorem progsV_at {P : List PartV} {k : Nat} {x : PartV} (h : P[k]? = some x) : (progsV P)[k]? = some x.2.2 := by simp [progsV, h]
theorem progsV_length (P : List PartV) : (progsV P).length = P.length := by simp [progsV]
theorem OwnP.set {w : World} {B g cap n : Nat} {l : Prog} (h : OwnP w B (.slice (some ⟨g, 0, none⟩) n cap) l) (_hn : l.length = n) {k : Nat} (hk : k < l.length) (a : Int) :
    OwnP (w.setCell ⟨g, k * 2 + 1, none⟩ (.int .i64 a)) B (.slice (some ⟨g, 0, none⟩) n cap) (l.set k ((l.getD k (0, 0)).1, a)) := by
  subst _hn
  obtain ⟨ho, _⟩ := World.ownsRow.stored h (k * 2 + 1) (.int .i64 a)
  have e := setl (0, a) hk
  simp only at e
  unfold OwnP
  rw [List.length_set, ← e]
  exact ho
theorem OwnP.at' {w : World} {B g cap n : Nat} {l : Prog} (h : OwnP w B (.slice (some ⟨g, 0, none⟩) n cap) l) (hn : l.length = n) {k : Nat} {x : Int × Int} (hx : l[k]? = some x) :
    w.cell? ⟨g, k * 2, none⟩ = some (.int .i64 x.1) ∧ w.cell? ⟨g, k * 2 + 1, none⟩ = some (.int .i64 x.2) ∧ w.frozen? ⟨g, k * 2 + 1, none⟩ = false := by
  subst hn
  have hk := (List.getElem?_eq_some_iff.1 hx).1
  exact ⟨(h.cellAt (k * 2) (by omega)).trans (instrCells_at l k _ hx).1, (h.cellAt (k * 2 + 1) (by omega)).trans (instrCells_at l k _ hx).2, h.frozenAt _⟩
set_option maxHeartbeats 2000000 in
theorem CloneP_some (b off c : Nat) (l : Prog) (w : World) (hbig : l.length * 16 ≤ 140737488351232) (_hcap : l.length ≤ c) (hc : SeesP w (some ⟨b, off, none⟩) l) :
    Calls Tryz.prog 80 #[.slice (some ⟨b, off, none⟩) l.length c] w fun e w' => ∃ v', e = .returned v' ∧ OwnP w' w.heap.size v' l ∧ Below w.heap.size w w' := by
  have q22 : ∀ (w : World) (a : Option Addr) (n c n' c' : Nat), (binOp .eql 45 (.slice a n c) (.slice none n' c')).run Tryz.prog w = .ok (.bool a.isNone) w := fun w a n c n' c' => Lib.run_eql_slice_nil w _ _ a n c n' c' Tryz.underlying45
  have u22 : ∀ w, Sem.run Tryz.prog (underlying 45) w = .ok (TypeDesc.slice 82) w := run_underlying Tryz.underlying45
  have A := Lib.hid hc
  clear hc
  go_enter Tryz.func80, Tryz.ntmps80
  go_wp2_with (at_builtin; refine wpList_appendP (xs := []) (World.ownsRow_made w #[] 0 (Nat.le_refl _) (Nat.zero_le _) rfl) (by simp) (some ⟨b, off, none⟩) l.length c l rfl ((A.out.below ((Below.refl _ _).alloc (Nat.le_refl _) _))) (fun h => by cases h) (by simp; omega) rfl _ _ rfl rfl rfl ?_; intro v' w1 hown hgrow)
  go_wp2
  go_ret
  refine ⟨v', rfl, by simpa using hown, ?_⟩
  exact ((Below.refl _ w).alloc (Nat.le_refl _) _).grown hgrow (by simp) (by intro k hk; simp [Value.ownBlock] at hk; omega)
/-- a program half moved -/
def midP (acc l : Prog) (t : Nat) : Prog := acc ++ ((l.take t).map (shiftX acc.length) ++ l.drop t)
theorem midP_length (acc l : Prog) (t : Nat) (h : t ≤ l.length) : (midP acc l t).length = acc.length + l.length := by
  simp [midP]; omega
theorem midP_at (acc l : Prog) (t : Nat) {x : Int × Int} (h : l[t]? = some x) : (midP acc l t)[acc.length + t]? = some x := by
  have ht := (List.getElem?_eq_some_iff.1 h).1
  unfold midP
  rw [List.getElem?_append_right (by omega), List.getElem?_append_right (by simp; omega)]
  simp only [List.length_map, List.length_take]
  rw [List.getElem?_drop]
  rw [show t + (acc.length + t - acc.length - min t l.length) = t by omega]
  exact h
theorem midP_step (acc l : Prog) (t : Nat) {x : Int × Int} (h : l[t]? = some x) : midP acc l (t + 1) = (midP acc l t).set (acc.length + t) (shiftX acc.length x) := by
  have ht := (List.getElem?_eq_some_iff.1 h).1
  unfold midP
  rw [List.set_append_right _ _ (by omega), List.set_append_right _ _ (by simp; omega)]
  congr 1
  rw [List.take_add_one, h]
  simp only [Option.toList, List.map_append, List.map_cons, List.map_nil, List.append_assoc, List.length_map, List.length_take]
  congr 1
  rw [List.drop_eq_getElem_cons ht, show acc.length + t - acc.length - min t l.length = 0 by omega]
  rfl
theorem midP_keep (acc l : Prog) (t : Nat) {x : Int × Int} (h : l[t]? = some x) (hs : shiftX acc.length x = x) : midP acc l (t + 1) = midP acc l t := by
  rw [midP_step acc l t h, hs]
  apply List.ext_getElem?
  intro j
  rw [List.getElem?_set]
  split
  · rename_i e
    subst e
    rw [midP_at acc l t h, if_pos (by rw [midP_length acc l t (by have := (List.getElem?_eq_some_iff.1 h).1; omega)]; have := (List.getElem?_eq_some_iff.1 h).1; omega)]
  · rfl
theorem midP_end (acc l : Prog) : midP acc l l.length = acc ++ l.map (shiftX acc.length) := by simp [midP]
theorem midP_zero (acc l : Prog) : midP acc l 0 = acc ++ l := by simp [midP]
end Go.Proofs.YtoiokbdipcecnaaGreatDoor
