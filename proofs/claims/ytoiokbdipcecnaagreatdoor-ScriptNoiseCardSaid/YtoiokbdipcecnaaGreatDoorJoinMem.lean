/-
  A slice of programs that reads as a list of them; slices.Clone at instructions; an operand written into a row of the call's own. No condition.
  And: PLAIN LAWS ON Join: what it answers; Join of Joins. No condition.
-/
import Derived.Test.YtoiokbdipcecnaaGreatDoorCodeCheck
import Derived.Test.YtoiokbdipcecnaaGreatDoorRefSmall15
import Derived.Test.YtoiokbdipcecnaaGreatDoorCodeInstrs
import Derived.Test.YtoiokbdipcecnaaGreatDoorCodePlaces
namespace Go.Proofs.YtoiokbdipcecnaaGreatDoor
open Go.RowKit
set_option maxRecDepth 100000

abbrev Prog := List (Int × Int)
def shiftX (at' : Nat) (x : Int × Int) : Int × Int := if takes x.1 = 3 then (x.1, x.2 + (at' : Int)) else x
def joinFrom : Prog → List Prog → Prog
  | acc, [] => acc
  | acc, l :: r => joinFrom (acc ++ l.map (shiftX acc.length)) r
def sumL : List Prog → Nat
  | [] => 0
  | l :: r => l.length + sumL r
def errFrom : List Prog → Int
  | [] => 0
  | l :: r => if (checkL l).1 = 0 then errFrom r else (checkL l).1
/-- what Join answers -/
def joinS (P : List Prog) : Prog × Int :=
  if errFrom P = 0 then (if sumL P < 1 ∨ 400 < sumL P then ([], 150) else (joinFrom [] P, 0)) else ([], errFrom P)
theorem sumL_app : ∀ (a b : List Prog), sumL (a ++ b) = sumL a + sumL b
  | [], b => by simp [sumL]
  | x :: r, b => by rw [List.cons_append, sumL, sumL, sumL_app r b]; omega
theorem joinFrom_app : ∀ (a b : List Prog) (acc : Prog), joinFrom acc (a ++ b) = joinFrom (joinFrom acc a) b
  | [], _, _ => rfl
  | x :: r, b, acc => by rw [List.cons_append, joinFrom, joinFrom, joinFrom_app r b]
theorem joinFrom_length : ∀ (P : List Prog) (acc : Prog), (joinFrom acc P).length = acc.length + sumL P
  | [], _ => rfl
  | l :: r, acc => by rw [joinFrom, joinFrom_length r, List.length_append, List.length_map, sumL]; omega
theorem sumL_snoc {P : List Prog} {k : Nat} {l : Prog} (h : P[k]? = some l) : sumL (P.take (k + 1)) = sumL (P.take k) + l.length := by
  rw [List.take_add_one, h, sumL_app]; rfl
theorem joinFrom_snoc {P : List Prog} {k : Nat} {l : Prog} (h : P[k]? = some l) (acc : Prog) : joinFrom acc (P.take (k + 1)) = joinFrom acc (P.take k) ++ l.map (shiftX (joinFrom acc (P.take k)).length) := by
  rw [List.take_add_one, h, joinFrom_app]; rfl
theorem sumL_take (P : List Prog) (k : Nat) : sumL (P.take k) ≤ sumL P := by
  have : sumL P = sumL (P.take k) + sumL (P.drop k) := by rw [← sumL_app, List.take_append_drop]
  omega
theorem errFrom_drop {P : List Prog} {k : Nat} {l : Prog} (h : P[k]? = some l) : errFrom (P.drop k) = if (checkL l).1 = 0 then errFrom (P.drop (k + 1)) else (checkL l).1 := by
  have hk := (List.getElem?_eq_some_iff.1 h).1
  rw [List.drop_eq_getElem_cons hk, errFrom, (List.getElem?_eq_some_iff.1 h).2]
theorem errFrom_all : ∀ {P : List Prog}, errFrom P = 0 → ∀ l ∈ P, (checkL l).1 = 0
  | [], _, l, hl => by cases hl
  | x :: r, h, l, hl => by
    rw [errFrom] at h
    by_cases hx : (checkL x).1 = 0
    · rw [if_pos hx] at h
      rcases List.mem_cons.1 hl with rfl | hl
      · exact hx
      · exact errFrom_all h l hl
    · rw [if_neg hx] at h; exact absurd h hx
theorem checkL_err (l : Prog) : (checkL l).1 = 0 ∨ (checkL l).1 = 150 ∨ (checkL l).1 = 151 ∨ (checkL l).1 = 152 := by
  have h : ∀ (n : Int) (l : Prog) (k : Nat), (checkFrom n k l).1 = 0 ∨ (checkFrom n k l).1 = 151 ∨ (checkFrom n k l).1 = 152 := by
    intro n l
    induction l with
    | nil => intro k; exact .inl rfl
    | cons x r ih =>
      intro k
      rw [checkFrom]
      split
      · exact .inr (.inl rfl)
      · split
        · exact .inr (.inr rfl)
        · exact ih (k + 1)
  unfold checkL
  split
  · exact .inr (.inl rfl)
  · rcases h l.length l 0 with h | h | h
    · exact .inl h
    · exact .inr (.inr (.inl h))
    · exact .inr (.inr (.inr h))
theorem shiftX_zero (x : Int × Int) : shiftX 0 x = x := by
  unfold shiftX
  split
  · simp
  · rfl
theorem shiftX_op (k : Nat) (x : Int × Int) : (shiftX k x).1 = x.1 := by unfold shiftX; split <;> rfl
theorem shiftX_shiftX (a b : Nat) (x : Int × Int) : shiftX a (shiftX b x) = shiftX (a + b) x := by
  unfold shiftX
  by_cases h : takes x.1 = 3
  · simp only [h, if_true]
    rw [show x.2 + (b : Int) + (a : Int) = x.2 + ((a + b : Nat) : Int) by omega]
  · simp only [h, if_false]
theorem joinFrom_nil_one (l : Prog) : joinFrom [] [l] = l := by
  simp only [joinFrom, List.nil_append, List.length_nil]
  rw [show shiftX 0 = id from funext shiftX_zero, List.map_id]
theorem joinFrom_two (a b : Prog) : joinFrom [] [a, b] = a ++ b.map (shiftX a.length) := by
  have := joinFrom_nil_one a
  simp only [joinFrom] at this ⊢
  rw [this]
/-- a program that Check takes stays one when it is moved into a longer one -/
theorem checkFrom_shift {n m : Nat} {s : Nat} (hn : s + n ≤ m) : ∀ (l : Prog) (k j : Nat), (checkFrom n k l).1 = 0 → (checkFrom m j (l.map (shiftX s))).1 = 0
  | [], _, _, h => rfl
  | x :: r, k, j, h => by
    rw [checkFrom] at h
    rw [List.map_cons, checkFrom, shiftX_op]
    by_cases h1 : isOp x.1 = false
    · rw [if_pos h1] at h; simp at h
    · rw [if_neg h1] at h ⊢
      by_cases h2 : mayB (takes x.1) x.2 n = false
      · rw [if_pos h2] at h; simp at h
      · rw [if_neg h2] at h
        rw [if_neg ?_]
        · exact checkFrom_shift hn r (k + 1) (j + 1) h
        · unfold shiftX
          by_cases h3 : takes x.1 = 3
          · rw [if_pos h3]
            rw [h3] at h2 ⊢
            simp [mayB] at h2 ⊢
            omega
          · rw [if_neg h3]
            unfold mayB at h2 ⊢
            rw [if_neg h3] at h2 ⊢
            exact h2
theorem checkFrom_append {n : Int} : ∀ (a b : Prog) (k : Nat), (checkFrom n k a).1 = 0 → (checkFrom n (k + a.length) b).1 = 0 → (checkFrom n k (a ++ b)).1 = 0
  | [], b, k, _, h => by simpa using h
  | x :: r, b, k, h, hb => by
    rw [checkFrom] at h
    rw [List.cons_append, checkFrom]
    by_cases h1 : isOp x.1 = false
    · rw [if_pos h1] at h; simp at h
    · rw [if_neg h1] at h ⊢
      by_cases h2 : mayB (takes x.1) x.2 n = false
      · rw [if_pos h2] at h; simp at h
      · rw [if_neg h2] at h ⊢
        refine checkFrom_append r b (k + 1) h ?_
        rw [List.length_cons] at hb
        rwa [show k + 1 + r.length = k + (r.length + 1) by omega]
theorem checkFrom_more {n m : Nat} (h : n ≤ m) (l : Prog) (k j : Nat) (hc : (checkFrom n k l).1 = 0) : (checkFrom m j l).1 = 0 := by
  have := checkFrom_shift (s := 0) (n := n) (m := m) (by omega) l k j hc
  rwa [show shiftX 0 = id from funext shiftX_zero, List.map_id] at this
theorem checkL_join {a b : Prog} (ha : (checkL a).1 = 0) (hb : (checkL b).1 = 0) (hs : a.length + b.length ≤ 400) : (checkL (joinFrom [] [a, b])).1 = 0 := by
  obtain ⟨a1, a2, _⟩ := checkL_ok ha
  obtain ⟨b1, b2, _⟩ := checkL_ok hb
  unfold checkL at ha hb ⊢
  rw [if_neg (by omega)] at ha hb
  have hl : (joinFrom [] [a, b]).length = a.length + b.length := by rw [joinFrom_length]; simp [sumL]
  rw [if_neg (by omega), hl, joinFrom_two]
  refine checkFrom_append a _ 0 (checkFrom_more (by omega) a 0 0 ha) ?_
  exact checkFrom_shift (by omega) b 0 _ hb
/-- JOIN OF A JOIN IS THE JOIN OF ALL -/
theorem join_left (a b c : Prog) : joinFrom [] [joinFrom [] [a, b], c] = joinFrom [] [a, b, c] := by
  rw [joinFrom_two]
  have e : joinFrom [] [a, b, c] = joinFrom (joinFrom [] [a, b]) [c] := joinFrom_app [a, b] [c] []
  rw [e]
  rfl
theorem join_right (a b c : Prog) : joinFrom [] [a, joinFrom [] [b, c]] = joinFrom [] [a, b, c] := by
  rw [joinFrom_two, joinFrom_two]
  have e : joinFrom [] [a, b, c] = joinFrom (joinFrom [] [a, b]) [c] := joinFrom_app [a, b] [c] []
  rw [e, joinFrom_two, List.map_append, List.map_map]
  show a ++ (b.map (shiftX a.length) ++ c.map (shiftX a.length ∘ shiftX b.length)) = (a ++ b.map (shiftX a.length)) ++ c.map (shiftX (a ++ b.map (shiftX a.length)).length)
  rw [List.length_append, List.length_map, ← List.append_assoc]
  congr 2
  funext x
  exact shiftX_shiftX _ _ _
end Go.Proofs.YtoiokbdipcecnaaGreatDoor
namespace Go.Proofs.YtoiokbdipcecnaaGreatDoor
open Go.RowKit
set_option maxRecDepth 100000

abbrev PartV := Option Addr × Nat × Prog
def progsV (P : List PartV) : List Prog := P.map (·.2.2)
/-- the slice at this address reads as these programs, each by its own slice -/
def SeesR (w : World) (ro : Option Addr) (P : List PartV) : Prop := ∃ b o, (P ≠ [] → ro = some ⟨b, o, none⟩) ∧ ∀ (j : Nat) (x : PartV), P[j]? = some x → w.cell? ⟨b, o + j, none⟩ = some (.slice x.1 x.2.2.length x.2.1) ∧ SeesP w x.1 x.2.2
theorem SeesR.nil (w : World) (ro : Option Addr) : SeesR w ro [] := ⟨0, 0, fun h => absurd rfl h, fun j x hj => by simp at hj⟩
theorem SeesR.below {w w' : World} {ro : Option Addr} {P : List PartV} (h : SeesR w ro P) (hb : Below w.heap.size w w') : SeesR w' ro P := by
  obtain ⟨b, o, h1, h2⟩ := h
  exact ⟨b, o, h1, fun j x hj => ⟨(hb.cell (p := ⟨b, _, none⟩) (block_lt_of_cell (h2 j x hj).1)).trans (h2 j x hj).1, (h2 j x hj).2.below hb⟩⟩
theorem progsV_at {P : List PartV} {k : Nat} {x : PartV} (h : P[k]? = some x) : (progsV P)[k]? = some x.2.2 := by simp [progsV, h]
theorem progsV_length (P : List PartV) : (progsV P).length = P.length := by simp [progsV]
theorem OwnP.set {w : World} {B g cap n : Nat} {l : Prog} (h : OwnP w B (.slice (some ⟨g, 0, none⟩) n cap) l) (_hn : l.length = n) {k : Nat} (hk : k < l.length) (a : Int) :
    OwnP (w.setCell ⟨g, k * 2 + 1, none⟩ (.int .i64 a)) B (.slice (some ⟨g, 0, none⟩) n cap) (l.set k ((l.getD k (0, 0)).1, a)) := by
  subst _hn
  obtain ⟨ho, _⟩ := World.ownsRow.stored h (k * 2 + 1) (.int .i64 a)
  have e := setl (0, a) hk
  simp only at e
  unfold OwnP
  rw [List.length_set, ← e]
  exact ho
theorem OwnP.at' {w : World} {B g cap n : Nat} {l : Prog} (h : OwnP w B (.slice (some ⟨g, 0, none⟩) n cap) l) (hn : l.length = n) {k : Nat} {x : Int × Int} (hx : l[k]? = some x) :
    w.cell? ⟨g, k * 2, none⟩ = some (.int .i64 x.1) ∧ w.cell? ⟨g, k * 2 + 1, none⟩ = some (.int .i64 x.2) ∧ w.frozen? ⟨g, k * 2 + 1, none⟩ = false := by
  subst hn
  have hk := (List.getElem?_eq_some_iff.1 hx).1
  exact ⟨(h.cellAt (k * 2) (by omega)).trans (instrCells_at l k _ hx).1, (h.cellAt (k * 2 + 1) (by omega)).trans (instrCells_at l k _ hx).2, h.frozenAt _⟩
set_option maxHeartbeats 2000000 in
theorem CloneP_some (b off c : Nat) (l : Prog) (w : World) (hbig : l.length * 16 ≤ 140737488351232) (_hcap : l.length ≤ c) (hc : SeesP w (some ⟨b, off, none⟩) l) :
    Calls Tryz.prog 80 #[.slice (some ⟨b, off, none⟩) l.length c] w fun e w' => ∃ v', e = .returned v' ∧ OwnP w' w.heap.size v' l ∧ Below w.heap.size w w' := by
  have q22 : ∀ (w : World) (a : Option Addr) (n c n' c' : Nat), (binOp .eql 45 (.slice a n c) (.slice none n' c')).run Tryz.prog w = .ok (.bool a.isNone) w := fun w a n c n' c' => Lib.run_eql_slice_nil w _ _ a n c n' c' Tryz.underlying45
  have u22 : ∀ w, Sem.run Tryz.prog (underlying 45) w = .ok (TypeDesc.slice 82) w := run_underlying Tryz.underlying45
  have A := Lib.hid hc
  clear hc
  go_enter Tryz.func80, Tryz.ntmps80
  go_wp2_with (at_builtin; refine wpList_appendP (xs := []) (World.ownsRow_made w #[] 0 (Nat.le_refl _) (Nat.zero_le _) rfl) (by simp) (some ⟨b, off, none⟩) l.length c l rfl ((A.out.below ((Below.refl _ _).alloc (Nat.le_refl _) _))) (fun h => by cases h) (by simp; omega) rfl _ _ rfl rfl rfl ?_; intro v' w1 hown hgrow)
  go_wp2
  go_ret
  refine ⟨v', rfl, by simpa using hown, ?_⟩
  exact ((Below.refl _ w).alloc (Nat.le_refl _) _).grown hgrow (by simp) (by intro k hk; simp [Value.ownBlock] at hk; omega)
/-- a program half moved -/
def midP (acc l : Prog) (t : Nat) : Prog := acc ++ ((l.take t).map (shiftX acc.length) ++ l.drop t)
theorem midP_length (acc l : Prog) (t : Nat) (h : t ≤ l.length) : (midP acc l t).length = acc.length + l.length := by
  simp [midP]; omega
theorem midP_at (acc l : Prog) (t : Nat) {x : Int × Int} (h : l[t]? = some x) : (midP acc l t)[acc.length + t]? = some x := by
  have ht := (List.getElem?_eq_some_iff.1 h).1
  unfold midP
  rw [List.getElem?_append_right (by omega), List.getElem?_append_right (by simp; omega)]
  simp only [List.length_map, List.length_take]
  rw [List.getElem?_drop]
  rw [show t + (acc.length + t - acc.length - min t l.length) = t by omega]
  exact h
theorem midP_step (acc l : Prog) (t : Nat) {x : Int × Int} (h : l[t]? = some x) : midP acc l (t + 1) = (midP acc l t).set (acc.length + t) (shiftX acc.length x) := by
  have ht := (List.getElem?_eq_some_iff.1 h).1
  unfold midP
  rw [List.set_append_right _ _ (by omega), List.set_append_right _ _ (by simp; omega)]
  congr 1
  rw [List.take_add_one, h]
  simp only [Option.toList, List.map_append, List.map_cons, List.map_nil, List.append_assoc, List.length_map, List.length_take]
  congr 1
  rw [List.drop_eq_getElem_cons ht, show acc.length + t - acc.length - min t l.length = 0 by omega]
  rfl
theorem midP_keep (acc l : Prog) (t : Nat) {x : Int × Int} (h : l[t]? = some x) (hs : shiftX acc.length x = x) : midP acc l (t + 1) = midP acc l t := by
  rw [midP_step acc l t h, hs]
  apply List.ext_getElem?
  intro j
  rw [List.getElem?_set]
  split
  · rename_i e
    subst e
    rw [midP_at acc l t h, if_pos (by rw [midP_length acc l t (by have := (List.getElem?_eq_some_iff.1 h).1; omega)]; have := (List.getElem?_eq_some_iff.1 h).1; omega)]
  · rfl
theorem midP_end (acc l : Prog) : midP acc l l.length = acc ++ l.map (shiftX acc.length) := by simp [midP]
theorem midP_zero (acc l : Prog) : midP acc l 0 = acc ++ l := by simp [midP]
end Go.Proofs.YtoiokbdipcecnaaGreatDoor
