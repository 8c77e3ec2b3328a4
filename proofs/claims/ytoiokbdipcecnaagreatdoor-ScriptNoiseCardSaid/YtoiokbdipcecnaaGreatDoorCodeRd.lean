/-
  THE READER OF A PROGRAM's TEXT: its state as data, how it lies in memory, and what becomes of it. No condition.
-/
import Derived.Test.YtoiokbdipcecnaaGreatDoorCodeName
import Derived.Test.YtoiokbdipcecnaaGreatDoorCodeTrim
import Derived.Maps.OwnSet
import Derived.Maps.OwnOps
import Derived.Maps.StringElems
import Derived.Lib.SmallJoins
namespace Go.Proofs.YtoiokbdipcecnaaGreatDoor
open Go.RowKit Go.Maps

/-- The state of a reader: instructions, labels (the newest first), which operands are names (the newest first), the instructions' lines. -/
structure RS where
  l : List (Int × Int)
  labels : List (List UInt8 × Nat)
  named : List (Nat × List UInt8)
  lines : List Int

def labD : List (List UInt8 × Nat) → DataW Unit
  | [] => .map []
  | (n, k) :: r => (labD r).put (.string n) (.lit (.int .i64 k))
def namD : List (Nat × List UInt8) → DataW Unit
  | [] => .map []
  | (k, n) :: r => (namD r).put (.int .i64 k) (.lit (.string n))
theorem strKey (n : List UInt8) : WideAt.IsKeyLit (.string n) := trivial
theorem intKey (n : Nat) : WideAt.IsKeyLit (.int .i64 n) := trivial
theorem isMap_labD : ∀ r, IsMap (labD r)
  | [] => isMap_empty
  | (_, _) :: r => (isMap_labD r).put _ _
theorem isMap_namD : ∀ r, IsMap (namD r)
  | [] => isMap_empty
  | (_, _) :: r => (isMap_namD r).put _ _
def labAt (r : List (List UInt8 × Nat)) (n : List UInt8) : Option Nat := (r.find? (·.1 == n)).map (·.2)
def namAt (r : List (Nat × List UInt8)) (k : Nat) : Option (List UInt8) := (r.find? (·.1 == k)).map (·.2)
theorem lab_has (n : List UInt8) : ∀ r, Maps.has (labD r) (.string n) = (labAt r n).isSome ∧ (labD r).atKey (.string n) (.lit (.int .i64 0)) = .lit (.int .i64 ((labAt r n).getD 0 : Nat))
  | [] => ⟨rfl, rfl⟩
  | (m, k) :: r => by
    by_cases e : m = n
    · subst e
      simp [labD, labAt, has_put_same (isMap_labD r) (strKey m), atKey_put_same (isMap_labD r) (strKey m)]
    · have e1 : (Lit.string n) ≠ .string m := fun h => e (by injection h with h; exact h.symm)
      have e2 : (m == n) = false := by simpa using e
      have ih := lab_has n r
      simp only [labD, has_put_other e1, atKey_put_other e1, ih, labAt, List.find?_cons, e2]
      exact ⟨trivial, trivial⟩
theorem nam_has (n : Nat) : ∀ r, Maps.has (namD r) (.int .i64 n) = (namAt r n).isSome ∧ (namD r).atKey (.int .i64 n) (.lit (.string [])) = .lit (.string ((namAt r n).getD []))
  | [] => ⟨rfl, rfl⟩
  | (m, k) :: r => by
    by_cases e : m = n
    · subst e
      simp [namD, namAt, has_put_same (isMap_namD r) (intKey m), atKey_put_same (isMap_namD r) (intKey m)]
    · have e1 : (Lit.int .i64 (n : Int)) ≠ .int .i64 (m : Int) := fun h => e (by injection h with _ h; omega)
      have e2 : (m == n) = false := by simpa using e
      have ih := nam_has n r
      simp only [namD, has_put_other e1, atKey_put_other e1, ih, namAt, List.find?_cons, e2]
      exact ⟨trivial, trivial⟩
theorem tidy_labD : ∀ r, Tidy (labD r)
  | [] => tidy_empty
  | (_, _) :: r => (tidy_labD r).put (strKey _) _
/-- no label twice -/
def Apart : List (List UInt8 × Nat) → Prop
  | [] => True
  | (n, _) :: r => labAt r n = none ∧ Apart r
theorem size_labD : ∀ r, Apart r → Maps.size (labD r) = r.length
  | [], _ => rfl
  | (n, k) :: r, h => by
    rw [labD, size_put (tidy_labD r), (lab_has n r).1, h.1, size_labD r h.2]
    rfl

def instrCells (l : List (Int × Int)) : List Value := l.flatMap fun x => [.int .i64 x.1, .int .i64 x.2]
def intCells (l : List Int) : List Value := l.map (Value.int .i64)
theorem instrCells_length : ∀ l, (instrCells l).length = l.length * 2
  | [] => rfl
  | x :: l => by
    have := instrCells_length l
    simp only [instrCells, List.flatMap_cons, List.length_append, List.length_cons, List.length_nil] at *
    omega
theorem instrCells_snoc (l : List (Int × Int)) (x : Int × Int) : instrCells (l ++ [x]) = instrCells l ++ [.int .i64 x.1, .int .i64 x.2] := by
  simp [instrCells]
theorem instrCells_at : ∀ (l : List (Int × Int)) (k : Nat) (x : Int × Int), l[k]? = some x → (instrCells l)[k*2]? = some (.int .i64 x.1) ∧ (instrCells l)[k*2+1]? = some (.int .i64 x.2)
  | [], k, x, h => by simp at h
  | y :: l, 0, x, h => by
    simp at h; subst h
    exact ⟨rfl, rfl⟩
  | y :: l, k+1, x, h => by
    have := instrCells_at l k x (by simpa using h)
    rw [show (k+1)*2 = k*2+1+1 by omega]
    exact this

/-- how a reader lies in memory: its block, the two maps' blocks, the two rows that it owns. -/
structure Rd (w : World) (B rb lb nb : Nat) (vl vls : Value) (st : RS) (line : Int) : Prop where
  blk : w.heap[rb]? = some (.cells #[vl, .map (some lb), .map (some nb), vls, .int .i64 line] 158)
  own : w.ownsRow B 82 2 vl st.l.length (instrCells st.l)
  ownl : w.ownsRow B 3 1 vls st.lines.length (intCells st.lines)
  lab : w.ownsMap Tryz.prog 9 (plainElem Tryz.prog 3) lb st.labels.length (labD st.labels)
  nam : w.ownsMap Tryz.prog 3 (plainElem Tryz.prog 9) nb st.named.length (namD st.named)
  ne : lb ≠ nb
  b1 : B ≤ rb
  b2 : B ≤ lb
  b3 : B ≤ nb
  n1 : st.l.length ≤ 400
  n2 : st.labels.length ≤ 400
  n3 : st.named.length ≤ 401
  n4 : st.lines.length ≤ 400
  ap : Apart st.labels

theorem map_block {w : World} {P : Program} {k : TypeId} {R : Value → Option (DataW Unit × List MemPlace)} {b n : Nat} {D : DataW Unit} (h : w.ownsMap P k R b n D) : ∃ es c, w.heap[b]? = some (.map es c) :=
  let ⟨es, c, h, _⟩ := h; ⟨es, c, h⟩
theorem lt_of_block {w : World} {b : Nat} {o : Obj} (h : w.heap[b]? = some o) : b < w.heap.size := by
  rcases Nat.lt_or_ge b w.heap.size with h1 | h1
  · exact h1
  · rw [Array.getElem?_eq_none h1] at h; cases h
section
variable {w w' : World} {B rb lb nb : Nat} {vl vls : Value} {st : RS} {line : Int}
theorem ownsRow_at {base : Nat} {e : TypeId} {size n : Nat} {v : Value} {xs : List Value} (h : w.ownsRow base e size v n xs) (hk : ∀ g, v.ownBlock = some g → w'.heap[g]? = w.heap[g]?) : w'.ownsRow base e size v n xs := by
  obtain ⟨h1, h2⟩ := h
  refine ⟨h1, ?_⟩
  rcases h2 with h2 | ⟨g, cap, cur, hv, hg, hh, r⟩
  · exact Or.inl h2
  · exact Or.inr ⟨g, cap, cur, hv, hg, by rw [hk g (by rw [hv]; rfl)]; exact hh, r⟩
theorem ownsMap_at {P : Program} {k : TypeId} {R : Value → Option (DataW Unit × List MemPlace)} {b n : Nat} {D : DataW Unit} (h : w.ownsMap P k R b n D) (hk : w'.heap[b]? = w.heap[b]?) : w'.ownsMap P k R b n D := by
  obtain ⟨es, c, h1, h2⟩ := h
  exact ⟨es, c, by rw [hk]; exact h1, h2⟩
theorem own_block {base : Nat} {e : TypeId} {size n : Nat} {v : Value} {xs : List Value} (h : w.ownsRow base e size v n xs) {g : Nat} (hg : v.ownBlock = some g) : ∃ cur, w.heap[g]? = some (.cells cur e) := by
  rcases h.2 with ⟨hv, _⟩ | ⟨g', cap, cur, hv, _, hh, _⟩
  · rw [hv] at hg; cases hg
  · rw [hv] at hg
    have e1 : g' = g := by simpa [Value.ownBlock] using hg
    subst e1
    exact ⟨cur, hh⟩
theorem Rd.below (h : Rd w B rb lb nb vl vls st line) (hb : Below w.heap.size w w') : Rd w' B rb lb nb vl vls st line := by
  obtain ⟨_, _, g1⟩ := map_block h.lab
  obtain ⟨_, _, g2⟩ := map_block h.nam
  exact ⟨(hb.block _ (lt_of_block h.blk)).trans h.blk, ownsRow_at h.own (fun g hg => by obtain ⟨_, hc⟩ := own_block h.own hg; exact hb.block _ (lt_of_block hc)),
    ownsRow_at h.ownl (fun g hg => by obtain ⟨_, hc⟩ := own_block h.ownl hg; exact hb.block _ (lt_of_block hc)),
    ownsMap_at h.lab (hb.block _ (lt_of_block g1)), ownsMap_at h.nam (hb.block _ (lt_of_block g2)), h.ne, h.b1, h.b2, h.b3, h.n1, h.n2, h.n3, h.n4, h.ap⟩
/-- the blocks that a reader lies in -/
def RdIn (rb lb nb : Nat) (vl vls : Value) (g : Nat) : Prop := g = rb ∨ g = lb ∨ g = nb ∨ vl.ownBlock = some g ∨ vls.ownBlock = some g
theorem Rd.lt (h : Rd w B rb lb nb vl vls st line) {g : Nat} (hg : RdIn rb lb nb vl vls g) : g < w.heap.size := by
  rcases hg with rfl | rfl | rfl | hg | hg
  · exact lt_of_block h.blk
  · exact h.lab.lt
  · exact h.nam.lt
  · obtain ⟨_, hc⟩ := own_block h.own hg; exact lt_of_block hc
  · obtain ⟨_, hc⟩ := own_block h.ownl hg; exact lt_of_block hc
theorem Rd.same (h : Rd w B rb lb nb vl vls st line) (hk : ∀ g, RdIn rb lb nb vl vls g → w'.heap[g]? = w.heap[g]?) : Rd w' B rb lb nb vl vls st line :=
  ⟨(hk _ (.inl rfl)).trans h.blk, ownsRow_at h.own (fun g hg => hk g (.inr (.inr (.inr (.inl hg))))), ownsRow_at h.ownl (fun g hg => hk g (.inr (.inr (.inr (.inr hg))))),
    ownsMap_at h.lab (hk _ (.inr (.inl rfl))), ownsMap_at h.nam (hk _ (.inr (.inr (.inl rfl)))), h.ne, h.b1, h.b2, h.b3, h.n1, h.n2, h.n3, h.n4, h.ap⟩
/-- what lay before, but for the reader's own blocks, lies as it did -/
def Keep (w w' : World) (rb lb nb : Nat) (vl vls : Value) : Prop := ∀ g, g < w.heap.size → ¬ RdIn rb lb nb vl vls g → w'.heap[g]? = w.heap[g]?
theorem Keep.of_below (h : Below w.heap.size w w') : Keep w w' rb lb nb vl vls := fun g hg _ => h.block g hg
theorem Keep.push1 {W w2 : World} {O : Obj} {k : Nat} {u : Value} (h : Keep w W rb lb nb vl vls) (hz : w.heap.size ≤ W.heap.size) (hg : (W.alloc O).drew.grownBy w2 vl.ownBlock) : Keep w (w2.setCell ⟨rb, k, none⟩ u) rb lb nb vl vls := fun g hgl hn =>
  (heap_setCell_other _ _ _ _ (fun e => hn (.inl e))).trans ((hg.block g (by show g < (W.alloc O).heap.size; simp; omega) (fun e => hn (.inr (.inr (.inr (.inl e.symm)))))).trans ((Below.heap_alloc W O g (by omega)).trans (h g hgl hn)))
theorem Keep.push2 {W w2 : World} {O : Obj} {k : Nat} {u : Value} (h : Keep w W rb lb nb vl vls) (hz : w.heap.size ≤ W.heap.size) (hg : (W.alloc O).drew.grownBy w2 vls.ownBlock) : Keep w (w2.setCell ⟨rb, k, none⟩ u) rb lb nb vl vls := fun g hgl hn =>
  (heap_setCell_other _ _ _ _ (fun e => hn (.inl e))).trans ((hg.block g (by show g < (W.alloc O).heap.size; simp; omega) (fun e => hn (.inr (.inr (.inr (.inr e.symm)))))).trans ((Below.heap_alloc W O g (by omega)).trans (h g hgl hn)))
theorem Rd.cells (h : Rd w B rb lb nb vl vls st line) : w.cell? ⟨rb, 0, none⟩ = some vl ∧ w.cell? ⟨rb, 1, none⟩ = some (.map (some lb)) ∧ w.cell? ⟨rb, 2, none⟩ = some (.map (some nb)) ∧ w.cell? ⟨rb, 3, none⟩ = some vls ∧ w.cell? ⟨rb, 4, none⟩ = some (.int .i64 line) := by
  have := h.blk
  refine ⟨?_, ?_, ?_, ?_, ?_⟩ <;> simp [World.cell?, this]
theorem Rd.frozen (h : Rd w B rb lb nb vl vls st line) (k : Nat) : w.frozen? ⟨rb, k, none⟩ = false := by
  have := h.blk
  simp [World.frozen?, this]
end
theorem vl_form {w : World} {B rb lb nb : Nat} {vl vls : Value} {st : RS} {line : Int} (h : Rd w B rb lb nb vl vls st line) : (∃ ao cap, vl = .slice ao st.l.length cap) ∧ ∃ ao cap, vls = .slice ao st.lines.length cap := by
  constructor
  · rcases Joins.ownsRow_forms h.own with ⟨h1, h2⟩ | ⟨g, cap, h1⟩
    · exact ⟨none, 0, by rw [h1, h2]⟩
    · exact ⟨_, _, h1⟩
  · rcases Joins.ownsRow_forms h.ownl with ⟨h1, h2⟩ | ⟨g, cap, h1⟩
    · exact ⟨none, 0, by rw [h1, h2]⟩
    · exact ⟨_, _, h1⟩
theorem strLaw : Keyed Tryz.prog 9 := string_keyed Tryz.underlying9
theorem intLaw : Keyed Tryz.prog 3 := int_keyed Tryz.underlying3
theorem zeroInt (w : World) : (zeroValue 3).run Tryz.prog w = .ok (.int .i64 0) w := by kernel_rfl
theorem zeroStr (w : World) : (zeroValue 9).run Tryz.prog w = .ok (.string .empty) w := by kernel_rfl
end Go.Proofs.YtoiokbdipcecnaaGreatDoor
