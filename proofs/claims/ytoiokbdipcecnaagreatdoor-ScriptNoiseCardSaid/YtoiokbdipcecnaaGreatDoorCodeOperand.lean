/-
  (*reader).operand: what it reads, or the fault that it panics with, for every text of at most 65536 bytes. Condition: the reader's place in memory (Rd), the library's variables (Env).
-/
import Derived.Test.YtoiokbdipcecnaaGreatDoorCodeRd
import Derived.StillTailTactics
namespace Go.Proofs.YtoiokbdipcecnaaGreatDoor
open Go.RowKit Go.Maps
set_option maxRecDepth 100000

def fault (e line : Int) : Ending := .panicked [{ v := .iface 153 (.agg #[.int .i64 e, .int .i64 line]), recovered := false }]

/-- what operand reads; none: the line is none. -/
def operandS (st : RS) (tk : Int) (s : List UInt8) : Option (Int × List (Nat × List UInt8)) :=
  if tk = 3 ∧ isNameB s = true then some (0, (st.l.length, s) :: st.named)
  else if (numberB s).2 = false ∨ (tk = 2 ∧ ((numberB s).1 < 0 ∨ 8 ≤ (numberB s).1)) ∨ (tk = 3 ∧ (numberB s).1 < 0) then none
  else some ((numberB s).1, st.named)

/-- what a call of operand comes to where it reads -/
def OperandGives (w : World) (B rb lb nb : Nat) (vl vls : Value) (st : RS) (line a : Int) (nm : List (Nat × List UInt8)) (e : Ending) (w' : World) : Prop :=
  e = .returned (.int .i64 a) ∧ Rd w' B rb lb nb vl vls { st with named := nm } line ∧ Below B w w' ∧ w.heap.size ≤ w'.heap.size ∧ (∀ g, g < w.heap.size → g ≠ nb → w'.heap[g]? = w.heap[g]?)
section
variable {w : World} {B rb lb nb : Nat} {vl vls : Value} {st : RS} {line : Int}
theorem Rd.put_named {w' : World} (h : Rd w B rb lb nb vl vls st line) (hn : st.named.length ≤ 400) (s : List UInt8)
    (hown : w'.ownsMap Tryz.prog 3 (plainElem Tryz.prog 9) nb (st.named.length + 1) ((namD st.named).put (.int .i64 st.l.length) (.lit (.string s)))) (hg : w.grownBy w' (some nb)) :
    Rd w' B rb lb nb vl vls { st with named := (st.l.length, s) :: st.named } line := by
  have k : ∀ g o, w.heap[g]? = some o → (∀ (es : Array MapEntry) (c : Nat), o ≠ Obj.map es c) → w'.heap[g]? = w.heap[g]? := fun g o hg' hne => by
    refine hg.block g (lt_of_block hg') ?_
    intro e
    injection e with e
    obtain ⟨es, c, h2⟩ := map_block h.nam
    rw [e, h2] at hg'
    injection hg' with hg'
    exact hne es c hg'.symm
  refine ⟨(k rb _ h.blk (by intros; simp)).trans h.blk, ownsRow_at h.own (fun g hg' => ?_), ownsRow_at h.ownl (fun g hg' => ?_), h.lab.kept hg (by have := h.ne; intro e; injection e with e; omega), hown, h.ne, h.b1, h.b2, h.b3, h.n1, h.n2, by simp; omega, h.n4, h.ap⟩
  · obtain ⟨_, hc⟩ := own_block h.own hg'; exact k g _ hc (by intros; simp)
  · obtain ⟨_, hc⟩ := own_block h.ownl hg'; exact k g _ hc (by intros; simp)

set_option maxHeartbeats 1000000 in
theorem operand_name (s : ByteArray) (hs : s.size ≤ 65536) (he : Env w) (h : Rd w B rb lb nb vl vls st line) (hn3 : st.named.length ≤ 400) (hname : isNameB s.data.toList = true) :
    Calls Tryz.prog 133 #[.pointer (some ⟨rb, 0, none⟩), .int .i64 3, .string s] w
      fun e w' => e = .returned (.int .i64 0) ∧ Rd w' B rb lb nb vl vls { st with named := (st.l.length, s.data.toList) :: st.named } line ∧ Below B w w' ∧ w.heap.size ≤ w'.heap.size ∧ (∀ g, g < w.heap.size → g ≠ nb → w'.heap[g]? = w.heap[g]?) := by
  obtain ⟨ao, cap, rfl⟩ := (vl_form h).1
  have hl := h.n1
  go_enter Tryz.func133, Tryz.ntmps133
  go_wp2_with (first | (go_at_call 151; refine (number_any s _ hs he).mono ?_; rintro e w1 ⟨rfl, hb⟩; have h1 := h.below hb; obtain ⟨c0, c1, c2, c3, c4⟩ := h1.cells) | (go_at_call 129; refine (isName_any s _ (by unfold maxLen; omega)).mono ?_; rintro e w2 ⟨rfl, rfl⟩))
  go_still_tail 10, (by kernel_rfl)
  refine wpList_mapUpdate_own (H := Unit) w1.drew rfl _ _ _ 156 rfl 3 9 intLaw Tryz.underlying156 _ nb st.named.length (namD st.named) rfl h1.nam.drew (by unfold maxLen; omega) _ _ (.int .i64 st.l.length) rfl rfl (keyOf_int_mk Tryz.underlying3 (WalkArith.wf_i64 (by omega))) _ _ (plainElem_string Tryz.underlying9 (by unfold maxLen; omega)) ?_
  intro w2 hown2 hg2
  have hg3 : w1.grownBy w2 (some nb) := ⟨hg2.os, hg2.tape, hg2.output, hg2.size, hg2.block⟩
  have h2 := h1.put_named hn3 s.data.toList hown2 hg3
  have hb2 : Below B w w2 := (hb.mono (by have := lt_of_block h.blk; have := h.b1; omega)).grown hg3 (by have := lt_of_block h1.blk; have := h.b1; omega) (fun k e => by injection e with e; have := h.b3; omega)
  have hz : w.heap.size ≤ w2.heap.size := Nat.le_trans hb.size hg3.size
  have hk : ∀ g, g < w.heap.size → g ≠ nb → w2.heap[g]? = w.heap[g]? := fun g hg hne => (hg3.block g (by have := hb.size; omega) (by intro e; injection e with e; omega)).trans (hb.block g hg)
  have HK := Lib.hid hk
  clear hk
  clear hown2 hg2 hg3 c0 c1 c2 c3 c4
  go_wp2
  go_ret
  exact ⟨rfl, h2, hb2, hz, HK.out⟩
set_option maxHeartbeats 1000000 in
/-- where no name stands: the number decides -/
theorem operand_num (s : ByteArray) (tk n : Int) (ok : Bool) (hs : s.size ≤ 65536) (he : Env w) (_h : Rd w B rb lb nb vl vls st line) (hno : tk = 3 → isNameB s.data.toList = false)
    (hn : numberB s.data.toList = (n, ok)) (hgood : ok = true ∧ (tk = 2 → 0 ≤ n ∧ n < 8) ∧ (tk = 3 → 0 ≤ n)) :
    Calls Tryz.prog 133 #[.pointer (some ⟨rb, 0, none⟩), .int .i64 tk, .string s] w
      fun e w' => e = .returned (.int .i64 n) ∧ Below w.heap.size w w' := by
  have hnum : ∀ w, Env w → Calls Tryz.prog 151 #[.string s] w fun e w' => e = .returned (.tuple #[.int .i64 n, .bool ok]) ∧ Below w.heap.size w w' := fun w he => by
    have := number_any s w hs he
    rwa [hn] at this
  have HN := Lib.hid hnum
  clear hnum hn
  obtain ⟨rfl, g2, g3⟩ := hgood
  by_cases t3 : tk = 3
  · subst t3
    have hno' := hno rfl
    have k3 := g3 rfl
    clear g2 g3 hno
    go_enter Tryz.func133, Tryz.ntmps133
    go_wp2_with (first | (go_at_call 151; refine (HN.out _ he).mono ?_; rintro e w1 ⟨rfl, hb⟩) | (go_at_call 129; refine (isName_any s _ (by unfold maxLen; omega)).mono ?_; rintro e w2 ⟨rfl, rfl⟩))
    go_ret
    exact ⟨rfl, hb⟩
  · have e3 : (tk == 3) = false := by simpa using t3
    by_cases t2 : tk = 2
    · subst t2
      obtain ⟨k1, k2⟩ := g2 rfl
      clear g2 g3 hno
      go_enter Tryz.func133, Tryz.ntmps133
      go_wp2_with (first | (go_at_call 151; refine (HN.out _ he).mono ?_; rintro e w1 ⟨rfl, hb⟩))
      go_ret
      exact ⟨rfl, hb⟩
    · have e2 : (tk == 2) = false := by simpa using t2
      clear g2 g3 hno
      go_enter Tryz.func133, Tryz.ntmps133
      go_wp2_with (first | (go_at_call 151; refine (HN.out _ he).mono ?_; rintro e w1 ⟨rfl, hb⟩))
      go_ret
      exact ⟨rfl, hb⟩
set_option maxHeartbeats 1000000 in
/-- where the line is none -/
theorem operand_bad (s : ByteArray) (tk n : Int) (ok : Bool) (hs : s.size ≤ 65536) (he : Env w) (h : Rd w B rb lb nb vl vls st line) (hno : tk = 3 → isNameB s.data.toList = false)
    (hn : numberB s.data.toList = (n, ok)) (hbad : ok = false ∨ (tk = 2 ∧ (n < 0 ∨ 8 ≤ n)) ∨ (tk = 3 ∧ n < 0)) :
    Calls Tryz.prog 133 #[.pointer (some ⟨rb, 0, none⟩), .int .i64 tk, .string s] w
      fun e w' => e = fault 153 line ∧ Below w.heap.size w w' := by
  have hnum : ∀ w, Env w → Calls Tryz.prog 151 #[.string s] w fun e w' => e = .returned (.tuple #[.int .i64 n, .bool ok]) ∧ Below w.heap.size w w' := fun w he => by
    have := number_any s w hs he
    rwa [hn] at this
  have HN := Lib.hid hnum
  clear hnum hn
  by_cases t3 : tk = 3
  · subst t3
    have hno' := hno rfl
    clear hno
    have hb3 : ok = false ∨ (ok = true ∧ n < 0) := by cases ok <;> simp_all
    clear hbad
    rcases hb3 with rfl | ⟨rfl, k3⟩
    all_goals
      go_enter Tryz.func133, Tryz.ntmps133
      go_wp2_with (first | (go_at_call 151; refine (HN.out _ he).mono ?_; rintro e w1 ⟨rfl, hb⟩; have h1 := (h.below hb).cells.2.2.2.2) | (go_at_call 129; refine (isName_any s _ (by unfold maxLen; omega)).mono ?_; rintro e w2 ⟨rfl, rfl⟩) | (go_at_call 130; refine (fail_any rb 153 line _ h1).mono ?_; rintro e w2 ⟨rfl, rfl⟩))
      exact ⟨rfl, rfl, hb⟩
  · have e3 : (tk == 3) = false := by simpa using t3
    have hb3 : ok = false ∨ (ok = true ∧ tk = 2 ∧ n < 0) ∨ (ok = true ∧ tk = 2 ∧ 8 ≤ n) := by cases ok <;> simp_all
    clear hbad hno
    rcases hb3 with rfl | ⟨rfl, rfl, k3⟩ | ⟨rfl, rfl, k3⟩
    all_goals
      go_enter Tryz.func133, Tryz.ntmps133
      go_wp2_with (first | (go_at_call 151; refine (HN.out _ he).mono ?_; rintro e w1 ⟨rfl, hb⟩; have h1 := (h.below hb).cells.2.2.2.2) | (go_at_call 130; refine (fail_any rb 153 line _ h1).mono ?_; rintro e w2 ⟨rfl, rfl⟩))
      exact ⟨rfl, rfl, hb⟩
/-- operand where it reads -/
theorem operand_ok (s : ByteArray) (tk a : Int) (nm : List (Nat × List UInt8)) (hs : s.size ≤ 65536) (he : Env w) (h : Rd w B rb lb nb vl vls st line) (hn3 : st.named.length ≤ 400) (ho : operandS st tk s.data.toList = some (a, nm)) :
    Calls Tryz.prog 133 #[.pointer (some ⟨rb, 0, none⟩), .int .i64 tk, .string s] w (OperandGives w B rb lb nb vl vls st line a nm) := by
  unfold operandS at ho
  split at ho
  · rename_i hc
    obtain ⟨rfl, hname⟩ := hc
    injection ho with ho
    injection ho with h1 h2
    subst h1; subst h2
    exact operand_name s hs he h hn3 hname
  · rename_i hc
    split at ho
    · cases ho
    · rename_i hb
      injection ho with ho
      injection ho with h1 h2
      subst h1; subst h2
      refine (operand_num s tk (numberB s.data.toList).1 (numberB s.data.toList).2 hs he h (fun e => ?_) rfl ?_).mono ?_
      · cases hb2 : isNameB s.data.toList
        · rfl
        · exact absurd ⟨e, hb2⟩ hc
      · refine ⟨?_, fun e => ?_, fun e => ?_⟩
        · cases hb2 : (numberB s.data.toList).2
          · exact absurd (.inl hb2) hb
          · rfl
        · constructor
          · exact Int.not_lt.1 (fun hl => hb (.inr (.inl ⟨e, .inl hl⟩)))
          · exact Int.not_le.1 (fun hl => hb (.inr (.inl ⟨e, .inr hl⟩)))
        · exact Int.not_lt.1 (fun hl => hb (.inr (.inr ⟨e, hl⟩)))
      · rintro e w' ⟨rfl, hbw⟩
        exact ⟨rfl, h.below hbw, hbw.mono (by have := lt_of_block h.blk; have := h.b1; omega), hbw.size, fun g hg _ => hbw.block g hg⟩
/-- operand where the line is none -/
theorem operand_fails (s : ByteArray) (tk : Int) (hs : s.size ≤ 65536) (he : Env w) (h : Rd w B rb lb nb vl vls st line) (ho : operandS st tk s.data.toList = none) :
    Calls Tryz.prog 133 #[.pointer (some ⟨rb, 0, none⟩), .int .i64 tk, .string s] w fun e w' => e = fault 153 line ∧ Below w.heap.size w w' := by
  unfold operandS at ho
  split at ho
  · cases ho
  · rename_i hc
    split at ho
    · rename_i hb
      refine operand_bad s tk (numberB s.data.toList).1 (numberB s.data.toList).2 hs he h (fun e => ?_) rfl hb
      cases hb2 : isNameB s.data.toList
      · rfl
      · exact absurd ⟨e, hb2⟩ hc
    · cases ho
end
end Go.Proofs.YtoiokbdipcecnaaGreatDoor
