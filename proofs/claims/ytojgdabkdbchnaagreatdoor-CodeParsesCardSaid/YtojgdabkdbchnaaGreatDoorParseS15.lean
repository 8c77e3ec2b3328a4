/-
  PLAIN LAWS OF THE DOCUMENT's Parse: what it keeps of a text beside what the program's reader keeps. No condition.
-/
import Derived.Test.YtojgdabkdbchnaaGreatDoorRefOne15
namespace Go.Proofs.YtojgdabkdbchnaaGreatDoor
open Go.RowKit
set_option maxRecDepth 100000

/-- an instruction as the document keeps it: op, operand, line, label -/
abbrev SaidQ := Int × Int × Int × List UInt8
structure RelQ (Q : List SaidQ) (st : RS) : Prop where
  l : st.l = Q.map fun q => (q.1, q.2.1)
  ln : st.lines = Q.map fun q => q.2.2.1
  nm : ∀ (i : Nat) (q : SaidQ), Q[i]? = some q → namAt st.named i = if q.2.2.2 = [] then none else some q.2.2.2
  no : ∀ i, Q.length ≤ i → namAt st.named i = none
  tk : ∀ q ∈ Q, q.2.2.2 ≠ [] → takes q.1 = 3
  sz : ∀ q ∈ Q, q.2.2.2.length ≤ 65536
theorem RelQ.len {Q : List SaidQ} {st : RS} (h : RelQ Q st) : st.l.length = Q.length := by rw [h.l]; simp
theorem relQ_nil : RelQ [] ⟨[], [], [], []⟩ := ⟨rfl, rfl, (fun i q h => by simp at h), fun _ _ => rfl, (fun q h => by cases h), (fun q h => by cases h)⟩
theorem relQ_labels {Q : List SaidQ} {st : RS} (h : RelQ Q st) (L : List (List UInt8 × Nat)) : RelQ Q { st with labels := L } := ⟨h.l, h.ln, h.nm, h.no, h.tk, h.sz⟩
theorem relQ_push {Q : List SaidQ} {st : RS} (h : RelQ Q st) (op a line : Int) (nm : List UInt8) (htk : nm ≠ [] → takes op = 3) (hsz : nm.length ≤ 65536) :
    RelQ (Q ++ [(op, a, line, nm)]) { st with l := st.l ++ [(op, a)], lines := st.lines ++ [line], named := if nm = [] then st.named else (st.l.length, nm) :: st.named } := by
  have hlen := h.len
  refine ⟨by simp [h.l], by simp [h.ln], fun i q hq => ?_, fun i hi => ?_, fun q hq => ?_, fun q hq => ?_⟩
  · simp only
    by_cases hi : i < Q.length
    · rw [List.getElem?_append_left hi] at hq
      have h1 := h.nm i q hq
      split
      · exact h1
      · rw [namAt_cons, if_neg (by omega)]; exact h1
    · have hi2 : i = Q.length := by
        have := (List.getElem?_eq_some_iff.1 hq).1
        simp at this; omega
      subst hi2
      simp at hq
      subst hq
      simp only
      split
      · rw [h.no _ (Nat.le_refl _)]
      · rw [namAt_cons, if_pos hlen]
  · simp only
    simp at hi
    split
    · exact h.no i (by omega)
    · rw [namAt_cons, if_neg (by omega)]; exact h.no i (by omega)
  · rcases List.mem_append.1 hq with hq | hq
    · exact h.tk q hq
    · simp at hq; subst hq; exact htk
  · rcases List.mem_append.1 hq with hq | hq
    · exact h.sz q hq
    · simp at hq; subst hq; exact hsz
theorem suffix_colon (a : List UInt8) (c : UInt8) : Lib.hasSuffix (a ++ [c]) [58] = (c == 58) := by
  unfold Lib.hasSuffix
  rw [Bool.eq_iff_iff, List.isSuffixOf_iff_suffix, beq_iff_eq]
  constructor
  · rintro ⟨t, ht⟩
    have := congrArg List.getLast? ht
    simp at this
    exact this.symm
  · rintro rfl
    exact ⟨a, rfl⟩
theorem trim_colon (a : List UInt8) : Lib.trimSuffix (a ++ [58]) [58] = a := by
  unfold Lib.trimSuffix
  rw [suffix_colon]
  simp
theorem takeWhile_clean : ∀ (x : List UInt8), ∀ b ∈ x.takeWhile (· != 59), b ≠ 59
  | [], b, hb => by cases hb
  | c :: r, b, hb => by
    rw [List.takeWhile_cons] at hb
    split at hb
    · rename_i h
      rcases List.mem_cons.1 hb with rfl | hb
      · simpa using h
      · exact takeWhile_clean r b hb
    · cases hb
theorem cut_clean : ∀ (x : List UInt8), ∀ b ∈ (Lib.cut x [59]).1, b ≠ 59 := by
  have key : ∀ x : List UInt8, (Lib.cut x [59]).1 = x.takeWhile (· != 59) := by
    intro x
    induction x with
    | nil => rfl
    | cons b r ih =>
      by_cases e : b = 59
      · subst e
        simp [Lib.cut, Lib.index, List.isPrefixOf]
      · have hge := index_ge (c := 59) r
        rw [List.takeWhile_cons, if_pos (by simpa using e), ← ih]
        unfold Lib.cut
        rw [index_ne e]
        by_cases h : Lib.index r [59] = -1
        · rw [h]; simp
        · have h0 : 0 ≤ Lib.index r [59] := by omega
          have h1 : (Lib.index r [59] == -1) = false := by simpa using h
          rw [h1, if_pos h0]
          simp only [Bool.false_eq_true, if_false]
          rw [if_pos (by omega)]
          simp only
          rw [show (Lib.index r [59] + 1).toNat = (Lib.index r [59]).toNat + 1 by omega, List.take_succ_cons]
  intro x b hb
  rw [key] at hb
  exact takeWhile_clean x b hb
theorem trimS_mem {l cs : List UInt8} {b : UInt8} (h : b ∈ Lib.trimS l cs) : b ∈ l := by
  unfold Lib.trimS Lib.trimLeftS Lib.trimRightS at h
  have h1 := (List.dropWhile_sublist (fun x => cs.contains x) (l := (l.reverse.dropWhile fun x => cs.contains x).reverse)).subset h
  have h2 := (List.dropWhile_sublist (fun x => cs.contains x) (l := l.reverse)).subset (List.mem_reverse.1 h1)
  exact List.mem_reverse.1 h2
/-- what a line comes to, by the document's parts -/
theorem readS_empty {st : RS} {line : Int} {l0 : List UInt8} (h : Lib.trimS l0 [32, 9] = []) : readS st line l0 = .ok st := by
  unfold readS; simp only [h, List.isEmpty_nil, if_true]
theorem readS_label {st : RS} {line : Int} {l0 a : List UInt8} (h : Lib.trimS l0 [32, 9] = a ++ [58]) : readS st line l0 =
    if isNameB a = false then .error 153 else if (labAt st.labels a).isSome then .error 154 else if st.labels.length = 400 then .error 150 else .ok { st with labels := (a, st.l.length) :: st.labels } := by
  have hc : Lib.hasSuffix (a ++ [58]) [58] = true := by rw [suffix_colon]; rfl
  unfold readS
  simp only [h, hc, trim_colon, if_true]
  rw [if_neg (by simp)]
theorem numberB_nil : numberB [] = (0, false) := rfl
theorem isNameB_nil : isNameB [] = false := rfl
theorem readS_one {st : RS} {line : Int} {l0 b : List UInt8} (hb : Lib.trimS l0 [32, 9] = b) (hne : b ≠ []) (hc : Lib.hasSuffix b [58] = false) : readS st line l0 =
    match oneS b with
    | none => .error 153
    | some (op, a, nm) => if st.l.length = 400 then .error 150 else .ok { st with l := st.l ++ [(op, a)], lines := st.lines ++ [line], named := if nm = [] then st.named else (st.l.length, nm) :: st.named } := by
  have h0 : b.isEmpty = false := by cases b with
    | nil => exact absurd rfl hne
    | cons => rfl
  unfold readS oneS oneR blankAt
  simp only [hb, h0, hc, Bool.false_eq_true, if_false]
  have hwd : (if Lib.indexAny b [32, 9] < 0 then b else b.take (Lib.indexAny b [32, 9]).toNat) = b.take (if Lib.indexAny b [32, 9] < 0 then b.length else (Lib.indexAny b [32, 9]).toNat) := by
    split
    · rw [List.take_length]
    · rfl
  have hre : (if Lib.indexAny b [32, 9] < 0 then [] else Lib.trimS (b.drop (Lib.indexAny b [32, 9]).toNat) [32, 9]) = Lib.trimS (b.drop (if Lib.indexAny b [32, 9] < 0 then b.length else (Lib.indexAny b [32, 9]).toNat)) [32, 9] := by
    split
    · rw [List.drop_length]; rfl
    · rfl
  rw [hwd, hre]
  generalize b.take (if Lib.indexAny b [32, 9] < 0 then b.length else (Lib.indexAny b [32, 9]).toNat) = wd
  generalize Lib.trimS (b.drop (if Lib.indexAny b [32, 9] < 0 then b.length else (Lib.indexAny b [32, 9]).toNat)) [32, 9] = rest
  clear hwd hre
  generalize hop : opOfL wd = op
  by_cases o0 : op = 0
  · simp only [if_pos o0]
  · simp only [if_neg o0]
    by_cases t0 : takes op = 0
    · simp only [if_pos t0]
      cases rest.isEmpty with
      | true => simp
      | false => simp
    · simp only [if_neg t0]
      cases hr : rest with
      | nil =>
        simp only [List.isEmpty_nil, if_true, isNameB_nil, numberB_nil]
        rw [if_neg (by simp)]
        simp
      | cons c r =>
        simp only [List.isEmpty_cons, Bool.false_eq_true, if_false]
        unfold operandS
        by_cases hn : takes op = 3 ∧ isNameB (c :: r) = true
        · simp only [if_pos hn]
          simp
        · simp only [if_neg hn]
          by_cases hbad : (numberB (c :: r)).2 = false ∨ (takes op = 2 ∧ ((numberB (c :: r)).1 < 0 ∨ 8 ≤ (numberB (c :: r)).1)) ∨ (takes op = 3 ∧ (numberB (c :: r)).1 < 0)
          · simp only [if_pos hbad]
          · simp only [if_neg hbad]
            simp
/-- a name's operand takes a place -/
theorem oneS_name {b : List UInt8} {op a : Int} {nm : List UInt8} (h : oneS b = some (op, a, nm)) : (nm ≠ [] → takes op = 3) ∧ nm.length ≤ b.length := by
  unfold oneS oneR at h
  simp only at h
  have hl := trimS_length (b.drop (blankAt b)) [32, 9]
  simp at hl
  generalize Lib.trimS (b.drop (blankAt b)) [32, 9] = rest at h hl
  generalize opOfL (b.take (blankAt b)) = op' at h
  split at h
  · cases h
  split at h
  · split at h
    · injection h with h; injection h with h1 h; injection h with h2 h3; subst h3
      exact ⟨fun e => absurd rfl e, by simp⟩
    · cases h
  split at h
  · rename_i hn
    injection h with h; injection h with h1 h; injection h with h2 h3; subst h1; subst h3
    exact ⟨fun _ => hn.1, by omega⟩
  split at h
  · cases h
  · injection h with h; injection h with h1 h; injection h with h2 h3; subst h3
    exact ⟨fun e => absurd rfl e, by simp⟩
end Go.Proofs.YtojgdabkdbchnaaGreatDoor
