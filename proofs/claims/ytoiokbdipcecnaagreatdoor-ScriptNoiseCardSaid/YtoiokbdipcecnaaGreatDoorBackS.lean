/-
  PLAIN LAWS ON LINES AND ON PRINTED TEXTS: what the reader makes of a line that is one instruction, blanks round it; what is printed of a right program is read as that program. No condition.
-/
import Derived.Test.YtoiokbdipcecnaaGreatDoorText
import Derived.Test.YtoiokbdipcecnaaGreatDoorCodePrint
namespace Go.Proofs.YtoiokbdipcecnaaGreatDoor
open Go.RowKit
set_option maxRecDepth 100000

/-- no byte that parts a line -/
def Plain (l : List UInt8) : Prop := ∀ b ∈ l, b ≠ 32 ∧ b ≠ 9 ∧ b ≠ 10 ∧ b ≠ 58 ∧ b ≠ 59
def plainB (l : List UInt8) : Bool := l.all fun b => b != 32 && b != 9 && b != 10 && b != 58 && b != 59
theorem plain_of {l : List UInt8} (h : plainB l = true) : Plain l := fun b hb => by
  have := List.all_eq_true.1 h b hb
  simp only [Bool.and_eq_true, bne_iff_ne] at this
  obtain ⟨⟨⟨⟨h1, h2⟩, h3⟩, h4⟩, h5⟩ := this
  exact ⟨h1, h2, h3, h4, h5⟩
def Blanks (l : List UInt8) : Prop := ∀ b ∈ l, [32, 9].contains b = true
theorem not_blank {b : UInt8} (h1 : b ≠ 32) (h2 : b ≠ 9) : [32, 9].contains b = false := by simp [h1, h2]
theorem Plain.blank {l : List UInt8} (h : Plain l) {b : UInt8} (hb : b ∈ l) : [32, 9].contains b = false := not_blank (h b hb).1 (h b hb).2.1
theorem getLast_app {a x : List UInt8} (hx : x ≠ []) : (a ++ x).getLast? = x.getLast? := by
  rw [List.getLast?_append, List.getLast?_eq_some_getLast hx]; rfl
theorem trimS_pre {pre x : List UInt8} (hp : Blanks pre) (hx : x ≠ []) (hh : ∀ c, x.head? = some c → [32, 9].contains c = false) (hl : ∀ c, x.getLast? = some c → [32, 9].contains c = false) : Lib.trimS (pre ++ x) [32, 9] = x := by
  unfold Lib.trimS Lib.trimLeftS Lib.trimRightS
  have e1 : (pre ++ x).reverse.dropWhile ([32, 9].contains ·) = (pre ++ x).reverse := by
    cases hr : (pre ++ x).reverse with
    | nil => rfl
    | cons c r =>
      refine dropWhile_at (hl c ?_)
      have h : (pre ++ x).getLast? = some c := by rw [List.getLast?_eq_head?_reverse, hr]; rfl
      rwa [getLast_app hx] at h
  rw [e1, List.reverse_reverse, List.dropWhile_append_of_pos hp]
  cases x with
  | nil => rfl
  | cons c r => exact dropWhile_at (hh c rfl)
theorem indexAny_plain : ∀ {w : List UInt8}, Plain w → Lib.indexAny w [32, 9] = -1
  | [], _ => rfl
  | b :: r, h => by
    have hb := h.blank (b := b) (by simp)
    have ih := indexAny_plain (w := r) (fun d hd => h d (List.mem_cons_of_mem _ hd))
    simp only [Lib.indexAny, hb, ih]
    rfl
theorem indexAny_at : ∀ {w : List UInt8} {c : UInt8} {r : List UInt8}, Plain w → [32, 9].contains c = true → Lib.indexAny (w ++ c :: r) [32, 9] = w.length
  | [], c, r, _, hc => by simp only [List.nil_append, Lib.indexAny, hc, if_true]; simp
  | b :: w, c, r, h, hc => by
    have hb := h.blank (b := b) (by simp)
    have ih := indexAny_at (w := w) (r := r) (fun d hd => h d (List.mem_cons_of_mem _ hd)) hc
    simp only [List.cons_append, Lib.indexAny, hb, ih, List.length_cons]
    rw [if_neg (by simp), if_neg (by simp <;> omega)]
    omega
theorem suffix_not {x : List UInt8} {c : UInt8} (h : x.getLast? = some c) (hc : c ≠ 58) : Lib.hasSuffix x [58] = false := by
  unfold Lib.hasSuffix
  rw [Bool.eq_false_iff]
  intro hs
  rw [List.isSuffixOf_iff_suffix] at hs
  obtain ⟨t, rfl⟩ := hs
  rw [List.getLast?_append] at h
  simp at h
  exact hc h.symm
/-! ### the words -/
theorem rows_words : ∀ k, k < 23 → 1 ≤ k → opOfL (rowAt k).1 = (k : Int) ∧ (rowAt k).1 ≠ [] ∧ plainB (rowAt k).1 = true ∧ ascB (rowAt k).1 = true := by decide +kernel
theorem op_word {op : Int} (h : isOp op = true) : opOfL (opRow op).1 = op ∧ (opRow op).1 ≠ [] ∧ Plain (opRow op).1 ∧ Asc (opRow op).1 := by
  simp only [isOp, decide_eq_true_eq] at h
  obtain ⟨k, rfl⟩ := Int.eq_ofNat_of_zero_le (show 0 ≤ op by omega)
  rw [opRow_in (by omega) (by omega)]
  obtain ⟨h1, h2, h3, h4⟩ := rows_words k (by omega) (by omega)
  exact ⟨h1, h2, plain_of h3, ascB_asc h4⟩
theorem head_mem {l : List UInt8} {c : UInt8} (h : l.head? = some c) : c ∈ l := List.mem_of_mem_head? h
theorem last_mem {l : List UInt8} {c : UInt8} (h : l.getLast? = some c) : c ∈ l := List.mem_of_getLast? h
/-- a line that is a word alone -/
theorem op_line0 (st : RS) (line op : Int) (pre : List UInt8) (h : isOp op = true) (ht : takes op = 0) (hp : Blanks pre) :
    readS st line (pre ++ (opRow op).1) = if st.l.length = 400 then .error 150 else .ok { st with l := st.l ++ [(op, 0)], lines := st.lines ++ [line] } := by
  obtain ⟨h1, h2, h3, _⟩ := op_word h
  have h0 : ¬ op = 0 := by rintro rfl; simp [isOp] at h
  have e : Lib.trimS (pre ++ (opRow op).1) [32, 9] = (opRow op).1 := trimS_pre hp h2 (fun c hc => h3.blank (head_mem hc)) (fun c hc => h3.blank (last_mem hc))
  obtain ⟨c, hc⟩ : ∃ c, (opRow op).1.getLast? = some c := ⟨_, List.getLast?_eq_some_getLast h2⟩
  have hs := suffix_not hc (h3 c (last_mem hc)).2.2.2.1
  have hi := indexAny_plain h3
  unfold readS
  simp only [e, hs, hi]
  rw [if_neg (by simpa using h2), if_neg (by simp)]
  simp only [show ((-1 : Int) < 0) by decide, if_true, h1, ht]
  rw [if_neg h0, if_neg (by simp)]
/-- a line that is a word and an operand -/
theorem op_line1 (st : RS) (line op a : Int) (nm : List (Nat × List UInt8)) (pre sep s : List UInt8) (h : isOp op = true) (ht : ¬ takes op = 0) (hp : Blanks pre) (hsep : Blanks sep) (hsn : sep ≠ []) (hs : Plain s) (hs0 : s ≠ []) (ho : operandS st (takes op) s = some (a, nm)) :
    readS st line (pre ++ ((opRow op).1 ++ (sep ++ s))) = if st.l.length = 400 then .error 150 else .ok { st with l := st.l ++ [(op, a)], lines := st.lines ++ [line], named := nm } := by
  obtain ⟨h1, h2, h3, _⟩ := op_word h
  have h0 : ¬ op = 0 := by rintro rfl; simp [isOp] at h
  have hne : (opRow op).1 ++ (sep ++ s) ≠ [] := by simp [h2]
  have hlast : ((opRow op).1 ++ (sep ++ s)).getLast? = s.getLast? := by rw [← List.append_assoc, getLast_app hs0]
  have hhead : ((opRow op).1 ++ (sep ++ s)).head? = (opRow op).1.head? := by
    cases hw : (opRow op).1 with
    | nil => exact absurd hw h2
    | cons c r => rfl
  have e : Lib.trimS (pre ++ ((opRow op).1 ++ (sep ++ s))) [32, 9] = (opRow op).1 ++ (sep ++ s) := trimS_pre hp hne (fun c hc => h3.blank (head_mem (hhead.symm.trans hc))) (fun c hc => hs.blank (last_mem (hlast.symm.trans hc)))
  have e2 : Lib.trimS (sep ++ s) [32, 9] = s := trimS_pre hsep hs0 (fun c hc => hs.blank (head_mem hc)) (fun c hc => hs.blank (last_mem hc))
  obtain ⟨c, hc⟩ : ∃ c, s.getLast? = some c := ⟨_, List.getLast?_eq_some_getLast hs0⟩
  have hsf := suffix_not (hlast.trans hc) (hs c (last_mem hc)).2.2.2.1
  have hi : Lib.indexAny ((opRow op).1 ++ (sep ++ s)) [32, 9] = (opRow op).1.length := by
    cases hq : sep with
    | nil => exact absurd hq hsn
    | cons d q => exact indexAny_at h3 (hsep d (by rw [hq]; simp))
  unfold readS
  simp only [e, hsf, hi]
  rw [if_neg (by simp [h2]), if_neg (by simp)]
  have hlt : ¬ (((opRow op).1.length : Int) < 0) := by omega
  simp only [if_neg hlt, Int.toNat_natCast, List.take_left, List.drop_left, e2, h1]
  rw [if_neg h0, if_neg ht, if_neg (by simpa using hs0), ho]
/-! ### what is printed -/
theorem itoa_plain (n : Int) : Plain (Lib.itoa n) := fun b hb => by
  have := itoa_byte n b hb
  exact ⟨byte_not this 32 (by decide), byte_not this 9 (by decide), byte_not this 10 (by decide), byte_not this 58 (by decide), byte_not this 59 (by decide)⟩
theorem itoa_no_name (n : Int) : isNameB (Lib.itoa n) = false := by
  cases hd : Lib.itoa n with
  | nil => exact absurd hd (itoa_ne n)
  | cons c r =>
    have hc := itoa_byte n c (by rw [hd]; simp)
    have : smallC c = false := by
      unfold smallC
      rw [Bool.and_eq_false_iff]
      left
      simp
      omega
    simp [isNameB, nameFrom, nameC, this]
theorem operand_may {st : RS} {t a n : Int} (h1 : -9223372036854775808 ≤ a) (h2 : a ≤ 9223372036854775807) (hm : mayB t a n = true) (h0 : ¬ t = 0) : operandS st t (Lib.itoa a) = some (a, st.named) := by
  unfold operandS
  rw [if_neg (by rw [itoa_no_name]; simp), numberB_itoa a h1 h2]
  rw [if_neg]
  simp only [Bool.true_eq_false, false_or]
  unfold mayB at hm
  by_cases t2 : t = 2
  · subst t2; simp at hm ⊢; omega
  · by_cases t3 : t = 3
    · subst t3; simp at hm ⊢; omega
    · simp [t2, t3]
def bodyOne (x : Int × Int) : List UInt8 := (opRow x.1).1 ++ (if takes x.1 = 0 then [] else 32 :: Lib.itoa x.2)
theorem printOne_body (x : Int × Int) : printOne x = bodyOne x ++ [10] := by unfold printOne bodyOne; rw [List.append_assoc]
/-- what is right of one instruction -/
structure Right (n : Int) (x : Int × Int) : Prop where
  op : isOp x.1 = true
  may : mayB (takes x.1) x.2 n = true
  lo : -9223372036854775808 ≤ x.2
  hi : x.2 ≤ 9223372036854775807
theorem takes_cases : ∀ k, k < 23 → (rowAt k).2.1 = 0 ∨ (rowAt k).2.1 = 1 ∨ (rowAt k).2.1 = 2 ∨ (rowAt k).2.1 = 3 := by decide +kernel
theorem Right.zero {n : Int} {x : Int × Int} (h : Right n x) (ht : takes x.1 = 0) : x.2 = 0 := by
  have := h.may
  rw [ht] at this
  simpa [mayB] using this
theorem Right.body_plain {n : Int} {x : Int × Int} (h : Right n x) : ∀ b ∈ bodyOne x, b ≠ 10 ∧ b ≠ 59 := fun b hb => by
  unfold bodyOne at hb
  rcases List.mem_append.1 hb with hb | hb
  · exact ⟨((op_word h.op).2.2.1 b hb).2.2.1, ((op_word h.op).2.2.1 b hb).2.2.2.2⟩
  · split at hb
    · cases hb
    · rcases List.mem_cons.1 hb with rfl | hb
      · decide
      · exact ⟨(itoa_plain _ b hb).2.2.1, (itoa_plain _ b hb).2.2.2.2⟩
theorem Right.read {n : Int} {x : Int × Int} (h : Right n x) (st : RS) (line : Int) :
    readS st line (bodyOne x) = if st.l.length = 400 then .error 150 else .ok { st with l := st.l ++ [x], lines := st.lines ++ [line] } := by
  obtain ⟨op, a⟩ := x
  unfold bodyOne
  by_cases ht : takes op = 0
  · have := h.zero ht
    simp only at this
    subst this
    have e := op_line0 st line op [] h.op ht (fun b hb => by cases hb)
    rw [List.nil_append] at e
    simp only [ht, if_true, List.append_nil]
    exact e
  · have e := op_line1 st line op a st.named [] [32] (Lib.itoa a) h.op ht (fun b hb => by cases hb) (fun b hb => by simp at hb; subst hb; decide) (by simp) (itoa_plain a) (itoa_ne a) (operand_may h.lo h.hi h.may ht)
    rw [List.nil_append] at e
    simp only [ht, if_false]
    exact e
theorem linesL_line {x : List UInt8} (hx : ∀ b ∈ x, b ≠ 10) (r : List UInt8) : linesL 10 (x ++ 10 :: r) = x :: linesL 10 r := by
  rw [linesL_pre hx]
  have : linesL 10 (10 :: r) = [] :: linesL 10 r := by simp [linesL]
  rw [this]
  simp
/-- one line ahead of a text -/
theorem readAll_line {x r : List UInt8} {st st' : RS} {k : Nat} (hx : ∀ b ∈ x, b ≠ 10) (h : readS st ((k + 1 : Nat) : Int) (Lib.cut x [59]).1 = .ok st') : readAll st k (linesL 10 (x ++ 10 :: r)) = readAll st' (k + 1) (linesL 10 r) := by
  rw [linesL_line hx, readAll, h]
theorem readS_nil (st : RS) (line : Int) : readS st line [] = .ok st := rfl
theorem readAll_end (st : RS) (k : Nat) : readAll st k (linesL 10 []) = .ok st := rfl
theorem readAll_print {n : Int} : ∀ (l : List (Int × Int)) (st : RS) (k : Nat), (∀ x ∈ l, Right n x) → st.l.length + l.length ≤ 400 → ∃ ls, readAll st k (linesL 10 (printL l)) = .ok { st with l := st.l ++ l, lines := ls }
  | [], st, k, _, _ => ⟨st.lines, by rw [List.append_nil]; exact readAll_end st k⟩
  | x :: r, st, k, h, hn => by
    have hx := h x (by simp)
    have e : printL (x :: r) = bodyOne x ++ 10 :: printL r := by simp [printL, printOne_body]
    have hn' : st.l.length + (r.length + 1) ≤ 400 := by simpa using hn
    have hr := hx.read st ((k + 1 : Nat) : Int)
    rw [if_neg (by omega)] at hr
    rw [e, readAll_line (fun b hb => (hx.body_plain b hb).1) (by rw [cut_absent (fun b hb => (hx.body_plain b hb).2)]; exact hr)]
    obtain ⟨ls, hls⟩ := readAll_print r { st with l := st.l ++ [x], lines := st.lines ++ [((k + 1 : Nat) : Int)] } (k + 1) (fun y hy => h y (List.mem_cons_of_mem _ hy)) (by simp; omega)
    exact ⟨ls, by rw [hls]; simp⟩
theorem placesN_none (ls : List Int) (n : Nat) : ∀ (f k : Nat) (l : List (Int × Int)), (∀ x ∈ l, takes x.1 = 3 → x.2 ≤ n) → placesN [] [] ls n f k l = .ok l
  | 0, _, _, _ => rfl
  | f + 1, k, l, h => by
    have e : placeOne [] [] n k (l.getD k (0, 0)) = .ok (l.getD k (0, 0)) := by
      unfold placeOne
      simp only [namAt, List.find?_nil, Option.map_none]
      rw [if_neg]
      rintro ⟨h1, h2⟩
      rw [List.getD_eq_getElem?_getD] at h1 h2
      cases hk : l[k]? with
      | none => rw [hk] at h1; exact absurd h1 (by decide +kernel)
      | some y =>
        rw [hk] at h1 h2
        have := h y (List.mem_of_getElem? hk) h1
        simp at h2
        omega
    have e2 : l.set k (l.getD k (0, 0)) = l := by
      rw [List.getD_eq_getElem?_getD]
      by_cases hk : k < l.length
      · rw [List.getElem?_eq_getElem hk]; exact List.set_getElem_self hk
      · exact List.set_eq_of_length_le (by omega)
    rw [placesN, e]
    simp only [e2]
    exact placesN_none ls n f (k + 1) l h
theorem right_all {l : List (Int × Int)} (h : (checkL l).1 = 0) (hi : InI l) : ∀ x ∈ l, Right l.length x := fun x hx => by
  obtain ⟨j, hj⟩ := List.getElem?_of_mem hx
  obtain ⟨_, _, h3⟩ := checkL_ok h
  exact ⟨(h3 j x hj).1, (h3 j x hj).2, (hi x hx).1, (hi x hx).2⟩
/-- THERE AND BACK: what is printed is read as the same program. -/
theorem parse_print {l : List (Int × Int)} (h : (checkL l).1 = 0) (hi : InI l) : parseL (printL l) = .ok l := by
  obtain ⟨h1, h2, _⟩ := checkL_ok h
  have hlen := printL_len hi
  have hR := right_all h hi
  obtain ⟨ls, hls⟩ := readAll_print l ⟨[], [], [], []⟩ 0 hR (by simpa using h2)
  unfold parseL
  rw [if_neg (by omega), hls]
  simp only [placesS, List.nil_append]
  rw [placesN_none ls l.length l.length 0 l (fun x hx h3 => by
    have := (hR x hx).may
    rw [h3] at this
    exact (place_ok this).2)]
  simp only
  rw [if_neg (by intro e; rw [List.isEmpty_iff] at e; subst e; simp at h1)]
end Go.Proofs.YtoiokbdipcecnaaGreatDoor
