/-
  PLAIN LAW ON THE NOISY TEXT of CodeBack: each line with noise ahead of it and a remark behind it, a label ahead of each place: it is read as the same program. No condition.
-/
import Derived.Test.YtojgdabkdbchnaaDoorBackS
namespace Go.Proofs.YtojgdabkdbchnaaDoor
open Go.RowKit
set_option maxRecDepth 100000

/-- a number below 1000 as three digits -/
def figL (n : Nat) : List UInt8 := [UInt8.ofNat (48 + n / 100 % 10), UInt8.ofNat (48 + n / 10 % 10), UInt8.ofNat (48 + n % 10)]
def nameP (n : Nat) : List UInt8 := 112 :: figL n
def labLine (i : Nat) : List UInt8 := nameP i ++ [58, 32, 59, 32, 104, 101, 114, 101]
def opdN (x : Int × Int) : List UInt8 := if takes x.1 = 3 then nameP x.2.toNat else Lib.itoa x.2
def bodyN (x : Int × Int) : List UInt8 := 9 :: ((opRow x.1).1 ++ (if takes x.1 = 0 then [] else [32, 9] ++ opdN x))
def IsNoise (t : List UInt8) : Prop := t = [] ∨ t = [10] ∨ t = [32, 9, 32, 59, 32, 112, 117, 115, 104, 32, 49, 10] ∨ t = [59, 120, 58, 10] ∨ t = [9, 10]
def roundN (nz : Nat → List UInt8) (l : List (Int × Int)) (i : Nat) : List UInt8 :=
  nz i ++ (labLine i ++ 10 :: (match l[i]? with
    | none => []
    | some x => bodyN x ++ [59, 10]))
/-- the text of the first i rounds -/
def textN (nz : Nat → List UInt8) (l : List (Int × Int)) : Nat → List UInt8
  | 0 => []
  | i + 1 => textN nz l i ++ roundN nz l i
def blankX (x : Int × Int) : Int × Int := if takes x.1 = 3 then (x.1, 0) else x
def labsN : Nat → List (List UInt8 × Nat)
  | 0 => []
  | i + 1 => (nameP i, i) :: labsN i
def namsN (l : List (Int × Int)) : Nat → List (Nat × List UInt8)
  | 0 => []
  | i + 1 => match l[i]? with
    | some x => if takes x.1 = 3 then (i, nameP x.2.toNat) :: namsN l i else namsN l i
    | none => namsN l i
theorem names60 : ∀ i, i < 60 → isNameB (nameP i) = true ∧ plainB (nameP i) = true ∧ Lib.trimS (Lib.cut (labLine i) [59]).1 [32, 9] = nameP i ++ [58] ∧ Lib.hasSuffix (nameP i ++ [58]) [58] = true ∧ Lib.trimSuffix (nameP i ++ [58]) [58] = nameP i ∧ (labLine i).all (fun b => b != 10) = true ∧ ascB (labLine i) = true ∧ ascB (nameP i) = true := by decide +kernel
theorem nameP_inj : ∀ i, i < 60 → ∀ j, j < 60 → nameP i = nameP j → i = j := by decide +kernel
theorem labAt_cons {n m : List UInt8} {k : Nat} {r : List (List UInt8 × Nat)} : labAt ((n, k) :: r) m = if n = m then some k else labAt r m := by
  unfold labAt
  rw [List.find?_cons]
  by_cases h : n = m
  · subst h; simp
  · have : (n == m) = false := by simpa using h
    simp [h, this]
theorem labAt_none : ∀ (i j : Nat), i ≤ j → j < 60 → labAt (labsN i) (nameP j) = none
  | 0, _, _, _ => rfl
  | i + 1, j, h, hj => by
    rw [labsN, labAt_cons, if_neg (fun e => by have := nameP_inj i (by omega) j hj e; omega)]
    exact labAt_none i j (by omega) hj
theorem labAt_some : ∀ (i j : Nat), j < i → i ≤ 60 → labAt (labsN i) (nameP j) = some j
  | 0, _, h, _ => by omega
  | i + 1, j, h, hi => by
    rw [labsN, labAt_cons]
    by_cases e : i = j
    · subst e; rw [if_pos rfl]
    · rw [if_neg (fun e2 => e (nameP_inj i (by omega) j (by omega) e2))]
      exact labAt_some i j (by omega) (by omega)
theorem labsN_length : ∀ i, (labsN i).length = i
  | 0 => rfl
  | i + 1 => by rw [labsN, List.length_cons, labsN_length i]
theorem namAt_none (l : List (Int × Int)) : ∀ (i k : Nat), i ≤ k → namAt (namsN l i) k = none
  | 0, _, _ => rfl
  | i + 1, k, h => by
    have ih := namAt_none l i k (by omega)
    rw [namsN]
    split
    · split
      · rw [namAt_cons, if_neg (by omega)]; exact ih
      · exact ih
    · exact ih
theorem namAt_some (l : List (Int × Int)) {x : Int × Int} : ∀ (i k : Nat), k < i → l[k]? = some x → namAt (namsN l i) k = if takes x.1 = 3 then some (nameP x.2.toNat) else none
  | 0, _, h, _ => by omega
  | i + 1, k, h, hx => by
    rw [namsN]
    by_cases e : i = k
    · subst e
      rw [hx]
      simp only
      split
      · rw [namAt_cons, if_pos rfl]
      · exact namAt_none l i i (Nat.le_refl _)
    · have ih := namAt_some l i k (by omega) hx
      split
      · split
        · rw [namAt_cons, if_neg (by omega)]; exact ih
        · exact ih
      · exact ih
theorem index_at {c : UInt8} : ∀ {x r : List UInt8}, (∀ b ∈ x, b ≠ c) → Lib.index (x ++ c :: r) [c] = x.length
  | [], r, _ => by simp [Lib.index, List.isPrefixOf]
  | b :: x, r, h => by
    have ih := index_at (x := x) (r := r) (fun d hd => h d (List.mem_cons_of_mem _ hd))
    rw [List.cons_append, index_ne (h b (by simp)), ih, List.length_cons]
    rw [if_neg (by simp <;> omega)]
    omega
theorem cut_at {x r : List UInt8} (h : ∀ b ∈ x, b ≠ 59) : (Lib.cut (x ++ 59 :: r) [59]).1 = x := by
  unfold Lib.cut
  rw [index_at h, if_pos (by omega)]
  simp
theorem noise_line {t r : List UInt8} (h : IsNoise t) (st : RS) (k : Nat) : ∃ k', readAll st k (linesL 10 (t ++ r)) = readAll st k' (linesL 10 r) := by
  rcases h with rfl | rfl | rfl | rfl | rfl
  · exact ⟨k, rfl⟩
  · exact ⟨k + 1, readAll_line (x := []) (by decide) rfl⟩
  · exact ⟨k + 1, readAll_line (x := [32, 9, 32, 59, 32, 112, 117, 115, 104, 32, 49]) (by decide) rfl⟩
  · exact ⟨k + 1, readAll_line (x := [59, 120, 58]) (by decide) rfl⟩
  · exact ⟨k + 1, readAll_line (x := [9]) (by decide) rfl⟩
theorem lab_line {i : Nat} (hi : i < 60) (st : RS) (k : Nat) (r : List UInt8) (hl : labAt st.labels (nameP i) = none) (hn : st.labels.length ≠ 400) :
    readAll st k (linesL 10 (labLine i ++ 10 :: r)) = readAll { st with labels := (nameP i, st.l.length) :: st.labels } (k + 1) (linesL 10 r) := by
  obtain ⟨h1, _, h3, h4, h5, h6, _, _⟩ := names60 i hi
  refine readAll_line (fun b hb => by have := List.all_eq_true.1 h6 b hb; simpa using this) ?_
  unfold readS
  simp only [h3, h4, h5, h1, hl]
  rw [if_neg (by simp), if_pos trivial, if_neg (by simp), if_neg (by simp), if_neg hn]
theorem operand_place {st : RS} {n : Nat} (h : n < 60) : operandS st 3 (nameP n) = some (0, (st.l.length, nameP n) :: st.named) := by
  unfold operandS
  rw [if_pos ⟨rfl, (names60 n h).1⟩]
theorem bodyN_bytes {n : Int} (hn : n < 60) {x : Int × Int} (h : Right n x) : ∀ b ∈ bodyN x, b ≠ 10 ∧ b ≠ 59 := fun b hb => by
  unfold bodyN at hb
  rcases List.mem_cons.1 hb with rfl | hb
  · decide
  rcases List.mem_append.1 hb with hb | hb
  · exact ⟨((op_word h.op).2.2.1 b hb).2.2.1, ((op_word h.op).2.2.1 b hb).2.2.2.2⟩
  · split at hb
    · cases hb
    · rcases List.mem_append.1 hb with hb | hb
      · simp at hb; rcases hb with rfl | rfl <;> decide
      · unfold opdN at hb
        split at hb
        · rename_i h3
          have hm := h.may
          rw [h3] at hm
          have := place_ok hm
          have hp := plain_of (names60 x.2.toNat (by omega)).2.1 b hb
          exact ⟨hp.2.2.1, hp.2.2.2.2⟩
        · exact ⟨(itoa_plain _ b hb).2.2.1, (itoa_plain _ b hb).2.2.2.2⟩
theorem Right.readN {n : Int} (hn : n < 60) {x : Int × Int} (h : Right n x) (st : RS) (line : Int) (hl : st.l.length ≠ 400) :
    readS st line (bodyN x) = .ok { st with l := st.l ++ [blankX x], lines := st.lines ++ [line], named := if takes x.1 = 3 then (st.l.length, nameP x.2.toNat) :: st.named else st.named } := by
  have htab : Blanks [9] := fun b hb => by simp at hb; subst hb; decide
  have hsep : Blanks [32, 9] := fun b hb => by simp at hb; rcases hb with rfl | rfl <;> decide
  obtain ⟨op, a⟩ := x
  unfold bodyN blankX
  by_cases ht : takes op = 0
  · have h0 := h.zero ht
    simp only at h0
    subst h0
    have e := op_line0 st line op [9] h.op ht htab
    rw [if_neg hl] at e
    simp only [ht, if_true, List.append_nil]
    exact e
  · by_cases h3 : takes op = 3
    · have hm := h.may
      simp only at hm
      rw [h3] at hm
      have hp := place_ok hm
      have hs := (names60 a.toNat (by omega)).2.1
      have e := op_line1 st line op 0 ((st.l.length, nameP a.toNat) :: st.named) [9] [32, 9] (nameP a.toNat) h.op ht htab hsep (by simp) (plain_of hs) (by simp [nameP]) (by rw [h3]; exact operand_place (by omega))
      rw [if_neg hl] at e
      simp only [opdN, h3, if_true, show ¬ ((3 : Int) = 0) by decide, if_false]
      exact e
    · have e := op_line1 st line op a st.named [9] [32, 9] (Lib.itoa a) h.op ht htab hsep (by simp) (itoa_plain a) (itoa_ne a) (operand_may h.lo h.hi h.may ht)
      rw [if_neg hl] at e
      simp only [opdN, h3, ht, if_false]
      exact e
theorem op_lineN {n : Int} (hn : n < 60) {x : Int × Int} (h : Right n x) (st : RS) (k : Nat) (r : List UInt8) (hl : st.l.length ≠ 400) :
    readAll st k (linesL 10 ((bodyN x ++ [59, 10]) ++ r)) = readAll { st with l := st.l ++ [blankX x], lines := st.lines ++ [((k + 1 : Nat) : Int)], named := if takes x.1 = 3 then (st.l.length, nameP x.2.toNat) :: st.named else st.named } (k + 1) (linesL 10 r) := by
  have hb := bodyN_bytes hn h
  have e : (bodyN x ++ [59, 10]) ++ r = (bodyN x ++ [59]) ++ 10 :: r := by simp
  rw [e]
  refine readAll_line (fun b hb' => ?_) ?_
  · rcases List.mem_append.1 hb' with hb' | hb'
    · exact (hb b hb').1
    · simp at hb'; subst hb'; decide
  · rw [show bodyN x ++ [59] = bodyN x ++ 59 :: [] from rfl, cut_at (fun b h' => (hb b h').2)]
    exact h.readN hn st _ hl
def stN (l : List (Int × Int)) (i : Nat) (ls : List Int) : RS := ⟨(l.take i).map blankX, labsN i, namsN l i, ls⟩
theorem read_textN {l : List (Int × Int)} {nz : Nat → List UInt8} (hz : ∀ i, IsNoise (nz i)) (hl : l.length < 60) (hR : ∀ x ∈ l, Right l.length x) : ∀ (i : Nat), i ≤ l.length + 1 → ∀ r : List UInt8, ∃ ls k, readAll ⟨[], [], [], []⟩ 0 (linesL 10 (textN nz l i ++ r)) = readAll (stN l i ls) k (linesL 10 r)
  | 0, _, r => ⟨[], 0, by simp [textN, stN, labsN, namsN]⟩
  | i + 1, hi, r => by
    obtain ⟨ls, k, h1⟩ := read_textN hz hl hR i (by omega) (roundN nz l i ++ r)
    rw [textN, List.append_assoc, h1]
    have e : roundN nz l i ++ r = nz i ++ (labLine i ++ 10 :: ((match l[i]? with
    | none => []
    | some x => bodyN x ++ [59, 10]) ++ r)) := by unfold roundN; simp
    obtain ⟨k', h2⟩ := noise_line (hz i) (r := labLine i ++ 10 :: ((match l[i]? with
    | none => []
    | some x => bodyN x ++ [59, 10]) ++ r)) (stN l i ls) k
    rw [e, h2, lab_line (by omega) _ _ _ (labAt_none i i (Nat.le_refl _) (by omega)) (by show (labsN i).length ≠ 400; rw [labsN_length]; omega)]
    have hlen : ((l.take i).map blankX).length = i := by simp; omega
    cases hx : l[i]? with
    | none =>
      refine ⟨ls, k' + 1, ?_⟩
      have hge : l.length ≤ i := List.getElem?_eq_none_iff.1 hx
      simp only [List.nil_append]
      congr 1
      unfold stN
      rw [hlen, labsN, namsN, hx, List.take_of_length_le (by omega : l.length ≤ i), List.take_of_length_le (by omega : l.length ≤ i + 1)]
    | some x =>
      have hxl : x ∈ l := List.mem_of_getElem? hx
      have hil : i < l.length := (List.getElem?_eq_some_iff.1 hx).1
      simp only
      rw [op_lineN (n := l.length) (by omega) (hR x hxl) _ _ _ (by show ((l.take i).map blankX).length ≠ 400; rw [hlen]; omega)]
      refine ⟨ls ++ [((k' + 1 + 1 : Nat) : Int)], k' + 1 + 1, ?_⟩
      congr 1
      unfold stN
      simp only [hlen]
      rw [labsN, namsN, hx, List.take_add_one, hx]
      simp only [Option.toList_some, List.map_append, List.map_cons, List.map_nil]
theorem place_back {l : List (Int × Int)} (hl : l.length < 60) (hR : ∀ x ∈ l, Right l.length x) (ls : List Int) : ∀ (f k : Nat), k + f = l.length → placesN (labsN (l.length + 1)) (namsN l (l.length + 1)) ls l.length f k (l.take k ++ (l.map blankX).drop k) = .ok l
  | 0, k, h => by
    rw [placesN, List.take_of_length_le (by omega), List.drop_eq_nil_of_le (by simp; omega), List.append_nil]
  | f + 1, k, h => by
    have hk : k < l.length := by omega
    obtain ⟨x, hx⟩ : ∃ x, l[k]? = some x := ⟨_, List.getElem?_eq_getElem hk⟩
    have hr := hR x (List.mem_of_getElem? hx)
    have htl : (l.take k).length = k := by simp; omega
    have hg : (l.take k ++ (l.map blankX).drop k).getD k (0, 0) = blankX x := by
      rw [List.getD_eq_getElem?_getD, List.getElem?_append_right (by omega), htl, Nat.sub_self, List.getElem?_drop, Nat.add_zero, List.getElem?_map, hx]
      rfl
    have hp : placeOne (labsN (l.length + 1)) (namsN l (l.length + 1)) l.length k (blankX x) = .ok x := by
      unfold placeOne
      rw [namAt_some l _ k (by omega) hx]
      unfold blankX
      by_cases h3 : takes x.1 = 3
      · have hm := hr.may
        rw [h3] at hm
        have hpl := place_ok hm
        simp only [if_pos h3]
        rw [labAt_some _ _ (by omega) (by omega)]
        simp only
        rw [if_neg (by omega), Int.toNat_of_nonneg hpl.1]
      · simp only [if_neg h3]
        rw [if_neg (fun hh => h3 hh.1)]
    have hs : (l.take k ++ (l.map blankX).drop k).set k x = l.take (k + 1) ++ (l.map blankX).drop (k + 1) := by
      rw [List.set_append_right _ _ (by omega), htl, Nat.sub_self, List.drop_eq_getElem_cons (by simp; omega), List.set_cons_zero, List.take_add_one, hx]
      simp
    rw [placesN, hg, hp]
    simp only [hs]
    exact place_back hl hR ls f (k + 1) (by omega)
theorem noise_len {t : List UInt8} (h : IsNoise t) : t.length ≤ 12 := by rcases h with rfl | rfl | rfl | rfl | rfl <;> decide
theorem bodyN_len {n : Int} {x : Int × Int} (h : Right n x) : (bodyN x).length ≤ 30 := by
  have h1 := word_len x.1
  have h2 := Lib.itoa_length_le x.2 h.lo h.hi
  have h3 : (nameP x.2.toNat).length = 4 := rfl
  unfold bodyN opdN
  split
  · simp; omega
  · split <;> simp <;> omega
theorem textN_len {l : List (Int × Int)} {nz : Nat → List UInt8} (hz : ∀ i, IsNoise (nz i)) (hR : ∀ x ∈ l, Right l.length x) : ∀ i, (textN nz l i).length ≤ i * 57
  | 0 => by simp [textN]
  | i + 1 => by
    have h1 := textN_len hz hR i
    have h2 := noise_len (hz i)
    have h3 : (labLine i).length = 12 := rfl
    have h4 : (match l[i]? with
      | none => []
      | some x => bodyN x ++ [59, 10] : List UInt8).length ≤ 32 := by
      cases hx : l[i]? with
      | none => simp
      | some x => have := bodyN_len (hR x (List.mem_of_getElem? hx)); simp; omega
    rw [textN, roundN, List.length_append, List.length_append, List.length_append, List.length_cons]
    omega
/-- THERE AND BACK, LOUD. -/
theorem parse_noisy {l : List (Int × Int)} {nz : Nat → List UInt8} (h : (checkL l).1 = 0) (hi : InI l) (hl : l.length < 60) (hz : ∀ i, IsNoise (nz i)) : parseL (textN nz l (l.length + 1)) = .ok l := by
  obtain ⟨h1, _, _⟩ := checkL_ok h
  have hR := right_all h hi
  have hlen := textN_len hz hR (l.length + 1)
  obtain ⟨ls, k, hls⟩ := read_textN hz hl hR (l.length + 1) (Nat.le_refl _) []
  rw [List.append_nil, readAll_end] at hls
  unfold parseL
  rw [if_neg (by omega), hls]
  simp only [placesS, stN]
  have hb : (l.take (l.length + 1)).map blankX = l.map blankX := by rw [List.take_of_length_le (by omega)]
  have hp := place_back hl hR ls l.length 0 (by omega)
  rw [List.take_zero, List.nil_append, List.drop_zero] at hp
  rw [hb, List.length_map, hp]
  simp only
  rw [if_neg (by intro e; rw [List.isEmpty_iff] at e; subst e; simp at h1)]
/-! ### all in ASCII -/
theorem itoa_asc (n : Int) : Asc (Lib.itoa n) := Extern.FmtText.itoa_ascii n
theorem Asc.app {a b : List UInt8} (ha : Asc a) (hb : Asc b) : Asc (a ++ b) := fun c hc => (List.mem_append.1 hc).elim (ha c) (hb c)
theorem printL_asc : ∀ {l : List (Int × Int)}, (∀ x ∈ l, isOp x.1 = true) → Asc (printL l)
  | [], _ => fun c hc => by cases hc
  | x :: r, h => by
    have e : printL (x :: r) = printOne x ++ printL r := by simp [printL]
    rw [e]
    refine Asc.app ?_ (printL_asc (fun y hy => h y (List.mem_cons_of_mem _ hy)))
    unfold printOne
    refine (op_word (h x (by simp))).2.2.2.app (Asc.app ?_ (ascB_asc (by decide)))
    split
    · exact fun c hc => by cases hc
    · exact Asc.app (a := [32]) (ascB_asc (by decide)) (itoa_asc _)
theorem noise_asc {t : List UInt8} (h : IsNoise t) : Asc t := by
  rcases h with rfl | rfl | rfl | rfl | rfl <;> exact ascB_asc (by decide)
theorem textN_asc {l : List (Int × Int)} {nz : Nat → List UInt8} (hz : ∀ i, IsNoise (nz i)) (hR : ∀ x ∈ l, Right l.length x) (hl : l.length < 60) : ∀ i, i ≤ l.length + 1 → Asc (textN nz l i)
  | 0, _ => fun c hc => by cases hc
  | i + 1, hi => by
    rw [textN, roundN]
    refine (textN_asc hz hR hl i (by omega)).app ((noise_asc (hz i)).app (Asc.app (ascB_asc (names60 i (by omega)).2.2.2.2.2.2.1) (Asc.app (a := [10]) (ascB_asc (by decide)) ?_)))
    cases hx : l[i]? with
    | none => exact fun c hc => by cases hc
    | some x =>
      have hr := hR x (List.mem_of_getElem? hx)
      refine Asc.app ?_ (ascB_asc (by decide))
      unfold bodyN
      refine Asc.app (a := [9]) (ascB_asc (by decide)) ((op_word hr.op).2.2.2.app ?_)
      split
      · exact fun c hc => by cases hc
      · refine Asc.app (ascB_asc (by decide)) ?_
        unfold opdN
        split
        · rename_i h3
          have hm := hr.may
          rw [h3] at hm
          have := place_ok hm
          exact ascB_asc (names60 x.2.toNat (by omega)).2.2.2.2.2.2.2
        · exact itoa_asc _
end Go.Proofs.YtojgdabkdbchnaaDoor
