/-
  PLAIN LAWS ON PROGRAMS' TEXTS: a text in which each mark (35) is the next of some numbers (joinL), and what the reader makes of it where each mark stands on a line 'push #' (parseM). No condition.
-/
import Derived.Test.YtoiokbdipcecnaaGreatDoorCodeParse
import Derived.Lib.ItoaLen
import Derived.Stop.FmtTextWidths
namespace Go.Proofs.YtoiokbdipcecnaaGreatDoor
open Go.RowKit
set_option maxRecDepth 100000

/-- the first k pieces, the numbers between them -/
def outL (P : List (List UInt8)) (ns : List Int) : Nat → List UInt8
  | 0 => []
  | k + 1 => outL P ns k ++ ((if k = 0 then [] else Lib.itoa (ns.getD (k - 1) 0)) ++ P.getD k [])
def joinL (text : List UInt8) (ns : List Int) : List UInt8 := outL (linesL 35 text) ns (linesL 35 text).length
theorem outL_pos {P : List (List UInt8)} {ns : List Int} (h : P.getD 0 [] ≠ []) : ∀ k, outL P ns (k + 1) ≠ []
  | 0 => by simpa [outL] using h
  | k + 1 => by
    intro e
    rw [outL] at e
    exact outL_pos h k (List.append_eq_nil_iff.1 e).1
theorem outL_step {P : List (List UInt8)} {ns : List Int} (k : Nat) : outL P ns (k + 1) = outL P ns k ++ ((if k = 0 then [] else Lib.itoa (ns.getD (k - 1) 0)) ++ P.getD k []) := rfl
theorem outL_mono {P : List (List UInt8)} {ns : List Int} {k m : Nat} (h : k ≤ m) : (outL P ns k).length ≤ (outL P ns m).length := by
  induction m with
  | zero => obtain rfl : k = 0 := by omega
            exact Nat.le_refl _
  | succ m ih =>
    rcases Nat.lt_or_ge k (m + 1) with h1 | h1
    · have := ih (by omega)
      rw [outL_step, List.length_append]; omega
    · obtain rfl : k = m + 1 := by omega
      exact Nat.le_refl _
def ascB (l : List UInt8) : Bool := l.all fun c => decide (c.toNat < 128)
theorem ascB_asc {l : List UInt8} (h : ascB l = true) : Asc l := fun c hc => by
  have := List.all_eq_true.1 h c hc
  simpa using this
theorem outL_asc {P : List (List UInt8)} {ns : List Int} (h : ∀ x ∈ P, Asc x) : ∀ k, Asc (outL P ns k)
  | 0 => fun c hc => by cases hc
  | k + 1 => fun c hc => by
    rw [outL_step] at hc
    rcases List.mem_append.1 hc with hc | hc
    · exact outL_asc h k c hc
    · rcases List.mem_append.1 hc with hc | hc
      · split at hc
        · cases hc
        · exact Extern.FmtText.itoa_ascii _ c hc
      · rw [List.getD_eq_getElem?_getD] at hc
        cases hp : P[k]? with
        | none => rw [hp] at hc; cases hc
        | some x => rw [hp] at hc; exact h x (List.mem_of_getElem? hp) c hc
theorem outL_length {P : List (List UInt8)} {ns : List Int} {M : Nat} (h : ∀ x ∈ P, x.length ≤ M) (hr : ∀ j, -9223372036854775808 ≤ ns.getD j 0 ∧ ns.getD j 0 ≤ 9223372036854775807) : ∀ k, (outL P ns k).length ≤ k * (M + 21)
  | 0 => by simp [outL]
  | k + 1 => by
    have ih := outL_length h hr k
    have hi := Lib.itoa_length_le _ (hr (k - 1)).1 (hr (k - 1)).2
    have hp : (P.getD k []).length ≤ M := by
      rw [List.getD_eq_getElem?_getD]
      cases hp : P[k]? with
      | none => simp
      | some x => exact h x (List.mem_of_getElem? hp)
    rw [outL_step, List.length_append, List.length_append, Nat.succ_mul]
    split
    · simp only [List.length_nil]; omega
    · omega

/-! ### the numeral, read back -/
theorem decDigits_digit : ∀ (u : Nat), ∀ c ∈ Lib.decDigits u, 48 ≤ c.toNat ∧ c.toNat ≤ 57 := by
  intro u
  induction u using Nat.strongRecOn with
  | _ u ih =>
    intro c hc
    rw [Lib.decDigits] at hc
    split at hc
    · simp at hc
      subst hc
      simp
      omega
    · rcases List.mem_append.1 hc with hc | hc
      · exact ih (u / 10) (by omega) c hc
      · simp at hc
        subst hc
        have : u % 10 < 10 := Nat.mod_lt _ (by decide)
        simp
        omega
theorem decDigits_ne (u : Nat) : Lib.decDigits u ≠ [] := by
  rw [Lib.decDigits]
  split <;> simp
theorem itoa_byte (x : Int) : ∀ c ∈ Lib.itoa x, c.toNat = 45 ∨ 48 ≤ c.toNat ∧ c.toNat ≤ 57 := by
  intro c hc
  rw [Lib.itoa] at hc
  split at hc
  · rcases List.mem_cons.1 hc with rfl | hc
    · exact Or.inl rfl
    · exact Or.inr (decDigits_digit _ c hc)
  · exact Or.inr (decDigits_digit _ c hc)
theorem itoa_ne (x : Int) : Lib.itoa x ≠ [] := by
  rw [Lib.itoa]
  split
  · simp
  · exact decDigits_ne _
theorem parseUintM_append (M : Nat) : ∀ (a b : List UInt8) (acc u : Nat), Lib.parseUintM M acc a = .ok u → Lib.parseUintM M acc (a ++ b) = Lib.parseUintM M u b
  | [], b, acc, u, h => by injection h with h; subst h; rfl
  | c :: r, b, acc, u, h => by
    simp only [Lib.parseUintM, List.cons_append] at h ⊢
    split at h
    · rename_i hd
      rw [if_pos hd]
      split at h
      · cases h
      · rename_i h1
        rw [if_neg h1]
        split at h
        · cases h
        · rename_i h2
          rw [if_neg h2]
          exact parseUintM_append M r b _ u h
    · cases h
theorem digit_toNat {d : Nat} (h : d < 10) : (UInt8.ofNat (48 + d)).toNat = 48 + d := by
  simp; omega
theorem parseUintM_dec (M : Nat) (hM : M ≤ 18446744073709551615) : ∀ u : Nat, u ≤ M → Lib.parseUintM M 0 (Lib.decDigits u) = .ok u := by
  intro u
  induction u using Nat.strongRecOn with
  | _ u ih =>
    intro hu
    rw [Lib.decDigits]
    split
    · rename_i h
      have hd := digit_toNat h
      simp only [Lib.parseUintM]
      rw [hd, if_pos (by omega), if_neg (by omega), if_neg (by omega)]
      congr 1; omega
    · rename_i h
      have hd : (UInt8.ofNat (48 + u % 10)).toNat = 48 + u % 10 := digit_toNat (Nat.mod_lt _ (by decide))
      rw [parseUintM_append M _ _ 0 (u / 10) (ih (u / 10) (by omega) (by omega))]
      simp only [Lib.parseUintM]
      rw [hd, if_pos (by omega), if_neg (by omega), if_neg (by omega)]
      congr 1; omega
theorem parseIntB_itoa (n : Int) (h1 : -9223372036854775808 ≤ n) (h2 : n ≤ 9223372036854775807) : Lib.parseIntB 64 (Lib.itoa n) = .ok n := by
  have hM : (2 ^ 64 - 1 : Nat) = 18446744073709551615 := by decide
  have h63 : (2 ^ (64 - 1) : Nat) = 9223372036854775808 := by decide
  rw [Lib.itoa]
  split
  · rename_i hneg
    have e : Lib.parseUintB 64 (Lib.decDigits n.natAbs) = .ok n.natAbs := by
      unfold Lib.parseUintB
      rw [if_neg (decDigits_ne _), hM]
      exact parseUintM_dec _ (by omega) _ (by omega)
    simp only [Lib.parseIntB]
    rw [if_pos (Or.inr (by decide)), e, h63]
    simp only
    rw [if_neg (by simp), if_neg (by omega), if_pos (by decide)]
    congr 1; omega
  · rename_i hpos
    have e : Lib.parseUintB 64 (Lib.decDigits n.toNat) = .ok n.toNat := by
      unfold Lib.parseUintB
      rw [if_neg (decDigits_ne _), hM]
      exact parseUintM_dec _ (by omega) _ (by omega)
    obtain ⟨c, r, hcr⟩ : ∃ c r, Lib.decDigits n.toNat = c :: r := by
      cases hd : Lib.decDigits n.toNat with
      | nil => exact absurd hd (decDigits_ne _)
      | cons c r => exact ⟨c, r, rfl⟩
    have hc := decDigits_digit n.toNat c (by rw [hcr]; simp)
    rw [hcr] at e ⊢
    simp only [Lib.parseIntB]
    rw [if_neg (by omega), e, h63]
    simp only
    rw [if_neg (by omega), if_neg (by omega), if_neg (by omega)]
    congr 1; omega
theorem numberB_itoa (n : Int) (h1 : -9223372036854775808 ≤ n) (h2 : n ≤ 9223372036854775807) : numberB (Lib.itoa n) = (n, true) := by
  unfold numberB
  rw [parseIntB_itoa n h1 h2]
  simp

/-! ### the marks put in, byte by byte -/
def sub : List UInt8 → List Int → List UInt8
  | [], _ => []
  | c :: r, ns => if c = 35 then Lib.itoa (ns.getD 0 0) ++ sub r ns.tail else c :: sub r ns
theorem outL_shift (h p : List UInt8) (P : List (List UInt8)) (ns : List Int) : ∀ k, outL ((h ++ p) :: P) ns (k + 1) = h ++ outL (p :: P) ns (k + 1)
  | 0 => by simp [outL]
  | k + 1 => by
    have e1 : outL ((h ++ p) :: P) ns (k + 1 + 1) = outL ((h ++ p) :: P) ns (k + 1) ++ (Lib.itoa (ns.getD k 0) ++ P.getD k []) := by rw [outL_step (k := k + 1)]; simp [List.getD]
    have e2 : outL (p :: P) ns (k + 1 + 1) = outL (p :: P) ns (k + 1) ++ (Lib.itoa (ns.getD k 0) ++ P.getD k []) := by rw [outL_step (k := k + 1)]; simp [List.getD]
    rw [e1, e2, outL_shift h p P ns k, List.append_assoc]
theorem outL_tail (p : List UInt8) (P : List (List UInt8)) (ns : List Int) : ∀ k, outL (p :: P) ns (k + 2) = p ++ (Lib.itoa (ns.getD 0 0) ++ outL P ns.tail (k + 1))
  | 0 => by simp [outL]
  | k + 1 => by
    have e1 : outL (p :: P) ns (k + 1 + 2) = outL (p :: P) ns (k + 2) ++ (Lib.itoa (ns.getD (k + 1) 0) ++ P.getD (k + 1) []) := by rw [outL_step (k := k + 2)]; simp [List.getD]
    have e2 : outL P ns.tail (k + 1 + 1) = outL P ns.tail (k + 1) ++ (Lib.itoa (ns.tail.getD k 0) ++ P.getD (k + 1) []) := by rw [outL_step (k := k + 1)]; simp [List.getD]
    have e : ns.getD (k + 1) 0 = ns.tail.getD k 0 := by cases ns <;> simp [List.getD]
    rw [e1, e2, outL_tail p P ns k, e]
    simp only [List.append_assoc]
theorem joinL_sub : ∀ (t : List UInt8) (ns : List Int), joinL t ns = sub t ns
  | [], ns => by simp [joinL, linesL, outL, sub]
  | b :: r, ns => by
    unfold sub
    by_cases hb : b = 35
    · rw [if_pos hb, ← joinL_sub r ns.tail]
      unfold joinL
      have e : linesL 35 (b :: r) = [] :: linesL 35 r := by simp [linesL, hb]
      rw [e]
      obtain ⟨k, hk⟩ : ∃ k, (linesL 35 r).length = k + 1 := ⟨(linesL 35 r).length - 1, by have := List.length_pos_iff.2 (linesL_ne 35 r); omega⟩
      rw [List.length_cons, hk, outL_tail]; rfl
    · rw [if_neg hb, ← joinL_sub r ns]
      unfold joinL
      cases hl : linesL 35 r with
      | nil => exact absurd hl (linesL_ne 35 r)
      | cons h t =>
        have e : linesL 35 (b :: r) = ([b] ++ h) :: t := by
          unfold linesL; rw [if_neg hb, hl]; rfl
        rw [e, List.length_cons, List.length_cons, outL_shift]
        rfl
theorem linesL_pre {c : UInt8} : ∀ {x : List UInt8}, (∀ b ∈ x, b ≠ c) → ∀ (r : List UInt8), linesL c (x ++ r) = match linesL c r with
    | h :: t => (x ++ h) :: t
    | [] => [x]
  | [], _, r => by
    cases hl : linesL c r with
    | nil => exact absurd hl (linesL_ne c r)
    | cons h t => simp [hl]
  | b :: x, hx, r => by
    have ih := linesL_pre (x := x) (fun d hd => hx d (List.mem_cons_of_mem _ hd)) r
    have e : linesL c (b :: (x ++ r)) = match linesL c (x ++ r) with
        | h :: t => (b :: h) :: t
        | [] => [[b]] := by
      rw [linesL, if_neg (hx b (by simp))]
      cases linesL c (x ++ r) <;> rfl
    rw [List.cons_append, e, ih]
    cases hl : linesL c r with
    | nil => exact absurd hl (linesL_ne c r)
    | cons h t => simp
def marks (l : List UInt8) : Nat := l.count 35
/-- the lines, their marks put in -/
def subLs : List (List UInt8) → List Int → List (List UInt8)
  | [], _ => []
  | x :: r, ns => sub x ns :: subLs r (ns.drop (marks x))
theorem lines_sub : ∀ (t : List UInt8) (ns : List Int), linesL 10 (sub t ns) = subLs (linesL 10 t) ns
  | [], ns => by simp [linesL, sub, subLs]
  | b :: r, ns => by
    by_cases hn : b = 10
    · subst hn
      have e : sub (10 :: r) ns = 10 :: sub r ns := by simp [sub]
      rw [e]
      have e2 : linesL 10 (10 :: r) = [] :: linesL 10 r := by simp [linesL]
      have e3 : linesL 10 (10 :: sub r ns) = [] :: linesL 10 (sub r ns) := by simp [linesL]
      rw [e2, e3, lines_sub r ns]
      simp [subLs, sub, marks]
    · by_cases hb : b = 35
      · subst hb
        have e : sub (35 :: r) ns = Lib.itoa (ns.getD 0 0) ++ sub r ns.tail := by simp [sub]
        rw [e, linesL_pre (fun c hc => by
          have := itoa_byte _ c hc
          intro e; subst e; simp at this), lines_sub r ns.tail]
        cases hl : linesL 10 r with
        | nil => exact absurd hl (linesL_ne 10 r)
        | cons h t =>
          have e2 : linesL 10 (35 :: r) = (35 :: h) :: t := by
            unfold linesL; rw [if_neg (by decide), hl]
          rw [e2]
          simp [subLs, sub, marks]
      · have e : sub (b :: r) ns = b :: sub r ns := by simp [sub, hb]
        rw [e, show b :: sub r ns = [b] ++ sub r ns from rfl, linesL_pre (fun c hc => by simp at hc; subst hc; exact hn), lines_sub r ns]
        cases hl : linesL 10 r with
        | nil => exact absurd hl (linesL_ne 10 r)
        | cons h t =>
          have e2 : linesL 10 (b :: r) = (b :: h) :: t := by
            unfold linesL; rw [if_neg hn, hl]
          rw [e2]
          simp [subLs, sub, marks, hb]
theorem sub_plain : ∀ (x : List UInt8) (ns : List Int), marks x = 0 → sub x ns = x
  | [], _, _ => rfl
  | c :: r, ns, h => by
    have hc : c ≠ 35 := by intro e; subst e; simp [marks] at h
    unfold sub
    rw [if_neg hc, sub_plain r ns (by simpa [marks, List.count_cons, hc] using h)]

/-! ### reading with the marks -/
def pushMark : List UInt8 := [112, 117, 115, 104, 32, 35]
def readM (st : RS) (line : Int) (x : List UInt8) (ns : List Int) : Except Int RS :=
  if x = pushMark then (if st.l.length = 400 then .error 150 else .ok { st with l := st.l ++ [(1, ns.getD 0 0)], lines := st.lines ++ [line] })
  else readS st line (Lib.cut x [59]).1
def readAllM : RS → Nat → List (List UInt8) → List Int → Except (Int × Int) RS
  | st, _, [], _ => .ok st
  | st, k, x :: r, ns =>
    match readM st ((k + 1 : Nat) : Int) x ns with
    | .error er => .error (er, ((k + 1 : Nat) : Int))
    | .ok st' => readAllM st' (k + 1) r (ns.drop (marks x))
/-- what a text with marks comes to -/
def parseM (t : List UInt8) (ns : List Int) : Except (Int × Int) (List (Int × Int)) :=
  match readAllM ⟨[], [], [], []⟩ 0 (linesL 10 t) ns with
  | .error e => .error e
  | .ok st => match placesS st with
    | .error e => .error e
    | .ok l => if l.isEmpty then .error (150, 0) else .ok l
/-- each mark stands on a line 'push #' -/
def marksB (t : List UInt8) : Bool := (linesL 10 t).all fun x => decide (x = pushMark) || decide (marks x = 0)
def InR (ns : List Int) : Prop := ∀ j, -9223372036854775808 ≤ ns.getD j 0 ∧ ns.getD j 0 ≤ 9223372036854775807
theorem InR.drop {ns : List Int} (h : InR ns) (k : Nat) : InR (ns.drop k) := fun j => by
  have := h (k + j)
  rw [List.getD_eq_getElem?_getD] at this ⊢
  rwa [List.getElem?_drop]
theorem index_absent {c : UInt8} : ∀ l : List UInt8, (∀ b ∈ l, b ≠ c) → Lib.index l [c] = -1
  | [], _ => by simp [Lib.index]
  | b :: r, h => by rw [index_ne (h b (by simp)), index_absent r (fun d hd => h d (List.mem_cons_of_mem _ hd))]; rfl
theorem cut_absent {l : List UInt8} (h : ∀ b ∈ l, b ≠ 59) : (Lib.cut l [59]).1 = l := by
  unfold Lib.cut
  rw [index_absent l h]
  rfl
theorem dropWhile_at {p : UInt8 → Bool} {c : UInt8} {r : List UInt8} (h : p c = false) : (c :: r).dropWhile p = c :: r := by
  rw [List.dropWhile_cons, h]; rfl
theorem trimS_ends {l : List UInt8} (hh : ∀ c, l.head? = some c → [32, 9].contains c = false) (hl : ∀ c, l.getLast? = some c → [32, 9].contains c = false) : Lib.trimS l [32, 9] = l := by
  unfold Lib.trimS Lib.trimLeftS Lib.trimRightS
  have e1 : l.reverse.dropWhile ([32, 9].contains ·) = l.reverse := by
    cases hr : l.reverse with
    | nil => rfl
    | cons c r =>
      refine dropWhile_at (hl c ?_)
      rw [List.getLast?_eq_head?_reverse, hr]; rfl
  rw [e1, List.reverse_reverse]
  cases l with
  | nil => rfl
  | cons c r => exact dropWhile_at (hh c rfl)
theorem getLast_itoa (x : List UInt8) (n : Int) : ∃ c, (x ++ Lib.itoa n).getLast? = some c ∧ (c.toNat = 45 ∨ 48 ≤ c.toNat ∧ c.toNat ≤ 57) := by
  refine ⟨(Lib.itoa n).getLast (itoa_ne n), ?_, itoa_byte n _ (List.getLast_mem _)⟩
  rw [List.getLast?_append, List.getLast?_eq_some_getLast (itoa_ne n)]
  rfl
theorem byte_not {c : UInt8} (h : c.toNat = 45 ∨ 48 ≤ c.toNat ∧ c.toNat ≤ 57) (d : UInt8) (hd : d.toNat < 45 ∨ d.toNat = 46 ∨ d.toNat = 47 ∨ 57 < d.toNat) : c ≠ d := by
  rintro rfl
  omega
theorem push_line (st : RS) (line n : Int) (h1 : -9223372036854775808 ≤ n) (h2 : n ≤ 9223372036854775807) :
    readS st line (Lib.cut ([112, 117, 115, 104, 32] ++ Lib.itoa n) [59]).1 = (if st.l.length = 400 then .error 150 else .ok { st with l := st.l ++ [(1, n)], lines := st.lines ++ [line] }) := by
  have hb := itoa_byte n
  have hcut : (Lib.cut ([112, 117, 115, 104, 32] ++ Lib.itoa n) [59]).1 = [112, 117, 115, 104, 32] ++ Lib.itoa n := cut_absent fun b hb' => by
    rcases List.mem_append.1 hb' with h | h
    · simp at h; rcases h with rfl | rfl | rfl | rfl | rfl <;> decide
    · exact byte_not (hb b h) 59 (by decide)
  obtain ⟨c, hc, hc2⟩ := getLast_itoa [112, 117, 115, 104, 32] n
  obtain ⟨c3, hc3, hc4⟩ := getLast_itoa [] n
  obtain ⟨d, r, hdr⟩ : ∃ c r, Lib.itoa n = c :: r := by
    cases hd : Lib.itoa n with
    | nil => exact absurd hd (itoa_ne _)
    | cons c r => exact ⟨c, r, rfl⟩
  have hd := hb d (by rw [hdr]; simp)
  have blank : ∀ {c : UInt8}, (c.toNat = 45 ∨ 48 ≤ c.toNat ∧ c.toNat ≤ 57) → [32, 9].contains c = false := fun {c} h => by
    have := byte_not h 32 (by decide)
    have := byte_not h 9 (by decide)
    simp [*]
  have ht : Lib.trimS ([112, 117, 115, 104, 32] ++ Lib.itoa n) [32, 9] = [112, 117, 115, 104, 32] ++ Lib.itoa n := trimS_ends (fun c h => by injection h with h; subst h; decide) (fun e he => by rw [hc] at he; injection he with he; subst he; exact blank hc2)
  have ht2 : Lib.trimS (Lib.itoa n) [32, 9] = Lib.itoa n := trimS_ends (fun e he => by rw [hdr] at he; injection he with he; subst he; exact blank hd) (fun e he => by rw [List.nil_append] at hc3; rw [hc3] at he; injection he with he; subst he; exact blank hc4)
  have ht3 : Lib.trimS (32 :: Lib.itoa n) [32, 9] = Lib.itoa n := by
    have : Lib.trimS (32 :: Lib.itoa n) [32, 9] = Lib.trimS (Lib.itoa n) [32, 9] := by
      unfold Lib.trimS Lib.trimRightS Lib.trimLeftS
      rw [List.reverse_cons]
      have e1 : ((Lib.itoa n).reverse ++ [32]).dropWhile ([32, 9].contains ·) = (Lib.itoa n).reverse ++ [32] := by
        cases hr : (Lib.itoa n).reverse with
        | nil => rw [List.reverse_eq_nil_iff] at hr; exact absurd hr (itoa_ne n)
        | cons c r =>
          refine dropWhile_at (blank ?_)
          rw [List.nil_append, List.getLast?_eq_head?_reverse, hr] at hc3
          injection hc3 with hc3; subst hc3; exact hc4
      have e2 : (Lib.itoa n).reverse.dropWhile ([32, 9].contains ·) = (Lib.itoa n).reverse := by
        cases hr : (Lib.itoa n).reverse with
        | nil => rfl
        | cons c r =>
          refine dropWhile_at (blank ?_)
          rw [List.nil_append, List.getLast?_eq_head?_reverse, hr] at hc3
          injection hc3 with hc3; subst hc3; exact hc4
      rw [e1, e2, List.reverse_append, List.reverse_reverse]
      rfl
    rw [this, ht2]
  have hsuf : Lib.hasSuffix ([112, 117, 115, 104, 32] ++ Lib.itoa n) [58] = false := by
    unfold Lib.hasSuffix
    rw [Bool.eq_false_iff]
    intro h
    rw [List.isSuffixOf_iff_suffix] at h
    obtain ⟨t, ht⟩ := h
    rw [← ht, List.getLast?_append] at hc
    simp at hc
    subst hc
    exact absurd hc2 (by decide)
  have hix : Lib.indexAny ([112, 117, 115, 104, 32] ++ Lib.itoa n) [32, 9] = 4 := by
    rw [hdr]
    simp [Lib.indexAny]
  rw [hcut]
  unfold readS
  simp only [ht, hsuf, hix]
  rw [if_neg (by simp), if_neg (by simp)]
  simp only [show ¬ ((4 : Int) < 0) by decide, if_false, show (4 : Int).toNat = 4 by rfl]
  have htk : List.take 4 ([112, 117, 115, 104, 32] ++ Lib.itoa n) = [112, 117, 115, 104] := rfl
  have hdp : List.drop 4 ([112, 117, 115, 104, 32] ++ Lib.itoa n) = 32 :: Lib.itoa n := rfl
  rw [htk, hdp, ht3]
  have hop : opOfL [112, 117, 115, 104] = 1 := by decide +kernel
  have htk1 : takes 1 = 1 := by decide +kernel
  rw [hop, htk1]
  simp only [show ¬ ((1 : Int) = 0) by decide, if_false]
  rw [if_neg (by rw [hdr]; simp)]
  have hop2 : operandS st 1 (Lib.itoa n) = some (n, st.named) := by
    unfold operandS
    rw [if_neg (by simp), numberB_itoa n h1 h2]
    rw [if_neg (by simp)]
  rw [hop2]
theorem sub_mark (ns : List Int) : sub pushMark ns = [112, 117, 115, 104, 32] ++ Lib.itoa (ns.getD 0 0) := by
  simp [pushMark, sub]
theorem readAll_sub : ∀ (L : List (List UInt8)) (ns : List Int) (st : RS) (k : Nat), (∀ x ∈ L, x = pushMark ∨ marks x = 0) → InR ns → readAll st k (subLs L ns) = readAllM st k L ns
  | [], _, _, _, _, _ => rfl
  | x :: r, ns, st, k, h, hr => by
    have ih := fun st' => readAll_sub r (ns.drop (marks x)) st' (k + 1) (fun y hy => h y (List.mem_cons_of_mem _ hy)) (hr.drop _)
    have e : readS st ((k + 1 : Nat) : Int) (Lib.cut (sub x ns) [59]).1 = readM st ((k + 1 : Nat) : Int) x ns := by
      unfold readM
      by_cases hx : x = pushMark
      · rw [if_pos hx, hx, sub_mark]
        exact push_line st _ _ (hr 0).1 (hr 0).2
      · rw [if_neg hx, sub_plain x ns ((h x (by simp)).resolve_left hx)]
    simp only [subLs, readAll, readAllM, e]
    cases readM st ((k + 1 : Nat) : Int) x ns with
    | error er => rfl
    | ok st' => exact ih st'
/-- THE LAW: the numbers put in, the text is read as its marks say. -/
theorem parse_sub {text : List UInt8} {ns : List Int} (hm : marksB text = true) (hr : InR ns) (hl : (joinL text ns).length ≤ 65536) : parseL (joinL text ns) = parseM text ns := by
  unfold parseL parseM
  have hx : ∀ x ∈ linesL 10 text, x = pushMark ∨ marks x = 0 := fun x hx => by
    have := List.all_eq_true.1 hm x hx
    simpa using this
  rw [if_neg (by omega), joinL_sub, lines_sub, readAll_sub _ _ _ _ hx hr]
  cases readAllM ⟨[], [], [], []⟩ 0 (linesL 10 text) ns with
  | error e => rfl
  | ok st => cases h : placesS st <;> simp only [h]
end Go.Proofs.YtoiokbdipcecnaaGreatDoor
