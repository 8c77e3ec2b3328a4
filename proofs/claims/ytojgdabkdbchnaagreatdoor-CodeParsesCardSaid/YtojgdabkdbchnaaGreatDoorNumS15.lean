/-
  THE DOCUMENT's NUMBER, IN PLAIN TERMS: which texts are numbers (digits without a leading zero, a sign) and what ParseInt and FormatInt say of them are one. No condition.
-/
import Derived.Test.YtojgdabkdbchnaaGreatDoorText
namespace Go.Proofs.YtojgdabkdbchnaaGreatDoor
open Go.RowKit
set_option maxRecDepth 100000

def digB (c : UInt8) : Bool := decide (48 ≤ c.toNat) && decide (c.toNat ≤ 57)
def valD (l : List UInt8) : Nat := l.foldl (fun a c => 10 * a + (c.toNat - 48)) 0
theorem valD_snoc (l : List UInt8) (c : UInt8) : valD (l ++ [c]) = 10 * valD l + (c.toNat - 48) := by simp [valD, List.foldl_append]
theorem valD_nil : valD [] = 0 := rfl
theorem digB_iff {c : UInt8} : digB c = true ↔ 48 ≤ c.toNat ∧ c.toNat ≤ 57 := by simp [digB]
theorem valD_lt : ∀ (n : Nat) (l : List UInt8), l.length = n → (∀ c ∈ l, digB c = true) → valD l < 10 ^ n
  | 0, l, h, _ => by
    obtain rfl := List.length_eq_zero_iff.1 h
    decide
  | n + 1, l, h, hd => by
    obtain ⟨a, c, rfl⟩ : ∃ a c, l = a ++ [c] := ⟨l.dropLast, l.getLast (by intro e; subst e; cases h), (List.dropLast_concat_getLast _).symm⟩
    have ih := valD_lt n a (by simpa using h) (fun x hx => hd x (by simp [hx]))
    have hc := digB_iff.1 (hd c (by simp))
    rw [valD_snoc, Nat.pow_succ]
    omega
theorem dec_snoc {v : Nat} {c : UInt8} (hc : 48 ≤ c.toNat ∧ c.toNat ≤ 57) (hv : 1 ≤ v) : Lib.decDigits (10 * v + (c.toNat - 48)) = Lib.decDigits v ++ [c] := by
  rw [Lib.decDigits, dif_neg (by omega)]
  have e1 : (10 * v + (c.toNat - 48)) / 10 = v := by omega
  have e2 : (10 * v + (c.toNat - 48)) % 10 = c.toNat - 48 := by omega
  rw [e1, e2]
  congr 2
  rw [show 48 + (c.toNat - 48) = c.toNat by omega]
  simp
theorem dec_one {c : UInt8} (hc : 48 ≤ c.toNat ∧ c.toNat ≤ 57) : Lib.decDigits (c.toNat - 48) = [c] := by
  rw [Lib.decDigits_one (by omega)]
  rw [show 48 + (c.toNat - 48) = c.toNat by omega]
  simp
/-- digits without a leading zero are the numeral of their value -/
theorem dec_val : ∀ (n : Nat) (l : List UInt8), l.length = n + 1 → (∀ c ∈ l, digB c = true) → (0 < n → l.head? ≠ some 48) → Lib.decDigits (valD l) = l ∧ (0 < n → 1 ≤ valD l)
  | 0, l, h, hd, _ => by
    obtain ⟨c, rfl⟩ := List.length_eq_one_iff.1 h
    have hc := digB_iff.1 (hd c (by simp))
    refine ⟨?_, fun h => absurd h (by omega)⟩
    rw [show valD [c] = c.toNat - 48 from by simp [valD]]
    exact dec_one hc
  | n + 1, l, h, hd, hh => by
    obtain ⟨a, c, rfl⟩ : ∃ a c, l = a ++ [c] := ⟨l.dropLast, l.getLast (by intro e; subst e; cases h), (List.dropLast_concat_getLast _).symm⟩
    have hal : a.length = n + 1 := by simpa using h
    have hne : a ≠ [] := by intro e; subst e; cases hal
    have hhd : (a ++ [c]).head? = a.head? := by
      cases a with
      | nil => exact absurd rfl hne
      | cons => rfl
    have h1 := hh (by omega)
    rw [hhd] at h1
    obtain ⟨i1, i2⟩ := dec_val n a hal (fun x hx => hd x (by simp [hx])) (fun _ => h1)
    have hc := digB_iff.1 (hd c (by simp))
    have hv : 1 ≤ valD a := by
      by_cases hn : 0 < n
      · exact i2 hn
      · obtain rfl : n = 0 := by omega
        obtain ⟨x, rfl⟩ := List.length_eq_one_iff.1 hal
        have hx := digB_iff.1 (hd x (by simp))
        have hx2 : x.toNat ≠ 48 := fun e => h1 (by
          have : x = 48 := UInt8.toNat_inj.1 e
          rw [this]; rfl)
        rw [show valD [x] = x.toNat - 48 from by simp [valD]]
        omega
    rw [valD_snoc, dec_snoc hc hv, i1]
    exact ⟨rfl, fun _ => by omega⟩
theorem dec_digB (u : Nat) : ∀ c ∈ Lib.decDigits u, digB c = true := fun c hc => digB_iff.2 (decDigits_digit u c hc)
theorem val_dec (u : Nat) : valD (Lib.decDigits u) = u := by
  induction u using Nat.strongRecOn with
  | _ u ih =>
    rw [Lib.decDigits]
    split
    · rename_i h
      have := digit_toNat h
      simp only [valD, List.foldl_cons, List.foldl_nil, this]
      omega
    · rename_i h
      have := digit_toNat (Nat.mod_lt u (show 10 > 0 by decide))
      rw [valD_snoc, ih (u / 10) (by omega), this]
      omega
theorem dec_head (u : Nat) (h : 10 ≤ u) : (Lib.decDigits u).head? ≠ some 48 := by
  induction u using Nat.strongRecOn with
  | _ u ih =>
    rw [Lib.decDigits, dif_neg (by omega)]
    have hne := decDigits_ne (u / 10)
    rw [show (Lib.decDigits (u / 10) ++ [UInt8.ofNat (48 + u % 10)]).head? = (Lib.decDigits (u / 10)).head? from by
      cases hd : Lib.decDigits (u / 10) with
      | nil => exact absurd hd hne
      | cons => rfl]
    by_cases h2 : 10 ≤ u / 10
    · exact ih (u / 10) (by omega) h2
    · rw [Lib.decDigits_one (by omega)]
      intro e
      simp only [List.head?_cons, Option.some.injEq] at e
      have h3 := digit_toNat (show u / 10 < 10 by omega)
      rw [e] at h3
      have : (48 : UInt8).toNat = 48 := rfl
      omega
theorem dec_len (u : Nat) (h : u ≤ 9223372036854775808) : (Lib.decDigits u).length ≤ 19 ∧ 1 ≤ (Lib.decDigits u).length := by
  refine ⟨?_, List.length_pos_iff.2 (decDigits_ne u)⟩
  rw [Lib.decDigits_length]
  have hm : ∀ (k u : Nat), u < 10 ^ (k + 1) → Lib.nDigits u ≤ k + 1 := by
    intro k
    induction k with
    | zero => intro u hu; rw [Lib.nDigits_small (by simpa using hu)]; omega
    | succ k ih =>
      intro u hu
      by_cases hs : u < 10
      · rw [Lib.nDigits_small hs]; omega
      · rw [Lib.nDigits_big hs]
        have := ih (u / 10) (by rw [Nat.pow_succ] at hu; omega)
        omega
  exact hm 18 u (Nat.lt_of_le_of_lt h (by decide))
theorem dec_head1 (u : Nat) (h : 1 < (Lib.decDigits u).length) : (Lib.decDigits u).head? ≠ some 48 := by
  refine dec_head u ?_
  by_cases hu : u < 10
  · rw [Lib.decDigits_one hu] at h; simp at h
  · omega

/-- what ParseInt and FormatInt take for a number -/
theorem number_true {l : List UInt8} (h : (numberB l).2 = true) : ∃ v : Int, -9223372036854775808 ≤ v ∧ v ≤ 9223372036854775807 ∧ l = Lib.itoa v ∧ (numberB l).1 = v := by
  unfold numberB at h ⊢
  cases hp : Lib.parseIntB 64 l with
  | ok v =>
    rw [hp] at h
    simp only [decide_eq_true_eq] at h
    obtain ⟨b1, b2⟩ := parse_ok_bounds hp
    exact ⟨v, b1, b2, h.symm, rfl⟩
  | _ => rw [hp] at h; simp at h
/-- may these be a number's digits? -/
def canonD (d : List UInt8) : Prop := 1 ≤ d.length ∧ d.length ≤ 19 ∧ (1 < d.length → d.head? ≠ some 48) ∧ ∀ c ∈ d, digB c = true
theorem canon_dec (u : Nat) (h : u ≤ 9223372036854775808) : canonD (Lib.decDigits u) := ⟨(dec_len u h).2, (dec_len u h).1, dec_head1 u, dec_digB u⟩
theorem canon_back {d : List UInt8} (h : canonD d) : Lib.decDigits (valD d) = d := by
  obtain ⟨h1, _, h3, h4⟩ := h
  exact (dec_val (d.length - 1) d (by omega) h4 (fun h => h3 (by omega))).1
/-- no sign ahead: -/
theorem num_pos {d : List UInt8} (h45 : d.head? ≠ some 45) : (¬ canonD d → (numberB d).2 = false) ∧ (canonD d → (numberB d).2 = decide (valD d < 9223372036854775808) ∧ ((numberB d).2 = true → (numberB d).1 = valD d)) := by
  have key : (numberB d).2 = true → canonD d ∧ valD d < 9223372036854775808 ∧ (numberB d).1 = valD d := fun h => by
    obtain ⟨v, v1, v2, hv, hn⟩ := number_true h
    have hv0 : ¬ v < 0 := fun hneg => h45 (by rw [hv, Lib.itoa, if_pos hneg]; rfl)
    rw [Lib.itoa, if_neg hv0] at hv
    have hc := canon_dec v.toNat (by omega)
    rw [← hv] at hc
    have hval := val_dec v.toNat
    rw [← hv] at hval
    exact ⟨hc, by omega, by rw [hn]; omega⟩
  refine ⟨fun hc => ?_, fun hc => ⟨?_, fun h => (key h).2.2⟩⟩
  · cases h : (numberB d).2 with
    | false => rfl
    | true => exact absurd (key h).1 hc
  · by_cases hlt : valD d < 9223372036854775808
    · rw [decide_eq_true hlt]
      have hb := canon_back hc
      have hi : Lib.itoa (valD d : Int) = d := by rw [Lib.itoa_nonneg, hb]
      have := numberB_itoa (valD d) (by omega) (by omega)
      rw [hi] at this
      rw [this]
    · rw [decide_eq_false hlt]
      cases h : (numberB d).2 with
      | false => rfl
      | true => exact absurd (key h).2.1 hlt
/-- a minus ahead: -/
theorem num_neg (d : List UInt8) : (¬ (canonD d ∧ d ≠ [48]) → (numberB (45 :: d)).2 = false) ∧ (canonD d ∧ d ≠ [48] → (numberB (45 :: d)).2 = decide (valD d ≤ 9223372036854775808) ∧ ((numberB (45 :: d)).2 = true → (numberB (45 :: d)).1 = -(valD d : Int))) := by
  have key : (numberB (45 :: d)).2 = true → (canonD d ∧ d ≠ [48]) ∧ valD d ≤ 9223372036854775808 ∧ (numberB (45 :: d)).1 = -(valD d : Int) := fun h => by
    obtain ⟨v, v1, v2, hv, hn⟩ := number_true h
    have hv0 : v < 0 := by
      by_cases hneg : v < 0
      · exact hneg
      · rw [Lib.itoa, if_neg hneg] at hv
        have hc := digB_iff.1 (dec_digB v.toNat 45 (by rw [← hv]; simp))
        have : (45 : UInt8).toNat = 45 := rfl
        omega
    rw [Lib.itoa, if_pos hv0] at hv
    injection hv with _ hv
    have hc := canon_dec v.natAbs (by omega)
    rw [← hv] at hc
    have hval := val_dec v.natAbs
    rw [← hv] at hval
    refine ⟨⟨hc, fun e => ?_⟩, by omega, by rw [hn]; omega⟩
    rw [e] at hval
    have : valD [48] = 0 := by decide
    omega
  refine ⟨fun hc => ?_, fun hc => ⟨?_, fun h => (key h).2.2⟩⟩
  · cases h : (numberB (45 :: d)).2 with
    | false => rfl
    | true => exact absurd (key h).1 hc
  · by_cases hlt : valD d ≤ 9223372036854775808
    · rw [decide_eq_true hlt]
      have hb := canon_back hc.1
      have h1 : 1 ≤ valD d := by
        rcases Nat.eq_zero_or_pos (valD d) with h0 | h0
        · rw [h0, Lib.decDigits_one (by decide)] at hb
          exact absurd hb.symm hc.2
        · exact h0
      have hi : Lib.itoa (-(valD d : Int)) = 45 :: d := by rw [Lib.itoa_neg _ h1, hb]
      have := numberB_itoa (-(valD d : Int)) (by omega) (by omega)
      rw [hi] at this
      rw [this]
    · rw [decide_eq_false hlt]
      cases h : (numberB (45 :: d)).2 with
      | false => rfl
      | true => exact absurd (key h).2.1 hlt
end Go.Proofs.YtojgdabkdbchnaaGreatDoor
