/-
  PLAIN LAW ON Verify: what it answers hangs on no number that is pushed, and on no local. No condition.
-/
import Derived.Test.YtojgdabkdbchnaaDoorVerifyS
import Derived.Test.YtojgdabkdbchnaaDoorRefSmall15
namespace Go.Proofs.YtojgdabkdbchnaaDoor
open Go.RowKit
set_option maxRecDepth 100000

/-- the same instruction but for a number, or a local -/
def DeafR (x y : Int × Int) : Prop := x.1 = y.1 ∧ (takes x.1 = 1 ∨ (takes x.1 = 2 ∧ 0 ≤ y.2 ∧ y.2 < 8) ∨ (takes x.1 ≠ 1 ∧ takes x.1 ≠ 2 ∧ x.2 = y.2))
/-- two programs, alike but for numbers and locals -/
def Deaf2 (l m : List (Int × Int)) : Prop := l.length = m.length ∧ ∀ (j : Nat) (x y : Int × Int), l[j]? = some x → m[j]? = some y → DeafR x y
theorem Deaf2.nil : Deaf2 [] [] := ⟨rfl, fun j x y h => by simp at h⟩
theorem Deaf2.snoc {l m : List (Int × Int)} {x y : Int × Int} (h : Deaf2 l m) (hx : DeafR x y) : Deaf2 (l ++ [x]) (m ++ [y]) := by
  obtain ⟨h1, h2⟩ := h
  refine ⟨by simp [h1], fun j p q hp hq => ?_⟩
  by_cases hj : j < l.length
  · rw [List.getElem?_append_left hj] at hp
    rw [List.getElem?_append_left (by omega)] at hq
    exact h2 j p q hp hq
  · rw [List.getElem?_append_right (by omega)] at hp
    rw [List.getElem?_append_right (by omega), ← h1] at hq
    have hz : j - l.length = 0 := by have := (List.getElem?_eq_some_iff.1 hp).1; simpa using this
    rw [hz] at hp hq
    simp at hp hq
    subst hp; subst hq
    exact hx
theorem behind_deaf {op a a' : Int} (h : takes op ≠ 3) (k d b : Int) : behindS op a k d b = behindS op a' k d b := by
  have h14 : op ≠ 14 := by rintro rfl; exact h (by rw [takes_eq]; rfl)
  have h15 : op ≠ 15 := by rintro rfl; exact h (by rw [takes_eq]; rfl)
  have h20 : op ≠ 20 := by rintro rfl; exact h (by rw [takes_eq]; rfl)
  unfold behindS
  simp only [h14, h15, h20, if_false]
theorem DeafR.behind {x y : Int × Int} (h : DeafR x y) (k d b : Int) : behindS x.1 x.2 k d b = behindS y.1 y.2 k d b := by
  obtain ⟨h1, h2⟩ := h
  rw [← h1]
  rcases h2 with h2 | ⟨h2, _⟩ | ⟨_, _, h2⟩
  · exact behind_deaf (by rw [h2]; decide) k d b
  · exact behind_deaf (by rw [h2]; decide) k d b
  · rw [h2]
theorem Deaf2.getD {l m : List (Int × Int)} (h : Deaf2 l m) {k : Nat} (hk : k < l.length) : DeafR (l.getD k (0, 0)) (m.getD k (0, 0)) := by
  have h1 := List.getElem?_eq_getElem hk
  have h2 := List.getElem?_eq_getElem (show k < m.length by rw [← h.1]; exact hk)
  rw [List.getD_eq_getElem?_getD, List.getD_eq_getElem?_getD, h1, h2]
  exact h.2 k _ _ h1 h2
theorem vstep_deaf {l m : List (Int × Int)} (h : Deaf2 l m) (f : VP) (s : VS) (hf : f.1.toNat ≤ l.length) : vstep l f s = vstep m f s := by
  unfold vstep
  simp only
  rw [← h.1]
  by_cases hk : f.1.toNat = l.length
  · rw [if_pos hk, if_pos hk]
  · rw [if_neg hk, if_neg hk]
    have hd := h.getD (k := f.1.toNat) (by omega)
    rw [hd.behind, hd.1]
theorem vrun_deaf {l m : List (Int × Int)} (h : Deaf2 l m) (hl : ∀ (j : Nat) (x : Int × Int), l[j]? = some x → isOp x.1 = true ∧ mayB (takes x.1) x.2 l.length = true) : ∀ (F : Nat) (s : VS), VOk l.length s → vrun l F s = vrun m F s
  | 0, _, _ => rfl
  | F + 1, s, hs => by
    rw [vrun, vrun]
    cases ht : s.todo.getLast? with
    | none => rfl
    | some f =>
      simp only
      have hf := hs.todo f (List.mem_of_getLast? ht)
      rw [vstep_deaf h f _ (by have := hf.1; have := hf.2.1; omega)]
      have hk := vstep_ok (f := f) hl (s := { s with todo := s.todo.dropLast }) ⟨fun p hp => hs.todo p (List.dropLast_subset _ hp), hs.many, hs.wrong⟩ hf
      rw [vstep_deaf h f _ (by have := hf.1; have := hf.2.1; omega)] at hk
      exact vrun_deaf h hl F _ hk.1
theorem checkFrom_deaf {n : Int} : ∀ (l m : List (Int × Int)) (k : Nat), Deaf2 l m → (checkFrom n k l).1 = 0 → (checkFrom n k m).1 = 0
  | [], [], _, _, h => h
  | [], _ :: _, _, h, _ => by have := h.1; simp at this
  | _ :: _, [], _, h, _ => by have := h.1; simp at this
  | x :: r, y :: q, k, h, hc => by
    have hxy := h.2 0 x y rfl rfl
    have ht : Deaf2 r q := ⟨by have := h.1; simpa using this, fun j p t hp hq => h.2 (j + 1) p t (by simpa using hp) (by simpa using hq)⟩
    rw [checkFrom] at hc ⊢
    by_cases h1 : isOp x.1 = false
    · rw [if_pos h1] at hc; simp at hc
    · rw [if_neg h1] at hc
      by_cases h2 : mayB (takes x.1) x.2 n = false
      · rw [if_pos h2] at hc; simp at hc
      · rw [if_neg h2] at hc
        rw [← hxy.1, if_neg h1, if_neg ?_]
        · exact checkFrom_deaf r q (k + 1) ht hc
        · rcases hxy.2 with e | ⟨e, e1, e2⟩ | ⟨_, _, e⟩
          · rw [e]; simp [mayB]
          · rw [e]; simp [mayB]; omega
          · rw [← e]; exact h2
theorem verify_deaf {l m : List (Int × Int)} (h : Deaf2 l m) (h0 : (checkL l).1 = 0) : verifyL l = verifyL m := by
  obtain ⟨h1, h2, h3⟩ := checkL_ok h0
  have hc : (checkL m).1 = 0 := by
    unfold checkL at h0 ⊢
    rw [if_neg (by omega)] at h0
    rw [if_neg (by rw [← h.1]; omega), ← h.1]
    exact checkFrom_deaf l m 0 h h0
  unfold verifyL
  rw [if_pos h0, if_pos hc, ← h.1]
  have e : vend l = vend m := by
    unfold vend
    rw [← h.1]
    exact vrun_deaf h h3 _ _ (vstart_ok l.length).1
  rw [e]
end Go.Proofs.YtojgdabkdbchnaaDoor
