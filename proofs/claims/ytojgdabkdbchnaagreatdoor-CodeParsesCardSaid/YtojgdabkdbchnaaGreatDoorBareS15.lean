/-
  PLAIN LAWS OF THE DOCUMENT's READER: a line's end at the semicolon, its blanks, the lines of a text. No condition.
-/
import Derived.Test.YtojgdabkdbchnaaGreatDoorCodeLines
import Derived.Lib.SlTrimSet
import Derived.Lib.IndexLaws
import Derived.Lib.IndexAny
namespace Go.Proofs.YtojgdabkdbchnaaGreatDoor
open Go.RowKit

theorem occ_one (l : List UInt8) (c : UInt8) (j : Nat) : Lib.occAt l [c] j = (l[j]? == some c) := by
  unfold Lib.occAt
  cases hd : l.drop j with
  | nil =>
    have hj : l.length ≤ j := by simpa using hd
    rw [List.getElem?_eq_none hj]
    rfl
  | cons x r =>
    have hx : l[j]? = some x := by
      have := congrArg (·[0]?) hd
      simpa using this
    rw [hx]
    rw [Bool.eq_iff_iff]
    simp [List.isPrefixOf]
    exact eq_comm
theorem cut_take {l : List UInt8} {k : Nat} (hk : k ≤ l.length) (h1 : ∀ j, j < k → l[j]? ≠ some 59) (h2 : k = l.length ∨ l[k]? = some 59) : (Lib.cut l [59]).1 = l.take k := by
  have hno : ∀ j, j < k → Lib.occAt l [59] j = false := fun j hj => by rw [occ_one]; simpa using h1 j hj
  unfold Lib.cut
  rcases h2 with rfl | h2
  · have : Lib.index l [59] = -1 := Lib.index_none fun j hj => by
      by_cases e : j < l.length
      · exact hno j e
      · rw [occ_one, List.getElem?_eq_none (by omega)]; rfl
    rw [this, if_neg (by decide), List.take_length]
  · have : Lib.index l [59] = k := Lib.index_hit (fun j hj => hno j hj) hk (by rw [occ_one, h2]; simp)
    rw [this, if_pos (by omega)]
    simp
theorem trim_span {l : List UInt8} {a b : Nat} (hab : a ≤ b) (hb : b ≤ l.length) (h1 : ∀ (j : Nat) x, j < a → l[j]? = some x → ([32, 9] : List UInt8).contains x = true) (h2 : ∀ x, l[a]? = some x → ([32, 9] : List UInt8).contains x = false)
    (h3 : ∀ (j : Nat) x, b ≤ j → l[j]? = some x → ([32, 9] : List UInt8).contains x = true) (h4 : a < b → ∀ x, l[b - 1]? = some x → ([32, 9] : List UInt8).contains x = false) : Lib.trimS l [32, 9] = (l.take b).drop a := by
  unfold Lib.trimS
  by_cases hlt : a < b
  · rw [Lib.trimRightS_take l [32, 9] b hb h3 (fun x _ hx => h4 hlt x hx)]
    refine Lib.trimLeftS_drop (l.take b) [32, 9] a (by simp; omega) (fun j x hj hx => h1 j x hj ?_) (fun x hx => h2 x ?_)
    · rw [List.getElem?_take, if_pos (by omega)] at hx; exact hx
    · rw [List.getElem?_take, if_pos (by omega)] at hx; exact hx
  · obtain rfl : a = b := by omega
    have ha : a = l.length := by
      rcases Nat.lt_or_ge a l.length with hl | hl
      · have e := List.getElem?_eq_getElem hl
        have k1 := h2 _ e
        rw [h3 a _ (Nat.le_refl _) e] at k1
        cases k1
      · omega
    rw [Lib.trimRightS_take l [32, 9] 0 (Nat.zero_le _) (fun j x _ hx => by
      have : j < l.length := (List.getElem?_eq_some_iff.1 hx).1
      exact h1 j x (by omega) hx) (fun _ h => absurd h (by decide))]
    subst ha
    simp [Lib.trimLeftS]
theorem lines_mid {c : UInt8} : ∀ (a r : List UInt8), (∀ x ∈ a, x ≠ c) → linesL c (a ++ c :: r) = a :: linesL c r
  | [], r, _ => by simp [linesL]
  | x :: a, r, h => by
    have ih := lines_mid a r (fun y hy => h y (List.mem_cons_of_mem _ hy))
    have hx := h x (by simp)
    simp only [List.cons_append, linesL, if_neg hx, ih]
theorem lines_end {c : UInt8} : ∀ (a : List UInt8), (∀ x ∈ a, x ≠ c) → linesL c a = [a]
  | [], _ => rfl
  | x :: a, h => by
    have ih := lines_end a (fun y hy => h y (List.mem_cons_of_mem _ hy))
    have hx := h x (by simp)
    simp only [linesL, if_neg hx, ih]
theorem lines_span {c : UInt8} {l : List UInt8} {f i : Nat} (hfi : f ≤ i) (h1 : ∀ j, f ≤ j → j < i → l[j]? ≠ some c) (h2 : l[i]? = some c) : linesL c (l.drop f) = (l.take i).drop f :: linesL c (l.drop (i + 1)) := by
  have hi : i < l.length := (List.getElem?_eq_some_iff.1 h2).1
  have e : l.drop f = (l.take i).drop f ++ c :: l.drop (i + 1) := by
    have h3 : l.drop i = c :: l.drop (i + 1) := by
      rw [List.drop_eq_getElem_cons hi]
      congr 1
      exact (List.getElem?_eq_some_iff.1 h2).2
    have h4 : l = l.take i ++ l.drop i := (List.take_append_drop i l).symm
    conv => lhs; rw [h4]
    rw [List.drop_append_of_le_length (by simp; omega), h3]
  rw [e]
  refine lines_mid _ _ fun x hx hxc => ?_
  subst hxc
  obtain ⟨j, hj, he⟩ := List.mem_iff_getElem.1 hx
  have hjl : j < i - f := by simp at hj; omega
  refine h1 (f + j) (by omega) (by omega) ?_
  rw [List.getElem_drop] at he
  rw [List.getElem_take] at he
  rw [List.getElem?_eq_getElem (by omega), he]
theorem lines_last {c : UInt8} {l : List UInt8} {f : Nat} (h1 : ∀ j, f ≤ j → j < l.length → l[j]? ≠ some c) : linesL c (l.drop f) = [l.drop f] := by
  refine lines_end _ fun x hx hxc => ?_
  subst hxc
  obtain ⟨j, hj, he⟩ := List.mem_iff_getElem.1 hx
  have hjl : f + j < l.length := by simp at hj; omega
  refine h1 (f + j) (by omega) hjl ?_
  rw [List.getElem_drop] at he
  rw [List.getElem?_eq_getElem hjl, he]
end Go.Proofs.YtojgdabkdbchnaaGreatDoor
