/-
  PLAIN LAWS ON the document's Verify: states found in the order of a queue. No condition.
-/
import Derived.Test.YtojgdabkdbchnaaGreatDoorVerifyLaw
namespace Go.Proofs.YtojgdabkdbchnaaGreatDoor
open Go.RowKit
set_option maxRecDepth 100000

def addB (p : VP) (L : List VP) : List VP := if L.contains p then L else L ++ [p]
def addAllB : List VP → List VP → List VP
  | [], L => L
  | p :: r, L => addAllB r (addB p L)
def bfs (l : List (Int × Int)) : Nat → Nat → List VP → List VP
  | 0, _, L => L
  | F + 1, i, L => match L[i]? with
    | none => L
    | some p => bfs l F (i + 1) (addAllB (succV l p) L)
theorem addB_pre (p : VP) (L : List VP) : ∃ t, addB p L = L ++ t := by
  unfold addB
  split
  · exact ⟨[], by simp⟩
  · exact ⟨[p], rfl⟩
theorem addAllB_pre : ∀ (ps L : List VP), ∃ t, addAllB ps L = L ++ t
  | [], L => ⟨[], by simp [addAllB]⟩
  | p :: r, L => by
    obtain ⟨t, ht⟩ := addB_pre p L
    obtain ⟨u, hu⟩ := addAllB_pre r (addB p L)
    exact ⟨t ++ u, by rw [addAllB, hu, ht, List.append_assoc]⟩
theorem addB_set {l : List (Int × Int)} {n : Nat} {p : VP} {L : List VP} (hn : L.Nodup) (hr : ∀ q ∈ L, ReachV l q) (ho : ∀ q ∈ L, okP n q) (hp : ReachV l p) (hq : okP n p) :
    (addB p L).Nodup ∧ (∀ q ∈ addB p L, ReachV l q) ∧ (∀ q ∈ addB p L, okP n q) ∧ p ∈ addB p L := by
  unfold addB
  cases hc : L.contains p with
  | true =>
    rw [if_pos rfl]
    exact ⟨hn, hr, ho, by simpa using hc⟩
  | false =>
    rw [if_neg (by decide)]
    have hnp : p ∉ L := by simpa using hc
    refine ⟨List.nodup_append.2 ⟨hn, by simp, fun a ha b hb => ?_⟩, fun q h => ?_, fun q h => ?_, by simp⟩
    · rw [List.mem_singleton] at hb
      subst hb
      intro e; subst e; exact hnp ha
    · rcases List.mem_append.1 h with h | h
      · exact hr q h
      · rw [List.mem_singleton] at h; subst h; exact hp
    · rcases List.mem_append.1 h with h | h
      · exact ho q h
      · rw [List.mem_singleton] at h; subst h; exact hq
theorem addAllB_set {l : List (Int × Int)} {n : Nat} : ∀ (ps : List VP) {L : List VP}, L.Nodup → (∀ q ∈ L, ReachV l q) → (∀ q ∈ L, okP n q) → (∀ q ∈ ps, ReachV l q ∧ okP n q) →
    (addAllB ps L).Nodup ∧ (∀ q ∈ addAllB ps L, ReachV l q) ∧ (∀ q ∈ addAllB ps L, okP n q) ∧ ∀ q ∈ ps, q ∈ addAllB ps L
  | [], L, hn, hr, ho, _ => ⟨hn, hr, ho, fun q hq => by cases hq⟩
  | p :: r, L, hn, hr, ho, hp => by
    obtain ⟨h1, h2, h3, h4⟩ := addB_set hn hr ho (hp p (by simp)).1 (hp p (by simp)).2
    obtain ⟨k1, k2, k3, k4⟩ := addAllB_set r h1 h2 h3 (fun q hq => hp q (by simp [hq]))
    refine ⟨k1, k2, k3, fun q hq => ?_⟩
    rcases List.mem_cons.1 hq with rfl | hq
    · obtain ⟨t, ht⟩ := addAllB_pre r (addB q L)
      rw [addAllB, ht]
      exact List.mem_append.2 (.inl h4)
    · exact k4 q hq
theorem succ_ok {l : List (Int × Int)} (hl : ∀ (j : Nat) (x : Int × Int), l[j]? = some x → isOp x.1 = true ∧ mayB (takes x.1) x.2 l.length = true) {p : VP} (hp : okP l.length p) : ∀ q ∈ succV l p, okP l.length q := fun q hq => by
  obtain ⟨a, d, b⟩ := p
  unfold succV at hq
  by_cases hend : a.toNat = l.length
  · simp only at hq; rw [if_pos hend] at hq; cases hq
  · simp only at hq; rw [if_neg hend] at hq
    by_cases he : amissS (l.getD a.toNat (0, 0)).1 d b = 0
    · rw [if_pos he] at hq
      obtain ⟨x, hx, rfl⟩ := List.mem_map.1 hq
      have hk : a < l.length := by have := hp.1; have := hp.2.1; simp only at *; omega
      obtain ⟨y, hy⟩ : ∃ y, l[a.toNat]? = some y := ⟨_, List.getElem?_eq_getElem (by have := hp.1; simp only at this; omega)⟩
      have hgd : l.getD a.toNat (0, 0) = y := by rw [List.getD_eq_getElem?_getD, hy]; rfl
      rw [hgd] at hx he ⊢
      exact behind_ok hp hk (hl _ _ hy).2 he x hx
    · rw [if_neg he] at hq; cases hq
theorem unseen_len {n : Nat} : ∀ {L : List VP}, L.Nodup → (∀ p ∈ L, okP n p) → L.length + unseen n L ≤ (n + 1) * 33 * 34
  | [], _, _ => by have := unseen_le n []; simpa using this
  | p :: r, h, ho => by
    obtain ⟨h1, h2⟩ := List.nodup_cons.1 h
    have k := unseen_len h2 (fun q hq => ho q (by simp [hq]))
    have := unseen_add (seen := r) (ho p (by simp)) (by simpa using h1)
    rw [List.length_cons]
    omega
structure BInv (l : List (Int × Int)) (i : Nat) (L : List VP) : Prop where
  nodup : L.Nodup
  start : (0, 0, -1) ∈ L
  closed : ∀ j p, j < i → L[j]? = some p → ∀ q ∈ succV l p, q ∈ L
  reach : ∀ p ∈ L, ReachV l p
  ok : ∀ p ∈ L, okP l.length p
  le : i ≤ L.length
theorem BInv.len {l : List (Int × Int)} {i : Nat} {L : List VP} (h : BInv l i L) : L.length ≤ (l.length + 1) * 33 * 34 := by
  have := unseen_len h.nodup h.ok
  omega
theorem bstart (l : List (Int × Int)) : BInv l 0 [(0, 0, -1)] := by
  refine ⟨by simp, by simp, fun j p hj => by omega, fun p hp => ?_, fun p hp => ?_, by simp⟩
  · rw [List.mem_singleton] at hp; subst hp; exact .start
  · rw [List.mem_singleton] at hp; subst hp
    exact ⟨Int.le_refl _, by show (0 : Int) ≤ l.length; omega, Int.le_refl _, by show (0 : Int) ≤ 32; omega, Int.le_refl _, by show (-1 : Int) ≤ 32; omega⟩
theorem BInv.step {l : List (Int × Int)} (hl : ∀ (j : Nat) (x : Int × Int), l[j]? = some x → isOp x.1 = true ∧ mayB (takes x.1) x.2 l.length = true) {i : Nat} {L : List VP} (h : BInv l i L) {p : VP} (hp : L[i]? = some p) : BInv l (i + 1) (addAllB (succV l p) L) := by
  have hm : p ∈ L := List.mem_of_getElem? hp
  obtain ⟨k1, k2, k3, k4⟩ := addAllB_set (succV l p) h.nodup h.reach h.ok (fun q hq => ⟨(h.reach p hm).step hq, succ_ok hl (h.ok p hm) q hq⟩)
  obtain ⟨t, ht⟩ := addAllB_pre (succV l p) L
  have hi : i < L.length := (List.getElem?_eq_some_iff.1 hp).1
  have hsub : ∀ q ∈ L, q ∈ addAllB (succV l p) L := fun q hq => by rw [ht]; exact List.mem_append.2 (.inl hq)
  refine ⟨k1, hsub _ h.start, fun j q hj hq r hr => ?_, k2, k3, by rw [ht, List.length_append]; omega⟩
  rw [ht, List.getElem?_append_left (by omega)] at hq
  by_cases e : j = i
  · subst e
    rw [hp] at hq
    injection hq with hq
    subst hq
    exact k4 r hr
  · exact hsub _ (h.closed j q (by omega) hq r hr)
theorem BInv.whole {l : List (Int × Int)} {L : List VP} (h : BInv l L.length L) : Whole l L := by
  refine ⟨h.nodup, fun p => ⟨fun hp => h.reach p hp, fun hp => ?_⟩⟩
  induction hp with
  | start => exact h.start
  | step _ hq ih =>
    obtain ⟨j, hj⟩ := List.getElem?_of_mem ih
    exact h.closed j _ (List.getElem?_eq_some_iff.1 hj).1 hj _ hq
theorem bfs_whole {l : List (Int × Int)} (hl : ∀ (j : Nat) (x : Int × Int), l[j]? = some x → isOp x.1 = true ∧ mayB (takes x.1) x.2 l.length = true) : ∀ (F i : Nat) {L : List VP}, BInv l i L → (l.length + 1) * 33 * 34 ≤ i + F → Whole l (bfs l F i L)
  | 0, i, L, h, hF => by
    have := h.len
    have := h.le
    obtain rfl : i = L.length := by omega
    exact h.whole
  | F + 1, i, L, h, hF => by
    rw [bfs]
    cases hp : L[i]? with
    | none =>
      have := List.getElem?_eq_none_iff.1 hp
      have := h.le
      obtain rfl : i = L.length := by omega
      exact h.whole
    | some p => exact bfs_whole hl F (i + 1) (h.step hl hp) (by omega)
end Go.Proofs.YtojgdabkdbchnaaGreatDoor
