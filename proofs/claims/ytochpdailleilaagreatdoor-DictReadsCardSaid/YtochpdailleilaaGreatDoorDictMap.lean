/-
  dict.entries' map (a key's place), plain: what it holds behind some places; what a range over it has collected. No condition.
-/
import Derived.Test.YtochpdailleilaaGreatDoorDictS
import Derived.Maps.OwnOps
import Derived.Maps.OwnSet
import Derived.Maps.Views
import Derived.Maps.RangeWalk
namespace Go.Proofs.YtochpdailleilaaGreatDoor
open Go.RowKit Go.Maps
set_option maxRecDepth 100000

theorem usedL_len2 (st key v1 v2 : Nat → Int) : ∀ i, (usedL st key v1 i).length = (usedL st key v2 i).length
  | 0 => by simp [usedL]
  | i + 1 => by
    rw [usedL_succ, usedL_succ, List.length_append, List.length_append, usedL_len2 st key v1 v2 i]
    split <;> rfl
theorem nodup_of_map {α β : Type} (f : α → β) {l : List α} (h : (l.map f).Nodup) : l.Nodup := (List.pairwise_map.1 h).imp (fun hne e => hne (by rw [e]))
theorem lit_ne {x y : Int} (h : x ≠ y) : (Lit.int IntKind.i64 x) ≠ Lit.int IntKind.i64 y := fun e => by injection e with _ e; exact h e
/-- the map behind the first places -/
structure MapOK (st key : Nat → Int) (i : Nat) (D : DataW Unit) : Prop where
  tidy : Tidy D
  has_ : ∀ x, has D (.int .i64 x) = true ↔ ∃ j, j < i ∧ st j = 1 ∧ key j = x
  at_ : ∀ j, j < i → st j = 1 → ∀ zd, D.atKey (.int .i64 (key j)) zd = .lit (.int .i64 j)
  size_ : Maps.size D = (usedL st key (fun _ => 0) i).length
section
variable {st key : Nat → Int} {i : Nat} {D : DataW Unit}
theorem MapOK.start (st key : Nat → Int) : MapOK st key 0 (.map []) := ⟨tidy_empty, fun x => by simp [has_eq], fun j h => by omega, by simp [usedL, size_eq]⟩
theorem MapOK.skip (h : MapOK st key i D) (hs : st i ≠ 1) : MapOK st key (i + 1) D := by
  refine ⟨h.tidy, fun x => ?_, fun j hj hj1 => ?_, ?_⟩
  · rw [h.has_ x]
    constructor
    · rintro ⟨j, h1, h2, h3⟩; exact ⟨j, by omega, h2, h3⟩
    · rintro ⟨j, h1, h2, h3⟩
      by_cases e : j = i
      · subst e; exact absurd h2 hs
      · exact ⟨j, by omega, h2, h3⟩
  · by_cases e : j = i
    · subst e; exact absurd hj1 hs
    · exact h.at_ j (by omega) hj1
  · rw [h.size_, usedL_succ, if_neg hs, List.append_nil]
theorem MapOK.put (h : MapOK st key i D) (hs : st i = 1) (hn : ∀ k, k < i → st k = 1 → key k ≠ key i) : MapOK st key (i + 1) (D.put (.int .i64 (key i)) (.lit (.int .i64 i))) := by
  have hk : WideAt.IsKeyLit (Lit.int .i64 (key i)) := trivial
  have hno : has D (.int .i64 (key i)) = false := by
    cases hh : has D (.int .i64 (key i)) with
    | false => rfl
    | true =>
      obtain ⟨j, h1, h2, h3⟩ := (h.has_ _).1 hh
      exact absurd h3 (hn j h1 h2)
  refine ⟨h.tidy.put hk _, fun x => ?_, fun j hj hj1 zd => ?_, ?_⟩
  · by_cases e : x = key i
    · subst e
      rw [has_put_same h.tidy.isMap hk]
      simp only [true_iff]
      exact ⟨i, by omega, hs, rfl⟩
    · rw [has_put_other (lit_ne e), h.has_ x]
      constructor
      · rintro ⟨j, h1, h2, h3⟩; exact ⟨j, by omega, h2, h3⟩
      · rintro ⟨j, h1, h2, h3⟩
        by_cases e2 : j = i
        · subst e2; exact absurd h3.symm e
        · exact ⟨j, by omega, h2, h3⟩
  · by_cases e : j = i
    · subst e; exact atKey_put_same h.tidy.isMap hk _ _
    · rw [atKey_put_other (lit_ne (hn j (by omega) hj1))]
      exact h.at_ j (by omega) hj1 zd
  · rw [size_put h.tidy, hno, h.size_, usedL_succ, if_pos hs]
    simp
end
/-- what a range over it has collected: keys and places -/
structure CollI (D : DataW Unit) (left : Lit → Bool) (ss : List (Int × Int)) : Prop where
  nodup : (ss.map (·.1)).Nodup
  mem : ∀ x, x ∈ ss.map (·.1) ↔ (has D (.int .i64 x) = true ∧ left (.int .i64 x) = false)
  at_ : ∀ p ∈ ss, ∀ zd, D.atKey (.int .i64 p.1) zd = .lit (.int .i64 p.2)
section
variable {D : DataW Unit} {left : Lit → Bool} {ss : List (Int × Int)}
theorem CollI.start (D : DataW Unit) : CollI D (has D) [] := ⟨by simp, fun x => by cases has D (.int .i64 x) <;> simp, by simp⟩
theorem CollI.step (h : CollI D left ss) {x c : Int} (hl : left (.int .i64 x) = true) (hat : ∀ zd, D.atKey (.int .i64 x) zd = .lit (.int .i64 c)) : CollI D (fun z => left z && !z.sameKey (.int .i64 x)) (ss ++ [(x, c)]) := by
  have hhas : has D (.int .i64 x) = true := has_true_of_atKey hat
  have hnew : x ∉ ss.map (·.1) := fun hx => by have := ((h.mem x).1 hx).2; rw [hl] at this; cases this
  refine ⟨?_, fun y => ?_, fun p hp => ?_⟩
  · rw [List.map_append, List.nodup_append]
    refine ⟨h.nodup, by simp, fun a ha b hb e => ?_⟩
    obtain rfl : b = x := by simpa using hb
    exact hnew (e ▸ ha)
  · rw [List.map_append, List.mem_append, h.mem y]
    by_cases e : y = x
    · subst e; simp [hhas, Lit.sameKey]
    · have : (Lit.int IntKind.i64 y).sameKey (.int .i64 x) = false := sameKey_ne (lit_ne e)
      simp [this, e]
  · rcases List.mem_append.1 hp with hp | hp
    · exact h.at_ p hp
    · obtain rfl : p = (x, c) := by simpa using hp
      exact hat
theorem CollI.perm {st key : Nat → Int} (val : Nat → Int) {n : Nat} (h : CollI D left ss) (hl : ∀ kl, left kl = false) (hm : MapOK st key n D) (hok : ∀ j, j < n → okAt st key n j = true) : (ss.map fun p => (p.1, val p.2.toNat)).Perm (usedL st key val n) := by
  have hat : ∀ p ∈ ss, ∃ j, j < n ∧ st j = 1 ∧ key j = p.1 ∧ p.2 = j := fun p hp => by
    have h1 := ((h.mem p.1).1 (List.mem_map.2 ⟨p, hp, rfl⟩)).1
    obtain ⟨j, h2, h3, h4⟩ := (hm.has_ _).1 h1
    refine ⟨j, h2, h3, h4, ?_⟩
    have h5 := h.at_ p hp (.lit (.int .i64 0))
    rw [← h4, hm.at_ j h2 h3] at h5
    injection h5 with h5
    injection h5 with _ h5
    exact h5.symm
  refine (List.perm_ext_iff_of_nodup ?_ ?_).2 fun y => ?_
  · have : ((ss.map fun p => (p.1, val p.2.toNat)).map (·.1)).Nodup := by
      rw [List.map_map]; exact h.nodup
    exact nodup_of_map _ this
  · exact nodup_of_map _ (usedL_nodup val n hok)
  · rw [List.mem_map, mem_usedL]
    constructor
    · rintro ⟨p, hp, rfl⟩
      obtain ⟨j, h1, h2, h3, h4⟩ := hat p hp
      exact ⟨j, h1, h2, by rw [h3, h4]; simp⟩
    · rintro ⟨j, h1, h2, rfl⟩
      have h3 : key j ∈ ss.map (·.1) := (h.mem _).2 ⟨(hm.has_ _).2 ⟨j, h1, h2, rfl⟩, hl _⟩
      obtain ⟨p, hp, he⟩ := List.mem_map.1 h3
      obtain ⟨k, h4, h5, h6, h7⟩ := hat p hp
      have h8 := h.at_ p hp (.lit (.int .i64 0))
      rw [he, hm.at_ j h1 h2] at h8
      injection h8 with h8
      injection h8 with _ h8
      exact ⟨p, hp, by rw [he, ← h8]; simp⟩
end
end Go.Proofs.YtochpdailleilaaGreatDoor
