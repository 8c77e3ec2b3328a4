/-
  SCHED: who is picked in a drain: nobody is passed over; and what is at the end. No condition.
-/
import Derived.Test.YtaiinkeendejdaaSchRefPlay
namespace Go.Proofs.Ytaiinkeendejdaa
open Go.RowKit
open Go.ConcN (upd upd_ne upd_same)
/-- has thread t (from 1 on) ended in these marks? -/
def endP (l : List Mk) (t : Int) : Bool := l.any fun x => x.2.1 == t && x.2.2 == 4
/-- how often it was picked -/
def cntP (l : List Mk) (t : Int) : Nat := l.countP fun x => x.2.1 == t
theorem endP_app (l : List Mk) (x : Mk) (t : Int) : endP (l ++ [x]) t = (endP l t || (x.2.1 == t && x.2.2 == 4)) := by simp [endP]
theorem cntP_app (l : List Mk) (x : Mk) (t : Int) : cntP (l ++ [x]) t = cntP l t + (if x.2.1 == t then 1 else 0) := by simp [cntP, List.countP_append]
theorem nextS_inv {e : Nat → Bool} {n f k : Nat} (h : nextS e n f = some k) : e k = false ∧ ∃ i, i < n ∧ k = (f + i) % n ∧ ∀ j, j < i → e ((f + j) % n) = true := by
  unfold nextS at h
  rw [List.find?_eq_some_iff_getElem] at h
  obtain ⟨h1, i, hi, h2, h3⟩ := h
  have hi' : i < n := by simpa using hi
  refine ⟨by simpa using h1, i, hi', by simpa using h2.symm, fun j hj => ?_⟩
  have := h3 j hj
  simpa using this
theorem nextS_all {e : Nat → Bool} {n f : Nat} (hf : f ≤ n) (h : nextS e n f = none) : ∀ t, t < n → e t = true := by
  unfold nextS at h
  rw [List.find?_eq_none] at h
  intro t ht
  have : t ∈ (List.range n).map fun i => (f + i) % n := by
    by_cases htf : f ≤ t
    · exact List.mem_map.2 ⟨t - f, List.mem_range.2 (by omega), by rw [show f + (t - f) = t by omega, Nat.mod_eq_of_lt ht]⟩
    · exact List.mem_map.2 ⟨t + n - f, List.mem_range.2 (by omega), by rw [show f + (t + n - f) = t + n by omega, Nat.add_mod_right, Nat.mod_eq_of_lt ht]⟩
  have := h t this
  simpa using this
/-- which of those that have not ended stand ahead, which behind -/
theorem nextS_around {e : Nat → Bool} {n f k : Nat} (hf : f ≤ n) (h : nextS e n f = some k) : k < n ∧ e k = false ∧ ((f ≤ k ∧ ∀ t, f ≤ t → t < k → e t = true) ∨ (k < f ∧ (∀ t, f ≤ t → t < n → e t = true) ∧ ∀ t, t < k → e t = true)) := by
  obtain ⟨h1, i, hi, rfl, h3⟩ := nextS_inv h
  by_cases hlt : f + i < n
  · rw [Nat.mod_eq_of_lt hlt] at h1 ⊢
    refine ⟨hlt, h1, .inl ⟨by omega, fun t ht1 ht2 => ?_⟩⟩
    have := h3 (t - f) (by omega)
    rwa [show f + (t - f) = t by omega, Nat.mod_eq_of_lt (by omega)] at this
  · have e1 : (f + i) % n = f + i - n := by rw [Nat.mod_eq_sub_mod (by omega), Nat.mod_eq_of_lt (by omega)]
    rw [e1] at h1 ⊢
    refine ⟨by omega, h1, .inr ⟨by omega, fun t ht1 ht2 => ?_, fun t ht => ?_⟩⟩
    · have := h3 (t - f) (by omega)
      rwa [show f + (t - f) = t by omega, Nat.mod_eq_of_lt (by omega)] at this
    · have := h3 (t + n - f) (by omega)
      rwa [show f + (t + n - f) = t + n by omega, Nat.add_mod_right, Nat.mod_eq_of_lt (by omega)] at this
/-- a pick that passes nobody over -/
def FairAt (n : Nat) (l : List Mk) (x : Mk) : Prop :=
  1 ≤ x.2.1 ∧ x.2.1 ≤ n ∧ endP l x.2.1 = false ∧ ∀ u : Nat, 1 ≤ u → u ≤ n → endP l u = false → (cntP l x.2.1 + 1 : Int) - (cntP (l ++ [x]) u : Nat) ≤ 1 ∧ ((u : Int) < x.2.1 → cntP l x.2.1 + 1 ≤ cntP (l ++ [x]) u)
def FairL (n : Nat) (ms : List Mk) : Prop := ∀ i x, ms[i]? = some x → FairAt n (ms.take i) x
structure FairInv (n fr : Nat) (e : Nat → Bool) (ms : List Mk) : Prop where
  low : fr ≤ n
  ends : ∀ t, t < n → e t = endP ms ((t : Int) + 1)
  level : ∃ c : Nat, ∀ t, t < n → e t = false → cntP ms ((t : Int) + 1) = c + (if t < fr then 1 else 0)
theorem FairL.snoc {n : Nat} {ms : List Mk} {x : Mk} (h : FairL n ms) (hx : FairAt n ms x) : FairL n (ms ++ [x]) := fun i y hy => by
  by_cases hi : i < ms.length
  · rw [List.getElem?_append_left hi] at hy
    rw [List.take_append_of_le_length (by omega)]
    exact h i y hy
  · have hl := (List.getElem?_eq_some_iff.1 hy).1
    rw [List.length_append, List.length_singleton] at hl
    obtain rfl : i = ms.length := by omega
    rw [List.getElem?_append_right (Nat.le_refl _), Nat.sub_self] at hy
    obtain rfl := Option.some.inj hy
    rw [List.take_left]
    exact hx
/-- one pick of the drain -/
theorem fair_pick {σ : Type} {next : σ → Int → Int × σ} {n fr k : Nat} {x : σ × (Nat → Bool) × List Mk} (I : FairInv n fr x.2.1 x.2.2) (hk : nextS x.2.1 n fr = some k) :
    (∃ m, (rstep next x k).2.2 = x.2.2 ++ [m] ∧ FairAt n x.2.2 m) ∧ FairInv n (k + 1) (rstep next x k).2.1 (rstep next x k).2.2 := by
  obtain ⟨s, e, ms⟩ := x
  obtain ⟨hkn, hek, hpos⟩ := nextS_around I.low hk
  obtain ⟨c, hc⟩ := I.level
  have I2 := I.ends
  simp only at hc I2 hek hpos ⊢
  obtain ⟨a, ha⟩ : ∃ a, a = (next s ((k : Int) + 1)).1 := ⟨_, rfl⟩
  have hR : rstep next (s, e, ms) k = ((next s ((k : Int) + 1)).2, upd e k (a == 4), ms ++ [((ms.length : Int) + 1, (k : Int) + 1, a)]) := by
    unfold rstep
    rw [if_neg (show ¬ (e k = true) by rw [hek]; decide), ha]
  rw [hR]
  simp only
  -- the level behind the pick
  obtain ⟨c', hc1, hc2⟩ : ∃ c', cntP ms ((k : Int) + 1) = c' ∧ ∀ t, t < n → t ≠ k → e t = false → cntP ms ((t : Int) + 1) = c' + (if t < k + 1 then 1 else 0) := by
    rcases hpos with ⟨h1, h2⟩ | ⟨h1, h2, h3⟩
    · refine ⟨c, by rw [hc k hkn hek, if_neg (by omega)]; rfl, fun t ht hne he => ?_⟩
      rw [hc t ht he]
      by_cases h : t < fr
      · rw [if_pos h, if_pos (by omega)]
      · rw [if_neg h, if_neg (fun h' => by have := h2 t (by omega) (by omega); rw [he] at this; cases this)]
    · refine ⟨c + 1, by rw [hc k hkn hek, if_pos h1], fun t ht hne he => ?_⟩
      have h4 : t < fr := by
        by_cases h : t < fr
        · exact h
        · have := h2 t (by omega) ht; rw [he] at this; cases this
      have h5 : ¬ t < k + 1 := fun h => by have := h3 t (by omega); rw [he] at this; cases this
      rw [hc t ht he, if_pos h4, if_neg h5]
  have hcnt : ∀ t : Nat, cntP (ms ++ [((ms.length : Int) + 1, (k : Int) + 1, a)]) ((t : Int) + 1) = cntP ms ((t : Int) + 1) + (if t = k then 1 else 0) := fun t => by
    rw [cntP_app]
    by_cases h : t = k
    · subst h; simp
    · rw [if_neg h, if_neg (by simp; omega)]
  refine ⟨⟨_, rfl, by show 1 ≤ (k : Int) + 1; omega, by show (k : Int) + 1 ≤ n; omega, (I2 k hkn).symm.trans hek, fun u hu1 hu2 hue => ?_⟩, by show k + 1 ≤ n; omega, fun t ht => ?_, c', fun t ht he => ?_⟩
  · obtain ⟨t, rfl⟩ : ∃ t : Nat, u = t + 1 := ⟨u - 1, by omega⟩
    have e1 : (((t + 1 : Nat) : Int)) = (t : Int) + 1 := by omega
    rw [e1] at hue ⊢
    have het : e t = false := (I2 t (by omega)).trans hue
    show ((cntP ms ((k : Int) + 1) : Int) + 1) - _ ≤ 1 ∧ ((t : Int) + 1 < (k : Int) + 1 → cntP ms ((k : Int) + 1) + 1 ≤ _)
    rw [hcnt, hc1]
    by_cases h : t = k
    · subst h; rw [hc1, if_pos rfl]; omega
    · rw [if_neg h, hc2 t (by omega) h het]
      split <;> omega
  · rw [endP_app, ← I2 t ht]
    by_cases h : t = k
    · subst h; rw [upd_same, hek]; simp
    · rw [upd_ne _ _ h]
      have : ((k : Int) + 1 == (t : Int) + 1) = false := by simp; omega
      rw [this]; simp
  · rw [hcnt]
    by_cases h : t = k
    · subst h; rw [hc1, if_pos rfl, if_pos (by omega)]
    · have he : upd e k (a == 4) t = false := he
      rw [upd_ne _ _ h] at he
      rw [if_neg h, hc2 t ht h he, Nat.add_zero]
theorem fair_drain {σ : Type} {next : σ → Int → Int × σ} {n : Nat} : ∀ (d fr : Nat) (x : σ × (Nat → Bool) × List Mk), FairInv n fr x.2.1 x.2.2 → FairL n x.2.2 →
    FairL n (drainS next n d fr x).2.2 ∧ (drainS next n d fr x).2.2.length ≤ x.2.2.length + d ∧ ((drainS next n d fr x).2.2.length = x.2.2.length + d ∨ ∀ t, t < n → endP (drainS next n d fr x).2.2 ((t : Int) + 1) = true)
  | 0, fr, x, I, L => ⟨L, Nat.le_refl _, .inl rfl⟩
  | d + 1, fr, x, I, L => by
    cases hk : nextS x.2.1 n fr with
    | none =>
      rw [drainS_none hk]
      exact ⟨L, by omega, .inr fun t ht => (I.ends t ht).symm.trans (nextS_all I.low hk t ht)⟩
    | some k =>
      rw [drainS_some hk]
      obtain ⟨⟨m, hm, hF⟩, I'⟩ := fair_pick (next := next) I hk
      have L' : FairL n (rstep next x k).2.2 := by rw [hm]; exact L.snoc hF
      obtain ⟨g1, g2, g3⟩ := fair_drain d (k + 1) (rstep next x k) I' L'
      rw [rstep_len] at g2 g3
      exact ⟨g1, by omega, g3.imp (fun h => by omega) id⟩
/-- what a play without picks comes to -/
theorem fair_play (ps : List (List Int)) (D : Int) (h : wrongS ps.length 0 D = 0) : (playR ps [] D).2 = 0 ∧ FairL ps.length (playR ps [] D).1 ∧ (playR ps [] D).1.length ≤ D.toNat ∧ ((playR ps [] D).1.length = D.toNat ∨ ∀ t, t < ps.length → endP (playR ps [] D).1 ((t : Int) + 1) = true) := by
  have hP : playR ps [] D = ((drainS (planNext ps) ps.length D.toNat 0 (fun _ => 0, fun _ => false, [])).2.2, 0) := by
    unfold playR runR
    rw [show (([] : List Int).length : Int) = 0 from rfl, if_pos h]
    rfl
  rw [hP]
  have := fair_drain (next := planNext ps) (n := ps.length) D.toNat 0 (fun _ => 0, fun _ => false, []) ⟨Nat.zero_le _, fun t _ => rfl, 0, fun t _ _ => rfl⟩ (fun i x hx => by simp at hx)
  simpa using this
end Go.Proofs.Ytaiinkeendejdaa
