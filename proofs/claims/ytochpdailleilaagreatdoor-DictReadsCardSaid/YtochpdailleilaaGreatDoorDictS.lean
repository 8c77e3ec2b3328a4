/-
  A dict, plain: entries put in their places, places that are tried one behind the other, what cells hold. No condition.
-/
import Derived.Test.YtochpdailleilaaGreatDoorBase
namespace Go.Proofs.YtochpdailleilaaGreatDoor
set_option maxRecDepth 100000
def lessE (l : List (Int × Int)) (x : Int) : List (Int × Int) := l.filter (fun p => decide (p.1 < x))
def moreE (l : List (Int × Int)) (x : Int) : List (Int × Int) := l.filter (fun p => decide (x < p.1))
/-- an entry in its place; what stood there goes -/
def putE (l : List (Int × Int)) (e : Int × Int) : List (Int × Int) := lessE l e.1 ++ e :: moreE l e.1
theorem mem_lessE {l : List (Int × Int)} {x : Int} {y : Int × Int} : y ∈ lessE l x ↔ y ∈ l ∧ y.1 < x := by simp [lessE]
theorem mem_moreE {l : List (Int × Int)} {x : Int} {y : Int × Int} : y ∈ moreE l x ↔ y ∈ l ∧ x < y.1 := by simp [moreE]
theorem mem_putE {l : List (Int × Int)} {e y : Int × Int} : y ∈ putE l e ↔ y = e ∨ (y ∈ l ∧ y.1 ≠ e.1) := by
  unfold putE
  rw [List.mem_append, List.mem_cons, mem_lessE, mem_moreE]
  constructor
  · rintro (⟨h1, h2⟩ | h | ⟨h1, h2⟩)
    · exact .inr ⟨h1, by omega⟩
    · exact .inl h
    · exact .inr ⟨h1, by omega⟩
  · rintro (h | ⟨h1, h2⟩)
    · exact .inr (.inl h)
    · rcases Int.lt_or_gt_of_ne h2 with h | h
      · exact .inl ⟨h1, h⟩
      · exact .inr (.inr ⟨h1, h⟩)
theorem putE_rises {l : List (Int × Int)} (e : Int × Int) (h : l.Pairwise (fun p q => p.1 < q.1)) : (putE l e).Pairwise (fun p q => p.1 < q.1) := by
  unfold putE
  rw [List.pairwise_append]
  refine ⟨h.filter _, ?_, ?_⟩
  · rw [List.pairwise_cons]
    exact ⟨fun y hy => (mem_moreE.1 hy).2, h.filter _⟩
  · intro a ha b hb
    have h1 := (mem_lessE.1 ha).2
    rcases List.mem_cons.1 hb with rfl | hb
    · exact h1
    · have := (mem_moreE.1 hb).2; omega
theorem less_more_perm (x : Int) : ∀ (l : List (Int × Int)), (∀ y ∈ l, y.1 ≠ x) → (lessE l x ++ moreE l x).Perm l
  | [], _ => by simp [lessE, moreE]
  | y :: r, h => by
    have ih := less_more_perm x r (fun z hz => h z (by simp [hz]))
    have hy := h y (by simp)
    unfold lessE moreE at *
    by_cases h1 : y.1 < x
    · have h2 : ¬ x < y.1 := by omega
      simp only [List.filter_cons, h1, h2, decide_true, decide_false, if_true, Bool.false_eq_true, if_false]
      exact ih.cons y
    · have h2 : x < y.1 := by omega
      simp only [List.filter_cons, h1, h2, decide_true, decide_false, if_true, Bool.false_eq_true, if_false]
      exact (List.perm_middle).trans (ih.cons y)
theorem putE_perm {l : List (Int × Int)} {e : Int × Int} (h : ∀ y ∈ l, y.1 ≠ e.1) : (putE l e).Perm (e :: l) :=
  List.perm_middle.trans ((less_more_perm e.1 l h).cons e)
/-- put one behind the other -/
def sortE (l : List (Int × Int)) : List (Int × Int) := l.foldl putE []
theorem sortE_snoc (l : List (Int × Int)) (e : Int × Int) : sortE (l ++ [e]) = putE (sortE l) e := by simp [sortE, List.foldl_append]
theorem foldl_rises : ∀ (l acc : List (Int × Int)), acc.Pairwise (fun p q => p.1 < q.1) → (l.foldl putE acc).Pairwise (fun p q => p.1 < q.1)
  | [], _, h => h
  | e :: r, acc, h => foldl_rises r (putE acc e) (putE_rises e h)
theorem sortE_rises (l : List (Int × Int)) : (sortE l).Pairwise (fun p q => p.1 < q.1) := foldl_rises l [] List.Pairwise.nil
theorem foldl_perm : ∀ (l acc : List (Int × Int)), (l.map (·.1)).Nodup → (∀ a ∈ acc, ∀ b ∈ l, a.1 ≠ b.1) → (l.foldl putE acc).Perm (acc ++ l)
  | [], acc, _, _ => by simp
  | e :: r, acc, h, h2 => by
    rw [List.map_cons, List.nodup_cons] at h
    have h3 := putE_perm (l := acc) (e := e) (fun y hy => h2 y hy e (by simp))
    have ih := foldl_perm r (putE acc e) h.2 (fun a ha b hb => by
      rcases mem_putE.1 ha with rfl | ⟨ha, _⟩
      · exact fun e' => h.1 (List.mem_map.2 ⟨b, hb, e'.symm⟩)
      · exact h2 a ha b (by simp [hb]))
    refine ih.trans ((h3.append_right r).trans ?_)
    simpa using (List.perm_middle (a := e) (l₁ := acc) (l₂ := r)).symm
theorem sortE_perm {l : List (Int × Int)} (h : (l.map (·.1)).Nodup) : (sortE l).Perm l := by
  show (l.foldl putE []).Perm l
  simpa using foldl_perm l [] h (by simp)
theorem sorted_eq {a b : List (Int × Int)} (ha : a.Pairwise (fun p q => p.1 < q.1)) (hb : b.Pairwise (fun p q => p.1 < q.1)) (h : a.Perm b) : a = b := by
  refine List.Perm.eq_of_pairwise (le := fun p q : Int × Int => p.1 < q.1) (fun x y _ _ h1 h2 => ?_) ha hb h
  omega
theorem putE_length (l : List (Int × Int)) (e : Int × Int) : (putE l e).length ≤ l.length + 1 := by
  have : ∀ l : List (Int × Int), (lessE l e.1).length + (moreE l e.1).length ≤ l.length := by
    intro l
    unfold lessE moreE
    induction l with
    | nil => simp
    | cons z r ih =>
      simp only [List.filter_cons, List.length_cons]
      by_cases h1 : z.1 < e.1
      · have h2 : ¬ e.1 < z.1 := by omega
        simp only [h1, h2, decide_true, decide_false, if_true, Bool.false_eq_true, if_false, List.length_cons]
        omega
      · by_cases h2 : e.1 < z.1
        · simp only [h1, h2, decide_true, decide_false, if_true, Bool.false_eq_true, if_false, List.length_cons]
          omega
        · simp only [h1, h2, decide_false, Bool.false_eq_true, if_false]
          omega
  have := this l
  unfold putE
  simp
  omega
/-- the place at which a key is tried first -/
def homeN (key : Int) (n : Nat) : Nat := (key % (n : Int)).toNat
theorem homeN_lt (key : Int) {n : Nat} (h : 0 < n) : homeN key n < n := by
  unfold homeN
  have h1 := Int.emod_nonneg key (show (n : Int) ≠ 0 by omega)
  have h2 := Int.emod_lt_of_pos key (show (0 : Int) < n by omega)
  omega
theorem homeN_cast (key : Int) {n : Nat} (h : 0 < n) : ((homeN key n : Nat) : Int) = key % (n : Int) := by
  unfold homeN
  have h1 := Int.emod_nonneg key (show (n : Int) ≠ 0 by omega)
  omega
theorem homeN_tmod (key : Int) {n : Nat} (h : 0 < n) : ((homeN key n : Nat) : Int) = if key.tmod n < 0 then key.tmod n + n else key.tmod n := by
  rw [homeN_cast key h]
  have h3 := Int.mul_tdiv_add_tmod key (n : Int)
  have h4 : key % (n : Int) = (key.tmod n) % (n : Int) := by
    conv => lhs; rw [← h3]
    rw [Int.mul_add_emod_self_left]
  have h5 : key.tmod n < n := Int.tmod_lt_of_pos key (by omega)
  have h6 : -(n : Int) < key.tmod n := by
    have := Int.lt_tmod_of_pos key (show (0 : Int) < n by omega)
    omega
  rw [h4]
  generalize key.tmod n = t at h5 h6
  split
  · have e : t % (n : Int) = (t + n) % (n : Int) := by simp
    rw [e, Int.emod_eq_of_lt (by omega) (by omega)]
  · rw [Int.emod_eq_of_lt (by omega) h5]
/-- how many places lie between -/
def distN (n h i : Nat) : Nat := if h ≤ i then i - h else i + n - h
def stepN (n h j : Nat) : Nat := if h + j < n then h + j else h + j - n
theorem stepN_lt {n h j i : Nat} (hh : h < n) (hi : i < n) (hj : j ≤ distN n h i) : stepN n h j < n := by
  unfold stepN distN at *; split at hj <;> split <;> omega
theorem stepN_zero {n h : Nat} (hh : h < n) : stepN n h 0 = h := by unfold stepN; simp [hh]
theorem stepN_succ {n h j i : Nat} (hh : h < n) (hi : i < n) (hj : j < distN n h i) : (stepN n h j + 1) % n = stepN n h (j + 1) := by
  have h1 := stepN_lt hh hi (j := j) (by omega)
  by_cases h2 : stepN n h j + 1 < n
  · rw [Nat.mod_eq_of_lt h2]
    clear h1
    unfold distN at hj
    unfold stepN at h2 ⊢
    split at h2 <;> split at hj <;> split <;> (try split) <;> omega
  · have : stepN n h j + 1 = n := by omega
    rw [this, Nat.mod_self]
    clear h1 h2
    unfold distN at hj
    unfold stepN at this ⊢
    split at hj <;> split at this <;> split <;> omega
theorem stepN_ne {n h j i : Nat} (hh : h < n) (hj : j < distN n h i) : stepN n h j ≠ i := by
  unfold stepN distN at *; split at hj <;> split <;> omega
theorem stepN_end {n h i : Nat} (hh : h < n) (hi : i < n) : stepN n h (distN n h i) = i := by
  unfold stepN distN; split <;> split <;> omega
/-- is the place reached from there? -/
def pathB (st : Nat → Int) (n h i : Nat) : Bool := decide (∀ j, j < distN n h i → st (stepN n h j) ≠ 0)
def okAt (st key : Nat → Int) (n i : Nat) : Bool := decide (0 ≤ st i ∧ st i ≤ 2) && (decide (st i ≠ 1) || (decide (∀ k, k < i → st k = 1 → key k ≠ key i) && pathB st n (homeN (key i) n) i))
def usedL (st key val : Nat → Int) (i : Nat) : List (Int × Int) := (List.range i).filterMap (fun j => if st j = 1 then some (key j, val j) else none)
theorem usedL_succ (st key val : Nat → Int) (i : Nat) : usedL st key val (i + 1) = usedL st key val i ++ (if st i = 1 then [(key i, val i)] else []) := by
  unfold usedL
  rw [List.range_succ, List.filterMap_append]
  by_cases h : st i = 1 <;> simp [h]
theorem usedL_len (st key val : Nat → Int) : ∀ i, (usedL st key val i).length ≤ i
  | 0 => by simp [usedL]
  | i + 1 => by
    have := usedL_len st key val i
    rw [usedL_succ, List.length_append]
    split <;> simp <;> omega
theorem mem_usedL {st key val : Nat → Int} {i : Nat} {x : Int × Int} : x ∈ usedL st key val i ↔ ∃ j, j < i ∧ st j = 1 ∧ (key j, val j) = x := by
  unfold usedL
  rw [List.mem_filterMap]
  constructor
  · rintro ⟨j, hj, h⟩
    split at h
    · exact ⟨j, by simpa using hj, by assumption, by simpa using h⟩
    · cases h
  · rintro ⟨j, hj, h1, h2⟩
    exact ⟨j, by simpa using hj, by rw [if_pos h1, h2]⟩
theorem usedL_nodup {st key : Nat → Int} (val : Nat → Int) {n : Nat} : ∀ i, (∀ j, j < i → okAt st key n j = true) → ((usedL st key val i).map (·.1)).Nodup
  | 0, _ => by simp [usedL]
  | i + 1, h => by
    have ih := usedL_nodup val i (fun j hj => h j (by omega))
    rw [usedL_succ]
    by_cases h1 : st i = 1
    · rw [if_pos h1, List.map_append, List.nodup_append]
      refine ⟨ih, by simp, fun a ha b hb e => ?_⟩
      obtain rfl : b = key i := by simpa using hb
      obtain ⟨x, hx, rfl⟩ := List.mem_map.1 ha
      obtain ⟨j, hj, hs, rfl⟩ := mem_usedL.1 hx
      have := h i (by omega)
      simp only [okAt, Bool.and_eq_true, Bool.or_eq_true, decide_eq_true_eq] at this
      rcases this.2 with h2 | h2
      · exact h2 h1
      · exact h2.1 j hj hs e
    · rw [if_neg h1]; simpa using ih
/-- what the cells hold; none: they are no dict's -/
def readZ (st key val : Nat → Int) (n : Nat) (c0 : Int) : Option (List (Int × Int)) :=
  if (∀ i, i < n → okAt st key n i = true) ∧ c0 = (usedL st key val n).length then some (sortE (usedL st key val n)) else none
end Go.Proofs.YtochpdailleilaaGreatDoor
