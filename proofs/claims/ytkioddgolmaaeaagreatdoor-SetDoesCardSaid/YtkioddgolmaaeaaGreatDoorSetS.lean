/-
  A set's cells, plain: what quash/set.keysOf and quash/quashref18.Read make of them is the same. No condition.
-/
import Derived.Test.YtkioddgolmaaeaaGreatDoorBase
namespace Go.Proofs.YtkioddgolmaaeaaGreatDoor
set_option maxRecDepth 100000

theorem pairwise_snoc (l : List Int) (x : Int) : (l ++ [x]).Pairwise (· < ·) ↔ l.Pairwise (· < ·) ∧ (l = [] ∨ l.getD (l.length - 1) 0 < x) := by
  rw [List.pairwise_append]
  constructor
  · rintro ⟨h1, _, h3⟩
    refine ⟨h1, ?_⟩
    by_cases h : l = []
    · exact .inl h
    · refine .inr (h3 _ ?_ x (by simp))
      have hl := List.length_pos_iff.2 h
      rw [List.getD_eq_getElem?_getD, List.getElem?_eq_getElem (by omega)]
      exact List.getElem_mem _
  · rintro ⟨h1, h2⟩
    refine ⟨h1, by simp, fun a ha b hb => ?_⟩
    obtain rfl : b = x := by simpa using hb
    rcases h2 with rfl | h2
    · simp at ha
    · obtain ⟨j, hj, rfl⟩ := List.mem_iff_getElem.1 ha
      rw [List.getD_eq_getElem?_getD, List.getElem?_eq_getElem (by omega)] at h2
      rcases Nat.lt_or_ge j (l.length - 1) with h | h
      · have := List.pairwise_iff_getElem.1 h1 j (l.length - 1) hj (by omega) h
        simp at h2
        omega
      · obtain rfl : j = l.length - 1 := by omega
        simpa using h2

/-- the nodes of a list; none: a link leads nowhere, or there are too many -/
def listL (key link : Int → Int) (n : Int) : Nat → Int → Option (List Int)
  | f, h => if h = 0 then some [] else if h < 0 ∨ n < h then none else match f with
    | 0 => none
    | f + 1 => (listL key link n f (link h)).map (h :: ·)
/-- the walk over one list as the program makes it: which nodes were seen, the keys -/
def goK (key link : Int → Int) (n : Int) (first : Bool) : Nat → Int → List Int → List Int → Option (List Int × List Int)
  | 0, _, seen, keys => some (seen, keys)
  | f + 1, h, seen, keys =>
    if h = 0 then some (seen, keys) else if h < 0 ∨ n < h then none else if h ∈ seen then none else
    if first = true ∧ keys ≠ [] ∧ key h ≤ keys.getD (keys.length - 1) 0 then none else
    goK key link n first f (link h) (h :: seen) (if first then keys ++ [key h] else keys)

theorem goK_len (key link : Int → Int) (n : Int) (first : Bool) : ∀ (f : Nat) (h : Int) (seen keys s k : List Int), goK key link n first f h seen keys = some (s, k) → seen.length ≤ s.length
  | 0, h, seen, keys, s, k, e => by
    simp [goK] at e
    rw [e.1]; exact Nat.le_refl _
  | f + 1, h, seen, keys, s, k, e => by
    unfold goK at e
    split at e
    · simp at e; rw [e.1]; exact Nat.le_refl _
    · split at e
      · cases e
      · split at e
        · cases e
        · split at e
          · cases e
          · have := goK_len key link n first f _ _ _ s k e
            simp at this
            omega
theorem goK_none (key link : Int → Int) (n : Int) (first : Bool) : ∀ (f : Nat) (h : Int) (seen keys : List Int), listL key link n f h = none → ∀ s k, goK key link n first (f + 1) h seen keys = some (s, k) → s.length = seen.length + f + 1
  | 0, h, seen, keys, e, s, k, e2 => by
    unfold listL at e
    split at e
    · cases e
    · rename_i h0
      unfold goK at e2
      rw [if_neg h0] at e2
      split at e2
      · cases e2
      · split at e2
        · cases e2
        · split at e2
          · cases e2
          · simp [goK] at e2
            rw [← e2.1]; simp
  | f + 1, h, seen, keys, e, s, k, e2 => by
    unfold listL at e
    split at e
    · cases e
    · rename_i h0
      unfold goK at e2
      rw [if_neg h0] at e2
      split at e2
      · cases e2
      · rename_i h1
        rw [if_neg h1] at e
        split at e2
        · cases e2
        · split at e2
          · cases e2
          · have := goK_none key link n first f (link h) _ _ (by simpa using e) s k e2
            simp at this
            omega
theorem goK_some (key link : Int → Int) (n : Int) (first : Bool) : ∀ (f : Nat) (h : Int) (a : List Int), listL key link n f h = some a → ∀ (f' : Nat) (seen keys : List Int), a.length ≤ f' → (first = true → keys.Pairwise (· < ·)) →
    goK key link n first f' h seen keys = if (a.Nodup ∧ (∀ x ∈ a, x ∉ seen)) ∧ (first = true → (keys ++ a.map key).Pairwise (· < ·)) then some (a.reverse ++ seen, if first then keys ++ a.map key else keys) else none := by
  intro f
  induction f with
  | zero =>
    intro h a e f' seen keys hf hk
    unfold listL at e
    split at e
    · rename_i h0
      obtain rfl : a = [] := by simpa using e.symm
      cases f' with
      | zero => simp [goK]; exact hk
      | succ f' => simp [goK, h0]; exact hk
    · split at e <;> cases e
  | succ f ih =>
    intro h a e f' seen keys hf hk
    unfold listL at e
    split at e
    · rename_i h0
      obtain rfl : a = [] := by simpa using e.symm
      cases f' with
      | zero => simp [goK]; exact hk
      | succ f' => simp [goK, h0]; exact hk
    · rename_i h0
      split at e
      · cases e
      · rename_i h1
        obtain ⟨r, hr, rfl⟩ : ∃ r, listL key link n f (link h) = some r ∧ h :: r = a := by simpa using e
        obtain ⟨f', rfl⟩ : ∃ g, f' = g + 1 := ⟨f' - 1, by simp at hf; omega⟩
        have hf2 : r.length ≤ f' := by simpa using hf
        unfold goK
        rw [if_neg h0, if_neg h1]
        by_cases h2 : h ∈ seen
        · rw [if_pos h2, if_neg]
          rintro ⟨⟨_, h3⟩, _⟩
          exact h3 h (by simp) h2
        · rw [if_neg h2]
          cases first with
          | false =>
            rw [if_neg (by simp)]
            have := ih (link h) r hr f' (h :: seen) keys hf2 (by simp)
            simp only [Bool.false_eq_true, if_false] at this ⊢
            rw [this]
            by_cases h3 : (h :: r).Nodup ∧ ∀ x ∈ h :: r, x ∉ seen
            · rw [if_pos, if_pos ⟨h3, by simp⟩]
              · simp
              · rw [List.nodup_cons] at h3
                refine ⟨⟨h3.1.2, fun x hx h4 => ?_⟩, by simp⟩
                rcases List.mem_cons.1 h4 with rfl | h4
                · exact h3.1.1 hx
                · exact h3.2 x (by simp [hx]) h4
            · rw [if_neg, if_neg (fun h4 => h3 h4.1)]
              rintro ⟨⟨h4, h5⟩, _⟩
              refine h3 ⟨List.nodup_cons.2 ⟨fun h6 => h5 h h6 (by simp), h4⟩, fun x hx => ?_⟩
              rcases List.mem_cons.1 hx with rfl | hx
              · exact h2
              · exact fun h6 => h5 x hx (by simp [h6])
          | true =>
            have hk := hk rfl
            by_cases h4 : keys ≠ [] ∧ key h ≤ keys.getD (keys.length - 1) 0
            · rw [if_pos ⟨rfl, h4⟩, if_neg]
              rintro ⟨_, h5⟩
              have h5 := h5 rfl
              rw [List.map_cons, List.append_cons keys (key h) (r.map key)] at h5
              have h6 := (List.pairwise_append.1 h5).1
              have h7 := ((pairwise_snoc _ _).1 h6).2
              rcases h7 with h7 | h7
              · exact h4.1 h7
              · omega
            · rw [if_neg (fun h => h4 h.2)]
              have hk2 : (keys ++ [key h]).Pairwise (· < ·) := (pairwise_snoc _ _).2 ⟨hk, by
                by_cases h5 : keys = []
                · exact .inl h5
                · exact .inr (by have : ¬ key h ≤ keys.getD (keys.length - 1) 0 := fun h6 => h4 ⟨h5, h6⟩; omega)⟩
              have := ih (link h) r hr f' (h :: seen) (keys ++ [key h]) hf2 (fun _ => hk2)
              simp only [if_true] at this ⊢
              rw [this]
              have e1 : keys ++ [key h] ++ r.map key = keys ++ (h :: r).map key := by simp
              rw [e1]
              by_cases h3 : (h :: r).Nodup ∧ ∀ x ∈ h :: r, x ∉ seen
              · by_cases h7 : (keys ++ (h :: r).map key).Pairwise (· < ·)
                · rw [if_pos, if_pos ⟨h3, fun _ => h7⟩]
                  · simp
                  · rw [List.nodup_cons] at h3
                    refine ⟨⟨h3.1.2, fun x hx h4 => ?_⟩, fun _ => h7⟩
                    rcases List.mem_cons.1 h4 with rfl | h4
                    · exact h3.1.1 hx
                    · exact h3.2 x (by simp [hx]) h4
                · rw [if_neg (fun h => h7 (h.2 trivial)), if_neg (fun h => h7 (h.2 trivial))]
              · rw [if_neg, if_neg (fun h4 => h3 h4.1)]
                rintro ⟨⟨h4, h5⟩, _⟩
                refine h3 ⟨List.nodup_cons.2 ⟨fun h6 => h5 h h6 (by simp), h4⟩, fun x hx => ?_⟩
                rcases List.mem_cons.1 hx with rfl | hx
                · exact h2
                · exact fun h6 => h5 x hx (by simp [h6])
/-- the document's: the keys, where the cells are a set's -/
def keysR (key link : Int → Int) (n : Nat) (h0 h1 c2 : Int) : Option (List Int) :=
  match listL key link n n h0, listL key link n n h1 with
  | some a, some b => if (a.length + b.length = n ∧ c2 = a.length) ∧ (a ++ b).Nodup ∧ (a.map key).Pairwise (· < ·) then some (a.map key) else none
  | _, _ => none
/-- the program's -/
def keysP (key link : Int → Int) (n : Nat) (h0 h1 c2 : Int) : Option (List Int) :=
  match goK key link n true (n + 1) h0 [] [] with
  | none => none
  | some (s1, k1) => match goK key link n false (n + 1) h1 s1 k1 with
    | none => none
    | some (s2, k2) => if s2.length = n ∧ c2 = k2.length then some k2 else none
theorem listL_len (key link : Int → Int) (n : Int) : ∀ (f : Nat) (h : Int) (a : List Int), listL key link n f h = some a → a.length ≤ f
  | 0, h, a, e => by
    unfold listL at e
    split at e
    · simp at e; subst e; simp
    · split at e <;> cases e
  | f + 1, h, a, e => by
    unfold listL at e
    split at e
    · simp at e; subst e; simp
    · split at e
      · cases e
      · obtain ⟨r, hr, rfl⟩ : ∃ r, listL key link n f (link h) = some r ∧ h :: r = a := by simpa using e
        have := listL_len key link n f _ r hr
        simpa using this
theorem keys_same (key link : Int → Int) (n : Nat) (h0 h1 c2 : Int) : keysP key link n h0 h1 c2 = keysR key link n h0 h1 c2 := by
  unfold keysP keysR
  cases ea : listL key link n n h0 with
  | none =>
    simp only
    split
    · rfl
    · rename_i s1 k1 e1
      have l1 := goK_none key link n true n h0 [] [] ea _ _ e1
      split
      · rfl
      · rename_i s2 k2 e2
        have l2 := goK_len _ _ _ _ _ _ _ _ _ _ e2
        rw [if_neg]
        simp at l1
        omega
  | some a =>
    have la := listL_len _ _ _ _ _ _ ea
    rw [goK_some key link n true n h0 a ea (n + 1) [] [] (by omega) (fun _ => .nil)]
    cases eb : listL key link n n h1 with
    | none =>
      simp only
      split
      · rfl
      · rename_i s1 k1 e1
        split
        · rfl
        · rename_i s2 k2 e2
          have l2 := goK_none key link n false n h1 _ _ eb _ _ e2
          rw [if_neg]
          omega
    | some b =>
      have lb := listL_len _ _ _ _ _ _ eb
      simp only [List.nil_append, List.not_mem_nil, not_false_eq_true, implies_true, and_true, true_implies, List.append_nil, if_true]
      by_cases h3 : a.Nodup ∧ (a.map key).Pairwise (· < ·)
      · rw [if_pos h3]
        simp only
        rw [goK_some key link n false n h1 b eb (n + 1) a.reverse (a.map key) (by omega) (by simp)]
        by_cases h4 : b.Nodup ∧ ∀ x ∈ b, x ∉ a.reverse
        · rw [if_pos ⟨h4, by simp⟩]
          have h5 : (a ++ b).Nodup := List.nodup_append.2 ⟨h3.1, h4.1, fun x hx y hy e => h4.2 y hy (by subst e; simpa using hx)⟩
          simp only [Bool.false_eq_true, if_false, List.length_append, List.length_reverse, List.length_map]
          by_cases h6 : a.length + b.length = n ∧ c2 = a.length
          · rw [if_pos ⟨by omega, h6.2⟩, if_pos ⟨h6, h5, h3.2⟩]
          · rw [if_neg (fun h => h6 ⟨by omega, h.2⟩), if_neg (fun h => h6 h.1)]
        · rw [if_neg (fun h => h4 h.1)]
          simp only
          rw [if_neg]
          rintro ⟨_, h5, _⟩
          obtain ⟨_, h6, h7⟩ := List.nodup_append.1 h5
          exact h4 ⟨h6, fun x hx h8 => h7 x (by simpa using h8) x hx rfl⟩
      · rw [if_neg h3]
        simp only
        rw [if_neg]
        rintro ⟨_, h5, h6⟩
        exact h3 ⟨(List.nodup_append.1 h5).1, h6⟩
end Go.Proofs.YtkioddgolmaaeaaGreatDoor
