/-
  What a Put or a Drop keeps of a set, plain. No condition.
-/
import Derived.Test.YtkioddgolmaaeaaGreatDoorSetDo
namespace Go.Proofs.YtkioddgolmaaeaaGreatDoor
open Go.RowKit
set_option maxRecDepth 100000

def hasI (zs : List Int) (x : Int) : Int := if x ∈ zs then 1 else 0
theorem deed_has (zs : List Int) (n x : Int) : deedS zs n 3 x = (zs, [hasI zs x]) := by
  unfold deedS hasI
  rw [if_neg (by omega), if_neg (by omega), if_pos rfl]
  split <;> rfl
theorem deed_size (zs : List Int) (n x : Int) : deedS zs n 5 x = (zs, [(zs.length : Int)]) := by
  unfold deedS
  rw [if_pos rfl]
theorem mem_with (zs : List Int) (x y : Int) : y ∈ lessL zs x ++ x :: moreL zs x ↔ y = x ∨ y ∈ zs := by
  simp only [lessL, moreL, List.mem_append, List.mem_cons, List.mem_filter, decide_eq_true_eq]
  constructor
  · rintro (⟨h, _⟩ | h | ⟨h, _⟩)
    · exact .inr h
    · exact .inl h
    · exact .inr h
  · rintro (h | h)
    · exact .inr (.inl h)
    · rcases Int.lt_trichotomy y x with h1 | h1 | h1
      · exact .inl ⟨h, h1⟩
      · exact .inr (.inl h1)
      · exact .inr (.inr ⟨h, h1⟩)
theorem mem_without (zs : List Int) (x y : Int) : y ∈ lessL zs x ++ moreL zs x ↔ y ≠ x ∧ y ∈ zs := by
  simp only [lessL, moreL, List.mem_append, List.mem_filter, decide_eq_true_eq]
  constructor
  · rintro (⟨h, h1⟩ | ⟨h, h1⟩)
    · exact ⟨by omega, h⟩
    · exact ⟨by omega, h⟩
  · rintro ⟨h1, h⟩
    rcases Int.lt_trichotomy y x with h2 | h2 | h2
    · exact .inl ⟨h, h2⟩
    · exact absurd h2 h1
    · exact .inr ⟨h, h2⟩
theorem rises_with {zs : List Int} {x : Int} (h : zs.Pairwise (· < ·)) : (lessL zs x ++ x :: moreL zs x).Pairwise (· < ·) := by
  rw [List.pairwise_append]
  refine ⟨h.filter _, List.pairwise_cons.2 ⟨fun y hy => ?_, h.filter _⟩, fun a ha b hb => ?_⟩
  · simpa using (List.mem_filter.1 hy).2
  · have ha2 : a < x := by simpa using (List.mem_filter.1 ha).2
    rcases List.mem_cons.1 hb with rfl | hb
    · exact ha2
    · have : x < b := by simpa using (List.mem_filter.1 hb).2
      omega
theorem rises_without {zs : List Int} {x : Int} (h : zs.Pairwise (· < ·)) : (lessL zs x ++ moreL zs x).Pairwise (· < ·) := by
  rw [List.pairwise_append]
  refine ⟨h.filter _, h.filter _, fun a ha b hb => ?_⟩
  have h1 : a < x := by simpa using (List.mem_filter.1 ha).2
  have h2 : x < b := by simpa using (List.mem_filter.1 hb).2
  omega
theorem len_with {zs : List Int} {x : Int} (h : zs.Pairwise (· < ·)) (hx : x ∉ zs) : (lessL zs x ++ x :: moreL zs x).length = zs.length + 1 := by
  have h1 := (cut_at zs x h).1
  have h2 := (cut_at zs x h).2.1 hx
  unfold lessL moreL
  rw [← h1, ← h2]
  simp
  have := List.countP_le_length (p := fun y => decide (y < x)) (l := zs)
  omega
theorem len_without (zs : List Int) (x : Int) : (lessL zs x ++ moreL zs x).length ≤ zs.length := by
  have h1 : (lessL zs x ++ moreL zs x).length = zs.countP (· < x) + zs.countP (x < ·) := by simp [lessL, moreL, List.countP_eq_length_filter]
  rw [h1]
  clear h1
  induction zs with
  | nil => simp
  | cons z r ih =>
    simp only [List.countP_cons, List.length_cons]
    by_cases a : z < x
    · have b : ¬ x < z := by omega
      simp [a, b]; omega
    · by_cases b : x < z
      · simp [a, b]; omega
      · simp [a, b]; omega
/-- what a Put or a Drop leaves and tells -/
theorem keeps_plain (zs : List Int) (n x y op : Int) (ho : op = 1 ∨ op = 2) (hr : zs.Pairwise (· < ·)) (hl : (zs.length : Int) ≤ n) :
    ∃ D t, deedS zs n op x = (D, [t]) ∧ D.Pairwise (· < ·) ∧ (D.length : Int) ≤ n ∧ hasI D x = (if op = 1 ∧ t ≠ 2 then 1 else 0) ∧ (x ≠ y → hasI D y = hasI zs y) := by
  have hh : ∀ D : List Int, (x ≠ y → (y ∈ D ↔ y ∈ zs)) → (x ≠ y → hasI D y = hasI zs y) := fun D h hxy => by
    unfold hasI
    have := h hxy
    by_cases hy : y ∈ zs
    · rw [if_pos hy, if_pos (this.2 hy)]
    · rw [if_neg hy, if_neg (fun h => hy (this.1 h))]
  rcases ho with rfl | rfl
  · by_cases hx : x ∈ zs
    · refine ⟨zs, 0, by unfold deedS; simp [hx], hr, hl, ?_, fun _ => rfl⟩
      unfold hasI; rw [if_pos hx, if_pos ⟨rfl, by decide⟩]
    · by_cases hf : (zs.length : Int) = n
      · refine ⟨zs, 2, by unfold deedS; simp [hx, hf], hr, hl, ?_, fun _ => rfl⟩
        unfold hasI; rw [if_neg hx, if_neg (by rintro ⟨_, h⟩; exact h rfl)]
      · refine ⟨lessL zs x ++ x :: moreL zs x, 1, by unfold deedS; simp only [hx, hf]; simp, rises_with hr, by rw [len_with hr hx]; omega, ?_, hh _ (fun hxy => ?_)⟩
        · unfold hasI
          rw [if_pos ((mem_with _ _ _).2 (.inl rfl)), if_pos ⟨rfl, by decide⟩]
        · rw [mem_with]
          exact ⟨fun h => h.resolve_left (fun e => hxy e.symm), .inr⟩
  · by_cases hx : x ∈ zs
    · refine ⟨lessL zs x ++ moreL zs x, 1, by unfold deedS; simp only [hx]; simp, rises_without hr, by have := len_without zs x; omega, ?_, hh _ (fun hxy => ?_)⟩
      · unfold hasI
        rw [if_neg (fun h => ((mem_without _ _ _).1 h).1 rfl), if_neg (by omega)]
      · rw [mem_without]
        exact ⟨fun h => h.2, fun h => ⟨fun e => hxy e.symm, h⟩⟩
    · refine ⟨zs, 0, by unfold deedS; simp [hx], hr, hl, ?_, fun _ => rfl⟩
      unfold hasI; rw [if_neg hx, if_neg (by omega)]
end Go.Proofs.YtkioddgolmaaeaaGreatDoor
