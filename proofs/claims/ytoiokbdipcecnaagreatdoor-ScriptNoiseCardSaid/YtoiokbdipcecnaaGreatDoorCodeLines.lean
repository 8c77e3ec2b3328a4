/-
  strings.Split at one byte, as a function on lists of bytes. Condition: the library's variables (Env), fewer than 65537 bytes.
-/
import Derived.Test.YtoiokbdipcecnaaGreatDoorEnv
import Derived.Lib.SplitLaws
namespace Go.Proofs.YtoiokbdipcecnaaGreatDoor
open Go.RowKit
set_option maxRecDepth 100000

/-- what stands between the bytes c -/
def linesL (c : UInt8) : List UInt8 → List (List UInt8)
  | [] => [[]]
  | b :: r => if b = c then [] :: linesL c r else
    match linesL c r with
    | h :: t => (b :: h) :: t
    | [] => [[b]]
theorem linesL_ne (c : UInt8) : ∀ l, linesL c l ≠ []
  | [] => by simp [linesL]
  | b :: r => by
    unfold linesL
    split
    · simp
    · split <;> simp
theorem index_ne {b c : UInt8} (h : b ≠ c) (r : List UInt8) : Lib.index (b :: r) [c] = if Lib.index r [c] == -1 then -1 else Lib.index r [c] + 1 := by
  have : (c == b) = false := by simpa using fun e => h e.symm
  simp [Lib.index, List.isPrefixOf, this]
theorem index_ge {c : UInt8} (r : List UInt8) : -1 ≤ Lib.index r [c] := by
  induction r with
  | nil => simp [Lib.index]
  | cons x r ih =>
    simp only [Lib.index]
    split
    · omega
    · split <;> omega
theorem index_none {c : UInt8} : ∀ r : List UInt8, Lib.index r [c] = -1 → r.count c = 0
  | [], _ => rfl
  | b :: r, h => by
    by_cases e : b = c
    · subst e
      simp [Lib.index, List.isPrefixOf] at h
    · rw [index_ne e] at h
      have := index_none (c := c) r
      rw [List.count_cons_of_ne e]
      apply this
      split at h
      · rename_i h1; simpa using h1
      · rename_i h1
        have h2 := index_ge (c := c) r
        omega
theorem splitK_lines (c : UInt8) : ∀ r : List UInt8, Lib.splitK [c] 0 (r.count c) r = linesL c r
  | [] => rfl
  | b :: r => by
    have ih := splitK_lines c r
    by_cases e : b = c
    · subst e
      rw [List.count_cons_self]
      have h0 : Lib.index (b :: r) [b] = 0 := by simp [Lib.index, List.isPrefixOf]
      simp only [Lib.splitK, h0, linesL, if_true]
      rw [← ih]
      rfl
    · rw [List.count_cons_of_ne e]
      simp only [linesL, if_neg e]
      cases hk : r.count c with
      | zero =>
        rw [hk] at ih
        rw [← ih]
        rfl
      | succ k =>
        rw [hk] at ih
        have hne : ¬ Lib.index r [c] = -1 := fun h => by have := index_none r h; omega
        have hge := index_ge (c := c) r
        rw [← ih]
        simp only [Lib.splitK, index_ne e]
        have h1 : (Lib.index r [c] == -1) = false := by simpa using hne
        have h2 : (Lib.index r [c] + 1 == -1) = false := by simp; omega
        rw [h1]
        simp only [Bool.false_eq_true, if_false, h2, Nat.add_zero, List.length_singleton]
        rw [show (Lib.index r [c] + 1).toNat = (Lib.index r [c]).toNat + 1 by omega]
        rfl
theorem S_eta (s : ByteArray) : S s.data.toList = s := by cases s; rfl
theorem splitB_lines (c : UInt8) (l : List UInt8) : Lib.splitB ⟨#[c]⟩ 0 (Lib.countB (S l) ⟨#[c]⟩) (S l) = (linesL c l).map S := by
  have h := Lib.splitB_data ⟨#[c]⟩ 0 (Lib.countB (S l) ⟨#[c]⟩) (S l)
  have hc : Lib.countB (S l) ⟨#[c]⟩ = l.count c := Lib.count_one c l
  have h2 : Lib.splitK [c] 0 (Lib.countB (S l) ⟨#[c]⟩) l = linesL c l := by rw [hc]; exact splitK_lines c l
  have h3 : (Lib.splitB ⟨#[c]⟩ 0 (Lib.countB (S l) ⟨#[c]⟩) (S l)).map (·.data.toList) = linesL c l := h.trans h2
  rw [← h3, List.map_map]
  conv => lhs; rw [← List.map_id (Lib.splitB ⟨#[c]⟩ 0 (Lib.countB (S l) ⟨#[c]⟩) (S l))]
  exact List.map_congr_left (fun x _ => (S_eta x).symm)
theorem Split_any (l : List UInt8) (c : UInt8) (w : World) (hs : l.length ≤ 65536) (he : Env w) :
    Calls Tryz.prog 47 #[.string (S l), .string ⟨#[c]⟩] w fun e w' =>
      e = .returned (.slice (some ⟨w.heap.size, 0, none⟩) (linesL c l).length (linesL c l).length) ∧ w' = w.alloc (.cells ((linesL c l).map fun x => Value.string (S x)).toArray 9) := by
  obtain ⟨m, hm⟩ := he.len
  refine (Tryz.strings_Split (S l) ⟨#[c]⟩ m w (by simp [S, ByteArray.size]; omega) hm (Nat.le_refl 1)).mono ?_
  rintro e w' ⟨rfl, rfl⟩
  have h1 : (linesL c l).length = Lib.countB (S l) ⟨#[c]⟩ + 1 := by
    have := Lib.splitB_all ⟨#[c]⟩ (Nat.le_refl 1) 0 _ (S l) rfl
    rw [splitB_lines] at this
    simpa using this
  rw [h1, splitB_lines, List.map_map]
  exact ⟨rfl, rfl⟩
end Go.Proofs.YtoiokbdipcecnaaGreatDoor
