/-
  quash/sched's small functions round, wrong, (*run).next: every call. No condition.
-/
import Derived.Test.YtaiinkeendejdaaProg
import Derived.WalkKit
import Derived.BigQuiet
import Derived.Deep.DeepMust
import Derived.Deep.QuietTactic
import Derived.Lib.Hide
namespace Go.Proofs.Ytaiinkeendejdaa
open Go.RowKit
set_option maxRecDepth 100000
/-- on which thread (from 0 on) a pick falls -/
def roundS (n p : Int) : Nat := (p % n).toNat
theorem roundS_lt {n : Nat} (p : Int) (h : 0 < n) : roundS n p < n := by
  unfold roundS
  have h1 := Int.emod_nonneg p (show (n : Int) ≠ 0 by omega)
  have h2 := Int.emod_lt_of_pos p (show (0 : Int) < n by omega)
  omega
theorem round_num {n : Nat} (p : Int) (h : 0 < n) : (p.tmod n + n).tmod n = (roundS n p : Int) := by
  unfold roundS
  have h1 := Int.emod_nonneg p (show (n : Int) ≠ 0 by omega)
  have h2 := Int.emod_lt_of_pos p (show (0 : Int) < n by omega)
  rw [Int.toNat_of_nonneg h1]
  have h3 := Int.tmod_lt_of_pos p (show (0 : Int) < n by omega)
  have h4 : -(n : Int) < p.tmod n := by
    have := Int.lt_tmod_of_pos p (show (0 : Int) < n by omega)
    exact this
  rw [Int.tmod_eq_emod_of_nonneg (by omega), Int.add_emod_right]
  rw [Int.tmod_eq_emod]
  split
  · simp
  · simp
/-- what is wrong with numbers -/
def wrongS (n np d : Int) : Int := if n < 1 ∨ 8 < n ∨ d < 0 ∨ 65536 < d then 1 else if 65536 < np then 3 else 0
theorem Round_any (n : Nat) (p : Int) (w : World) (h0 : 0 < n) (hn : n ≤ 8) (_h1 : -9223372036854775808 ≤ p) (_h2 : p ≤ 9223372036854775807) :
    Calls Try.prog 28 #[.int .i64 n, .int .i64 p] w fun e w' => e = .returned (.int .i64 (roundS n p)) ∧ w = w' := by
  have e1 := round_num p h0
  have hz : ((n : Int) == 0) = false := by simp; omega
  have h3 := Int.tmod_lt_of_pos p (show (0 : Int) < n by omega)
  have h4 : -(n : Int) < p.tmod n := Int.lt_tmod_of_pos p (show (0 : Int) < n by omega)
  have h5 := roundS_lt p h0
  have w1 : IntKind.i64.wrap (p.tmod n) = p.tmod n := by rw [IntKind.wrap_i64]; omega
  have w2 : IntKind.i64.wrap (p.tmod n + n) = p.tmod n + n := by rw [IntKind.wrap_i64]; omega
  have w3 : IntKind.i64.wrap (roundS n p : Int) = (roundS n p : Int) := by rw [IntKind.wrap_i64]; omega
  go_enter Try.func28, Try.ntmps28
  go_wp2
  go_ret
  exact ⟨rfl, rfl⟩
theorem Wrong_any (n d : Int) (ao : Option Addr) (np c : Nat) (w : World) (_hn : np ≤ maxLen) : Calls Try.prog 27 #[.int .i64 n, .slice ao np c, .int .i64 d] w fun e w' => e = .returned (.int .i64 (wrongS n np d)) ∧ w = w' := by
  unfold maxLen at _hn
  obtain ⟨x, hx⟩ : ∃ x, x = wrongS n np d := ⟨_, rfl⟩
  rw [← hx]
  unfold wrongS at hx
  by_cases h1 : n < 1
  · have b1 : decide (n < 1) = true := by simpa using h1
    rw [if_pos (.inl h1)] at hx
    subst hx
    go_enter Try.func27, Try.ntmps27
    go_wp2
    go_ret
    exact ⟨rfl, rfl⟩
  have b1 : decide (n < 1) = false := by simpa using h1
  by_cases h2 : 8 < n
  · have b2 : decide (8 < n) = true := by simpa using h2
    rw [if_pos (.inr (.inl h2))] at hx
    subst hx
    go_enter Try.func27, Try.ntmps27
    go_wp2
    go_ret
    exact ⟨rfl, rfl⟩
  have b2 : decide (8 < n) = false := by simpa using h2
  by_cases h3 : d < 0
  · have b3 : decide (d < 0) = true := by simpa using h3
    rw [if_pos (.inr (.inr (.inl h3)))] at hx
    subst hx
    go_enter Try.func27, Try.ntmps27
    go_wp2
    go_ret
    exact ⟨rfl, rfl⟩
  have b3 : decide (d < 0) = false := by simpa using h3
  by_cases h4 : 65536 < d
  · have b4 : decide (65536 < d) = true := by simpa using h4
    rw [if_pos (.inr (.inr (.inr h4)))] at hx
    subst hx
    go_enter Try.func27, Try.ntmps27
    go_wp2
    go_ret
    exact ⟨rfl, rfl⟩
  have b4 : decide (65536 < d) = false := by simpa using h4
  rw [if_neg (by omega)] at hx
  by_cases h5 : (65536 : Int) < np
  · rw [if_pos h5] at hx
    subst hx
    go_enter Try.func27, Try.ntmps27
    go_wp2
    go_ret
    exact ⟨rfl, rfl⟩
  · rw [if_neg h5] at hx
    subst hx
    go_enter Try.func27, Try.ntmps27
    go_wp2
    go_ret
    exact ⟨rfl, rfl⟩
theorem refWrong_any (n d : Int) (np : Nat) (w : World) : Calls Try.prog 24 #[.int .i64 n, .int .i64 (np : Nat), .int .i64 d] w fun e w' => e = .returned (.int .i64 (wrongS n np d)) ∧ w = w' := by
  obtain ⟨x, hx⟩ : ∃ x, x = wrongS n np d := ⟨_, rfl⟩
  rw [← hx]
  unfold wrongS at hx
  by_cases h1 : n < 1
  · have b1 : decide (n < 1) = true := by simpa using h1
    rw [if_pos (.inl h1)] at hx
    subst hx
    go_enter Try.func24, Try.ntmps24
    go_wp2
    go_ret
    exact ⟨rfl, rfl⟩
  have b1 : decide (n < 1) = false := by simpa using h1
  by_cases h2 : 8 < n
  · have b2 : decide (8 < n) = true := by simpa using h2
    rw [if_pos (.inr (.inl h2))] at hx
    subst hx
    go_enter Try.func24, Try.ntmps24
    go_wp2
    go_ret
    exact ⟨rfl, rfl⟩
  have b2 : decide (8 < n) = false := by simpa using h2
  by_cases h3 : d < 0
  · have b3 : decide (d < 0) = true := by simpa using h3
    rw [if_pos (.inr (.inr (.inl h3)))] at hx
    subst hx
    go_enter Try.func24, Try.ntmps24
    go_wp2
    go_ret
    exact ⟨rfl, rfl⟩
  have b3 : decide (d < 0) = false := by simpa using h3
  by_cases h4 : 65536 < d
  · have b4 : decide (65536 < d) = true := by simpa using h4
    rw [if_pos (.inr (.inr (.inr h4)))] at hx
    subst hx
    go_enter Try.func24, Try.ntmps24
    go_wp2
    go_ret
    exact ⟨rfl, rfl⟩
  have b4 : decide (65536 < d) = false := by simpa using h4
  rw [if_neg (by omega)] at hx
  by_cases h5 : (65536 : Int) < np
  · rw [if_pos h5] at hx
    subst hx
    go_enter Try.func24, Try.ntmps24
    go_wp2
    go_ret
    exact ⟨rfl, rfl⟩
  · rw [if_neg h5] at hx
    subst hx
    go_enter Try.func24, Try.ntmps24
    go_wp2
    go_ret
    exact ⟨rfl, rfl⟩
theorem refRound_any (n : Nat) (p : Int) (w : World) (h0 : 0 < n) (hn : n ≤ 8) : Calls Try.prog 21 #[.int .i64 n, .int .i64 p] w fun e w' => e = .returned (.int .i64 ((roundS n p : Int) + 1)) ∧ w = w' := by
  have hz : ((n : Int) == 0) = false := by simp; omega
  have h3 := Int.tmod_lt_of_pos p (show (0 : Int) < n by omega)
  have h4 : -(n : Int) < p.tmod n := Int.lt_tmod_of_pos p (show (0 : Int) < n by omega)
  have h5 := roundS_lt p h0
  have w1 : IntKind.i64.wrap (p.tmod n) = p.tmod n := by rw [IntKind.wrap_i64]; omega
  have w3 : IntKind.i64.wrap ((roundS n p : Int) + 1) = (roundS n p : Int) + 1 := by rw [IntKind.wrap_i64]; omega
  by_cases hneg : p.tmod n < 0
  · have e2 : p.tmod n + n = (roundS n p : Int) := by
      have := round_num p h0
      rw [Int.tmod_eq_of_lt (by omega) (by omega)] at this
      exact this
    have w2 : IntKind.i64.wrap (p.tmod n + n) = (roundS n p : Int) := by rw [e2, IntKind.wrap_i64]; omega
    have b1 : decide (p.tmod n < 0) = true := by simpa using hneg
    go_enter Try.func21, Try.ntmps21
    go_wp2
    go_ret
    exact ⟨rfl, rfl⟩
  · have e2 : p.tmod n = (roundS n p : Int) := by
      have := round_num p h0
      rw [Int.tmod_eq_emod_of_nonneg (by omega), Int.add_emod_right, Int.emod_eq_of_lt (by omega) (by omega)] at this
      exact this
    have b1 : decide (p.tmod n < 0) = false := by simpa using hneg
    rw [e2] at w1 b1
    go_enter Try.func21, Try.ntmps21
    go_wp2
    go_ret
    exact ⟨rfl, rfl⟩
/-- the first thread that has not ended, from one on, going round -/
def nextS (e : Nat → Bool) (n from_ : Nat) : Option Nat := ((List.range n).map fun i => (from_ + i) % n).find? fun k => !e k
theorem nextS_some {e : Nat → Bool} {n f i : Nat} (hi : i < n) (h : ∀ j, j < i → e ((f + j) % n) = true) (he : e ((f + i) % n) = false) : nextS e n f = some ((f + i) % n) := by
  unfold nextS
  rw [List.find?_eq_some_iff_append]
  refine ⟨by simp [he], ((List.range n).map fun i => (f + i) % n).take i, ((List.range n).map fun i => (f + i) % n).drop (i + 1), ?_, fun a ha => ?_⟩
  · have hl : i < ((List.range n).map fun i => (f + i) % n).length := by simpa using hi
    have := List.take_append_drop i ((List.range n).map fun i => (f + i) % n)
    rw [List.drop_eq_getElem_cons hl] at this
    simpa using this.symm
  · rw [← List.map_take, List.take_range, List.mem_map] at ha
    obtain ⟨j, hj, rfl⟩ := ha
    have := h j (by have := List.mem_range.1 hj; omega)
    simp [this]
theorem nextS_none {e : Nat → Bool} {n f : Nat} (h : ∀ j, j < n → e ((f + j) % n) = true) : nextS e n f = none := by
  unfold nextS
  rw [List.find?_eq_none]
  intro a ha
  obtain ⟨j, hj, rfl⟩ := List.mem_map.1 ha
  simp [h j (List.mem_range.1 hj)]
def nextV : Option Nat → Value
  | some k => .tuple #[.int .i64 (k : Nat), .bool true]
  | none => .tuple #[.int .i64 0, .bool false]
theorem Next_any (rb lb cap n f : Nat) (th : Nat → Nat) (e : Nat → Bool) (w : World) (h0 : 0 < n) (hn : n ≤ 8) (hf : f ≤ n) (hr : w.cell? ⟨rb, 0, none⟩ = some (.slice (some ⟨lb, 0, none⟩) n cap)) (hl : ∀ k, k < n → w.cell? ⟨lb, k, none⟩ = some (.pointer (some ⟨th k, 0, none⟩)) ∧ w.cell? ⟨th k, 2, none⟩ = some (.bool (e k))) :
    Calls Try.prog 34 #[.pointer (some ⟨rb, 0, none⟩), .int .i64 (f : Nat)] w fun x w' => x = .returned (nextV (nextS e n f)) ∧ w = w' := by
  have HL := Lib.hid hl
  obtain ⟨A, hA⟩ : ∃ A, A = nextS e n f := ⟨_, rfl⟩
  have HA := Lib.hid hA
  rw [← hA]
  clear hl hA
  go_enter Try.func34, Try.ntmps34
  go_wp2
  go_loopw [15] (fun i wr => ∃ k : Nat, k ≤ n ∧ i = .int .i64 k ∧ wr = w ∧ ∀ j, j < k → e ((f + j) % n) = true) (fun i _ => n - (intOf i).toNat)
  case atStart => exact ⟨0, Nat.zero_le _, rfl, rfl, fun j hj => absurd hj (by omega)⟩
  case round =>
    obtain ⟨k, hk, rfl, rfl, hall⟩ := hrel
    have HALL := Lib.hid hall
    clear hall
    by_cases hlt : k < n
    · obtain ⟨q, hq⟩ : ∃ q, q = (f + k) % n := ⟨_, rfl⟩
      have hqn : q < n := by rw [hq]; exact Nat.mod_lt _ h0
      have e1 : ((f : Int) + (k : Int)).tmod (n : Int) = (q : Int) := by
        rw [Int.tmod_eq_emod_of_nonneg (by omega), hq]
        simp
      have w1 : IntKind.i64.wrap ((f : Int) + (k : Int)) = (f : Int) + (k : Int) := by rw [IntKind.wrap_i64]; omega
      have w2 : IntKind.i64.wrap (q : Int) = (q : Int) := by rw [IntKind.wrap_i64]; omega
      have hz : ((n : Int) == 0) = false := by simp; omega
      obtain ⟨c1, c2⟩ := HL.out q hqn
      have hlo : (0 : Int) ≤ (q : Int) := by omega
      have hhi : (q : Int) < (n : Int) := by omega
      have HQ := Lib.hid hq
      clear hq
      cases heq : e q with
      | true =>
        rw [heq] at c2
        go_wp2
        go_roundw
        case rel => exact ⟨k + 1, by omega, by go_num, trivial, fun j hj => by
          by_cases hjk : j = k
          · rw [hjk, ← HQ.out]; exact heq
          · exact HALL.out j (by omega)⟩
        case measure => simp [intOf]; omega
      | false =>
        rw [heq] at c2
        have : A = some q := by
          rw [HA.out, HQ.out]
          exact nextS_some hlt HALL.out (by rw [← HQ.out]; exact heq)
        subst this
        go_wp2
        go_ret2
        exact ⟨rfl, rfl⟩
    · obtain rfl : k = n := by omega
      have : A = none := by rw [HA.out]; exact nextS_none HALL.out
      subst this
      go_wp2
      go_ret2
      exact ⟨rfl, rfl⟩
end Go.Proofs.Ytaiinkeendejdaa
