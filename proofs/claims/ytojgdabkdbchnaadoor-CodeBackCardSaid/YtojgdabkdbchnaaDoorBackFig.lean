/-
  quash/quashlaw15's noise (any int) and figure (numbers below 60). No condition.
-/
import Derived.Test.YtojgdabkdbchnaaDoorBackN
namespace Go.Proofs.YtojgdabkdbchnaaDoor
open Go.RowKit
set_option maxRecDepth 100000

/-- a line that says nothing, by a raw number -/
def noiseX (x : Int) : List UInt8 := if x = 0 then [10] else if x = 1 then [32, 9, 32, 59, 32, 112, 117, 115, 104, 32, 49, 10] else if x = 2 then [59, 120, 58, 10] else [9, 10]
def noiseL (k : Int) : List UInt8 := noiseX (bits BinOp.and IntKind.i64 k 3)
theorem noiseL_is (k : Int) : IsNoise (noiseL k) := by
  unfold noiseL noiseX
  split
  · exact Or.inr (Or.inl rfl)
  · split
    · exact Or.inr (Or.inr (Or.inl rfl))
    · split
      · exact Or.inr (Or.inr (Or.inr (Or.inl rfl)))
      · exact Or.inr (Or.inr (Or.inr (Or.inr rfl)))
theorem noise_any (k : Int) (w : World) :
    Calls Tryd.prog 19 #[.int .i64 k] w fun e w' => e = .returned (.string (S (noiseL k))) ∧ w = w' := by
  unfold noiseL
  obtain ⟨X, hX⟩ : ∃ X, X = bits BinOp.and IntKind.i64 k 3 := ⟨_, rfl⟩
  rw [← hX]
  go_enter Tryd.func19, Tryd.ntmps19
  go_upto_region 2 with (fail)
  rw [← hX]
  clear hX
  by_cases x0 : X = 0
  · subst x0
    go_wp2
    go_ret
    exact ⟨rfl, rfl⟩
  · by_cases x1 : X = 1
    · subst x1
      go_wp2
      go_ret
      exact ⟨rfl, rfl⟩
    · have e0 : (X == 0) = false := by simpa using x0
      have e1 : (X == 1) = false := by simpa using x1
      by_cases x2 : X = 2
      · subst x2
        go_wp2
        go_ret
        exact ⟨rfl, rfl⟩
      · have e2 : (X == 2) = false := by simpa using x2
        have hN : noiseX X = [9, 10] := by unfold noiseX; rw [if_neg x0, if_neg x1, if_neg x2]
        go_wp2
        go_ret
        exact ⟨by rw [hN]; rfl, rfl⟩
def digits : ByteArray := ⟨#[48, 49, 50, 51, 52, 53, 54, 55, 56, 57]⟩
theorem digit_ext : ∀ a, a < 10 → digits.extract a (a + 1) = S [UInt8.ofNat (48 + a)] := by decide +kernel
set_option maxHeartbeats 1000000 in
theorem figure_any (n : Nat) (w : World) (hn : n < 60) :
    Calls Tryd.prog 20 #[.int .i64 n] w fun e w' => e = .returned (.string (S (figL n))) ∧ Below w.heap.size w w' := by
  obtain ⟨a, ha⟩ : ∃ a, a = n / 10 := ⟨_, rfl⟩
  obtain ⟨b, hb⟩ : ∃ b, b = n % 10 := ⟨_, rfl⟩
  have ha1 : a < 10 := by omega
  have hb1 : b < 10 := by omega
  have e1 : (n : Int).tdiv 100 = 0 := by rw [Int.tdiv_eq_ediv_of_nonneg (by omega)]; omega
  have e3 : (n : Int).tmod 10 = (b : Int) := by rw [Int.tmod_eq_emod_of_nonneg (by omega)]; omega
  have e4 : (a : Int).tmod 10 = (a : Int) := by rw [Int.tmod_eq_emod_of_nonneg (by omega)]; omega
  have e5 : (n : Int) / 10 = (a : Int) := by omega
  have e6 : (n : Int) % 10 = (b : Int) := by omega
  have e7 : (a : Int) % 10 = (a : Int) := by omega
  have w0 : IntKind.i64.wrap 0 = 0 := by decide
  have w1 : IntKind.i64.wrap 1 = 1 := by decide
  have w2 : IntKind.i64.wrap (a : Int) = (a : Int) := IntWalk.i64_in _ (by omega)
  have w3 : IntKind.i64.wrap ((a : Int) + 1) = (a : Int) + 1 := IntWalk.i64_in _ (by omega)
  have w4 : IntKind.i64.wrap ((b : Int) + 1) = (b : Int) + 1 := IntWalk.i64_in _ (by omega)
  have t1 : ((a : Int) + 1).toNat = a + 1 := by omega
  have t2 : ((b : Int) + 1).toNat = b + 1 := by omega
  have z0 : (0 : Int).tmod 10 = 0 := by decide
  have hsz : digits.size = 10 := by decide
  have c0 : (1 : Int) ≤ (digits.size : Int) := by rw [hsz]; decide
  have c0' : 0 < digits.size := by rw [hsz]; decide
  have c1 : (a : Int) + 1 ≤ (digits.size : Int) := by rw [hsz]; omega
  have c2 : (b : Int) + 1 ≤ (digits.size : Int) := by rw [hsz]; omega
  have d1 : (0 : Int) ≤ (a : Int) + 1 := by omega
  have d2 : (0 : Int) ≤ (b : Int) + 1 := by omega
  have c3 : (a : Int) ≤ (a : Int) + 1 := by omega
  have c4 : (b : Int) ≤ (b : Int) + 1 := by omega
  have q0 := digit_ext 0 (by decide)
  have q1 := digit_ext a ha1
  have q2 := digit_ext b hb1
  have hf : S (figL n) = S [UInt8.ofNat (48 + 0)] ++ S [UInt8.ofNat (48 + a)] ++ S [UInt8.ofNat (48 + b)] := by
    unfold figL
    rw [show n / 100 % 10 = 0 by omega, show n / 10 % 10 = a by omega, ← hb]
    rfl
  have s0 : (S [UInt8.ofNat (48 + 0)]).size = 1 := S_size _
  have s1 : (S [UInt8.ofNat (48 + a)]).size = 1 := S_size _
  have s2 : (S [UInt8.ofNat (48 + b)]).size = 1 := S_size _
  rw [hf]
  generalize S [UInt8.ofNat (48 + 0)] = p0 at q0 s0 ⊢
  generalize S [UInt8.ofNat (48 + a)] = p1 at q1 s1 ⊢
  generalize S [UInt8.ofNat (48 + b)] = p2 at q2 s2 ⊢
  have n1 : ¬ 9223372036854775807 < p0.size + p1.size := by omega
  have n2 : ¬ 9223372036854775807 < p0.size + p1.size + p2.size := by omega
  have n3 : ¬ 9223372036854775807 < (p0 ++ p1).size + p2.size := by rw [ByteArray.size_append]; omega
  clear ha hb hf s0 s1 s2 hsz
  go_enter Tryd.func20, Tryd.ntmps20
  go_upto_region 2 with (fail)
  rw [show (ByteArray.mk #[48, 49, 50, 51, 52, 53, 54, 55, 56, 57]) = digits from rfl]
  generalize digits = D at *
  go_quiet (fail)
  go_wp2
  go_ret
  exact ⟨rfl, below_drewN _ w _⟩
end Go.Proofs.YtojgdabkdbchnaaDoor
