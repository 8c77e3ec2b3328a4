/-
  quash/code.Check: every list of instructions. No condition.
-/
import Derived.Test.YtoiokbdipcecnaaGreatDoorCodeParse
namespace Go.Proofs.YtoiokbdipcecnaaGreatDoor
open Go.RowKit
set_option maxRecDepth 100000

/-- the slice at this address reads as these instructions -/
def SeesP (w : World) (ao : Option Addr) (l : List (Int × Int)) : Prop := ∃ b o, (l ≠ [] → ao = some ⟨b, o, none⟩) ∧ ∀ j x, l[j]? = some x → w.cell? ⟨b, o + j * 2, none⟩ = some (.int .i64 x.1) ∧ w.cell? ⟨b, o + j * 2 + 1, none⟩ = some (.int .i64 x.2)
theorem SeesP.below {w w' : World} {ao : Option Addr} {l : List (Int × Int)} (h : SeesP w ao l) (hb : Below w.heap.size w w') : SeesP w' ao l := by
  obtain ⟨b, o, h1, h2⟩ := h
  exact ⟨b, o, h1, fun j x hj => ⟨(hb.cell (p := ⟨b, _, none⟩) (block_lt_of_cell (h2 j x hj).1)).trans (h2 j x hj).1, (hb.cell (p := ⟨b, _, none⟩) (block_lt_of_cell (h2 j x hj).2)).trans (h2 j x hj).2⟩⟩
def checkFrom (n : Int) : Nat → List (Int × Int) → Int × Int
  | _, [] => (0, 0)
  | k, x :: r => if isOp x.1 = false then (151, (k : Int)) else if mayB (takes x.1) x.2 n = false then (152, (k : Int)) else checkFrom n (k + 1) r
/-- what Check answers -/
def checkL (l : List (Int × Int)) : Int × Int := if l.length < 1 ∨ 400 < l.length then (150, 0) else checkFrom l.length 0 l
theorem Check_long (ao : Option Addr) (c n : Nat) (w : World) (h : n < 1 ∨ 400 < n) (hn : n ≤ maxLen) :
    Calls Tryz.prog 16 #[.slice ao n c] w fun e w' => e = .returned (.tuple #[.int .i64 150, .int .i64 0]) ∧ Below w.heap.size w w' := by
  unfold maxLen at hn
  by_cases h1 : n < 1
  · go_enter Tryz.func16, Tryz.ntmps16
    go_wp2
    go_ret2
    exact ⟨rfl, Below.refl _ _⟩
  · have h2 : 400 < n := by omega
    go_enter Tryz.func16, Tryz.ntmps16
    go_wp2
    go_ret2
    exact ⟨rfl, Below.refl _ _⟩
set_option maxHeartbeats 1000000 in
theorem Check_some (ao : Option Addr) (c : Nat) (l : List (Int × Int)) (w : World) (hs : SeesP w ao l) (h1 : 1 ≤ l.length) (h2 : l.length ≤ 400) :
    Calls Tryz.prog 16 #[.slice ao l.length c] w fun e w' => e = .returned (.tuple #[.int .i64 (checkFrom l.length 0 l).1, .int .i64 (checkFrom l.length 0 l).2]) ∧ Below w.heap.size w w' := by
  obtain ⟨b, o, hao, hc⟩ := hs
  obtain rfl := hao (by intro e; subst e; simp at h1)
  obtain ⟨N, hN⟩ : ∃ N, N = l.length := ⟨_, rfl⟩
  have HN := Lib.hid hN
  have HC := Lib.hid hc
  rw [← hN] at h1 h2
  rw [← hN]
  clear hN hc hao
  obtain ⟨R, hR⟩ : ∃ R, R = checkFrom N 0 l := ⟨_, rfl⟩
  have HR := Lib.hid hR
  rw [← hR]
  clear hR
  have g1 : ¬ N < 1 := by omega
  have g2 : ¬ 400 < N := by omega
  go_enter Tryz.func16, Tryz.ntmps16
  go_wp2
  go_loopw [18] (fun v wr => ∃ k : Nat, k ≤ N ∧ v = .int .i64 k ∧ checkFrom N k (l.drop k) = R ∧ Below w.heap.size w wr) (fun v _ => N - (intOf v).toNat)
  case atStart => exact ⟨0, Nat.zero_le _, rfl, HR.out.symm, Below.refl _ _⟩
  case round =>
    obtain ⟨k, hk, rfl, hR, hB⟩ := hrel
    by_cases hlt : k < N
    · obtain ⟨⟨op, a⟩, hx⟩ : ∃ x, l[k]? = some x := ⟨_, List.getElem?_eq_getElem (by rw [← HN.out]; exact hlt)⟩
      have hdr : l.drop k = (op, a) :: l.drop (k + 1) := by
        rw [List.drop_eq_getElem_cons (by rw [← HN.out]; exact hlt)]
        congr 1
        exact (List.getElem?_eq_some_iff.1 hx).2
      obtain ⟨q0, q1⟩ := HC.out k _ hx
      have c0 := (hB.cell (p := ⟨b, _, none⟩) (block_lt_of_cell q0)).trans q0
      have c1 := (hB.cell (p := ⟨b, _, none⟩) (block_lt_of_cell q1)).trans q1
      rw [hdr, checkFrom] at hR
      clear q0 q1 hdr hx
      have hi0 : (0 : Int) ≤ (k : Int) := by omega
      cases hop : isOp op with
      | false =>
        have HO := Lib.hid hop
        have HR2 := Lib.hid (show ((151, (k : Int)) : Int × Int) = R by rw [← hR]; simp [hop])
        clear hop hR
        go_wp2_with (go_at_call 35; go_must (refine (about_any op _).mono ?_; rintro e w1 ⟨rfl, hb1⟩; simp only [rowAgg]; rw [HO.out]))
        go_ret2
        rw [← HR2.out]
        refine ⟨rfl, ?_⟩
        have hB0 : Below w.heap.size w (wr.alloc (.cells #[.int .i64 op, .int .i64 a] 82)) := hB.alloc hB.size _
        have hB1 := hB0.trans (hb1.mono hB0.size)
        exact hB1.alloc hB1.size _
      | true =>
        have HO := Lib.hid hop
        cases hmay : mayB (takes op) a N with
        | false =>
          have HM := Lib.hid hmay
          have HR2 := Lib.hid (show ((152, (k : Int)) : Int × Int) = R by rw [← hR]; simp [hop, hmay])
          clear hop hR hmay
          go_wp2_with (first
            | (go_at_call 35; go_must (refine (about_any op _).mono ?_; rintro e w1 ⟨rfl, hb1⟩; simp only [rowAgg]; rw [HO.out]; obtain ⟨hc1, _⟩ := bcell hb1; have hz1 : wr.heap.size < w1.heap.size := by have := hb1.size; simp at this; omega))
            | (go_at_call 36; go_must (refine (may_any (takes op) a N _).mono ?_; rintro e w2 ⟨rfl, rfl⟩; rw [HM.out])))
          go_ret2
          rw [← HR2.out]
          refine ⟨rfl, ?_⟩
          have hB0 : Below w.heap.size w (wr.alloc (.cells #[.int .i64 op, .int .i64 a] 82)) := hB.alloc hB.size _
          have hB1 := hB0.trans (hb1.mono hB0.size)
          exact hB1.alloc hB1.size _
        | true =>
          have HM := Lib.hid hmay
          have HR2 := Lib.hid (show checkFrom N (k + 1) (l.drop (k + 1)) = R by rw [← hR]; simp [hop, hmay])
          clear hop hR hmay
          go_wp2_with (first
            | (go_at_call 35; go_must (refine (about_any op _).mono ?_; rintro e w1 ⟨rfl, hb1⟩; simp only [rowAgg]; rw [HO.out]; obtain ⟨hc1, _⟩ := bcell hb1; have hz1 : wr.heap.size < w1.heap.size := by have := hb1.size; simp at this; omega))
            | (go_at_call 36; go_must (refine (may_any (takes op) a N _).mono ?_; rintro e w2 ⟨rfl, rfl⟩; rw [HM.out])))
          go_roundw
          case rel =>
            have hB0 : Below w.heap.size w (wr.alloc (.cells #[.int .i64 op, .int .i64 a] 82)) := hB.alloc hB.size _
            have hB1 := hB0.trans (hb1.mono hB0.size)
            exact ⟨k + 1, by omega, by go_num, HR2.out, hB1.alloc hB1.size _⟩
          case measure => simp [intOf]; omega
    · obtain rfl : k = N := by omega
      have HR2 := Lib.hid (show ((0, 0) : Int × Int) = R by rw [← hR, List.drop_eq_nil_of_le (by rw [← HN.out]; exact Nat.le_refl _)]; rfl)
      clear hR
      go_wp2
      go_ret2
      rw [← HR2.out]
      exact ⟨rfl, hB⟩
/-! ### what a program that passes Check gives -/
theorem checkFrom_ok {n : Int} : ∀ (l : List (Int × Int)) (k : Nat), (checkFrom n k l).1 = 0 → ∀ (j : Nat) (x : Int × Int), l[j]? = some x → isOp x.1 = true ∧ mayB (takes x.1) x.2 n = true
  | [], _, _, j, x, h => by simp at h
  | y :: r, k, h, j, x, hj => by
    rw [checkFrom] at h
    by_cases h1 : isOp y.1 = false
    · rw [if_pos h1] at h; simp at h
    · rw [if_neg h1] at h
      by_cases h2 : mayB (takes y.1) y.2 n = false
      · rw [if_pos h2] at h; simp at h
      · rw [if_neg h2] at h
        cases j with
        | zero =>
          simp at hj
          subst hj
          exact ⟨by simpa using h1, by simpa using h2⟩
        | succ j => exact checkFrom_ok r (k + 1) h j x (by simpa using hj)
theorem checkL_ok {l : List (Int × Int)} (h : (checkL l).1 = 0) : 1 ≤ l.length ∧ l.length ≤ 400 ∧ ∀ (j : Nat) (x : Int × Int), l[j]? = some x → isOp x.1 = true ∧ mayB (takes x.1) x.2 l.length = true := by
  unfold checkL at h
  by_cases h1 : l.length < 1 ∨ 400 < l.length
  · rw [if_pos h1] at h; simp at h
  · rw [if_neg h1] at h
    exact ⟨by omega, by omega, checkFrom_ok l 0 h⟩
theorem place_ok {a n : Int} (h : mayB 3 a n = true) : 0 ≤ a ∧ a ≤ n := by
  simpa [mayB] using h
end Go.Proofs.YtoiokbdipcecnaaGreatDoor
