/-
  slices.BinarySearch at []int64, of a rising slice that reads as a list (nil too). Condition: at most 2^60 elements.
-/
import Derived.Test.YtkioddgolmaaeaaGreatDoorRow64
import Derived.Deep.LoopGhost
import Derived.Deep.Draws
import Derived.Lib.SlicesSearch
namespace Go.Proofs.YtkioddgolmaaeaaGreatDoor
open Go.RowKit Go.Lib
set_option maxRecDepth 100000

theorem cmpNaN64 (x : Int) (w : World) : Calls Tryz.prog 53 #[.int .i64 x] w fun e w' => e = .returned (.bool false) ∧ w' = w := by
  go_enter Tryz.func53, Tryz.ntmps53
  go_wp2
  go_ret
  exact ⟨by simp, rfl⟩
theorem slicesNaN64 (x : Int) (w : World) : Calls Tryz.prog 41 #[.int .i64 x] w fun e w' => e = .returned (.bool false) ∧ w' = w := by
  go_enter Tryz.func41, Tryz.ntmps41
  go_wp2
  go_ret
  exact ⟨by simp, rfl⟩
theorem cmpLess64 (x y : Int) (w : World) : Calls Tryz.prog 40 #[.int .i64 x, .int .i64 y] w fun e w' => e = .returned (.bool (decide (x < y))) ∧ w' = w := by
  go_enter Tryz.func40, Tryz.ntmps40
  go_wp2_with (go_at_call 53; refine (cmpNaN64 _ _).mono ?_; rintro e w' ⟨rfl, rfl⟩)
  go_ret
  exact ⟨rfl, rfl⟩
set_option maxHeartbeats 4000000 in
theorem Search64_some (b off c : Nat) (zs : List Int) (n : Nat) (hn : zs.length = n) (x : Int) (w : World) (hbig : n < 4611686018427387904) (hs : Sees w (some ⟨b, off, none⟩) zs) (hr : zs.Pairwise (· < ·)) :
    Calls Tryz.prog 31 #[.slice (some ⟨b, off, none⟩) n c, .int .i64 x] w fun e w' => e = .returned (.tuple #[.int .i64 (zs.countP (· < x) : Nat), .bool (zs.contains x)]) ∧ ∃ q, w' = w.drewN q := by
  have ht : zs.take n = zs := List.take_of_length_le (by omega)
  have hpw : (zs.take n).Pairwise (· ≤ ·) := by rw [ht]; exact hr.imp (fun h => Int.le_of_lt h)
  have SO := Lib.hid (Lib.sorted_at zs n (by omega) hpw)
  have HT := Lib.hid ht
  have HZ := Lib.hid (show n ≤ zs.length by omega)
  have hc : ∀ j, j < n → w.cell? ⟨b, off + j, none⟩ = some (.int .i64 (zs.getD j 0)) := fun j hj => by
    obtain ⟨b', o', h1, h2⟩ := hs
    have := h1 (by intro e; subst e; simp at hn; omega)
    injection this with this
    injection this with e1 e2
    subst e1; subst e2
    exact h2 j (by omega)
  clear hs hr hpw ht hn
  go_enter Tryz.func31, Tryz.ntmps31
  go_wp2
  go_loopg [7, 8] n (fun g s7 s8 wr => ∃ lo hi q : Nat, s7 = .int .i64 lo ∧ s8 = .int .i64 hi ∧ lo ≤ hi ∧ hi ≤ n ∧ hi - lo ≤ g ∧ wr = w.drewN q ∧ (∀ t, t < lo → zs.getD t 0 < x) ∧ (∀ t, hi ≤ t → t < n → x ≤ zs.getD t 0))
  case atStart => exact ⟨0, n, 0, rfl, rfl, Nat.zero_le _, Nat.le_refl _, by omega, rfl, fun t ht => absurd ht (Nat.not_lt_zero _), fun t h1 h2 => by omega⟩
  case round =>
    obtain ⟨lo, hi, q, rfl, rfl, hlh, hin, hg, rfl, h1, h2⟩ := hrel
    have I := Lib.hid (show (∀ t, t < lo → zs.getD t 0 < x) ∧ (∀ t, hi ≤ t → t < n → x ≤ zs.getD t 0) from ⟨h1, h2⟩)
    clear h1 h2
    by_cases hlt : lo < hi
    · have cm : w.cell? ⟨b, off + (lo + hi) / 2, none⟩ = some (.int .i64 (zs.getD ((lo + hi) / 2) 0)) := hc _ (by omega)
      clear hc
      generalize hy : zs.getD ((lo + hi) / 2) 0 = y at cm
      have Y := Lib.hid hy
      clear hy
      by_cases hyx : y < x
      · go_wp2_with (first | (go_at_call 40; refine (cmpLess64 _ _ _).mono ?_; rintro e w' ⟨rfl, rfl⟩) | (go_at_call 41; refine (slicesNaN64 _ _).mono ?_; rintro e w' ⟨rfl, rfl⟩))
        go_roundg (hi - ((lo + hi) / 2 + 1))
        case measure => omega
        case rel =>
          refine ⟨(lo + hi) / 2 + 1, hi, _, by rw [show ((lo : Int) + (hi : Int)) / 2 + 1 = (((lo + hi) / 2 + 1 : Nat) : Int) by omega], rfl, by omega, hin, Nat.le_refl _, rfl, fun t ht => ?_, I.out.2⟩
          have := SO.out t ((lo + hi) / 2) (by omega) (by omega)
          rw [Y.out] at this
          omega
      · go_wp2_with (first | (go_at_call 40; refine (cmpLess64 _ _ _).mono ?_; rintro e w' ⟨rfl, rfl⟩) | (go_at_call 41; refine (slicesNaN64 _ _).mono ?_; rintro e w' ⟨rfl, rfl⟩))
        go_roundg ((lo + hi) / 2 - lo)
        case measure => omega
        case rel =>
          refine ⟨lo, (lo + hi) / 2, _, rfl, by rw [show ((lo : Int) + (hi : Int)) / 2 = (((lo + hi) / 2 : Nat) : Int) by omega], by omega, by omega, Nat.le_refl _, rfl, I.out.1, fun t ht htn => ?_⟩
          have := SO.out ((lo + hi) / 2) t ht htn
          rw [Y.out] at this
          omega
    · have : hi = lo := by omega
      subst this
      obtain ⟨e1, e2⟩ := Lib.search_end zs n hi x HZ.out hin I.out.1 I.out.2 SO.out
      rw [HT.out] at e1 e2
      have E := Lib.hid (show zs.countP (· < x) = hi ∧ zs.contains x = decide (hi < n ∧ zs.getD hi 0 = x) from ⟨e1, e2⟩)
      clear e1 e2
      by_cases hn : hi < n
      · have cl : w.cell? ⟨b, off + hi, none⟩ = some (.int .i64 (zs.getD hi 0)) := hc _ (by omega)
        clear hc
        generalize hy : zs.getD hi 0 = y at cl
        have Y := Lib.hid hy
        clear hy
        by_cases hyx : y = x
        · go_wp2_with (first | (go_at_call 40; refine (cmpLess64 _ _ _).mono ?_; rintro e w' ⟨rfl, rfl⟩) | (go_at_call 41; refine (slicesNaN64 _ _).mono ?_; rintro e w' ⟨rfl, rfl⟩))
          go_ret2
          refine ⟨?_, _, rfl⟩
          rw [E.out.1, E.out.2, Y.out, decide_eq_true (show hi < n ∧ y = x from ⟨hn, hyx⟩)]
          first | rfl | simp [*]
        · go_wp2_with (first | (go_at_call 40; refine (cmpLess64 _ _ _).mono ?_; rintro e w' ⟨rfl, rfl⟩) | (go_at_call 41; refine (slicesNaN64 _ _).mono ?_; rintro e w' ⟨rfl, rfl⟩))
          go_ret2
          refine ⟨?_, _, rfl⟩
          rw [E.out.1, E.out.2, Y.out, decide_eq_false (show ¬ (hi < n ∧ y = x) from fun h => hyx h.2)]
          first | rfl | simp [*]
      · clear hc
        go_wp2_with (first | (go_at_call 40; refine (cmpLess64 _ _ _).mono ?_; rintro e w' ⟨rfl, rfl⟩) | (go_at_call 41; refine (slicesNaN64 _ _).mono ?_; rintro e w' ⟨rfl, rfl⟩))
        go_ret2
        refine ⟨?_, _, rfl⟩
        rw [E.out.1, E.out.2, decide_eq_false (show ¬ (hi < n ∧ zs.getD hi 0 = x) from fun h => hn h.1)]
        first | rfl | simp [*]
set_option maxHeartbeats 1000000 in
theorem Search64_none (x : Int) (w : World) :
    Calls Tryz.prog 31 #[.slice none 0 0, .int .i64 x] w fun e w' => e = .returned (.tuple #[.int .i64 0, .bool false]) ∧ ∃ q, w' = w.drewN q := by
  go_enter Tryz.func31, Tryz.ntmps31
  go_wp2
  go_loopg [7, 8] 0 (fun _ s7 s8 wr => s7 = .int .i64 0 ∧ s8 = .int .i64 0 ∧ wr = w)
  case atStart => exact ⟨rfl, rfl, rfl⟩
  case round =>
    obtain ⟨rfl, rfl, rfl⟩ := hrel
    go_wp2_with (first | (go_at_call 40; refine (cmpLess64 _ _ _).mono ?_; rintro e w' ⟨rfl, rfl⟩) | (go_at_call 41; refine (slicesNaN64 _ _).mono ?_; rintro e w' ⟨rfl, rfl⟩))
    go_ret2
    exact ⟨rfl, 0, rfl⟩
/-- a search in any rising slice of the call's own -/
theorem Search64_own (B : Nat) (v : Value) (zs : List Int) (x : Int) (w : World) (hbig : zs.length < 4611686018427387904) (ho : Own w B v zs) (hr : zs.Pairwise (· < ·)) :
    Calls Tryz.prog 31 #[v, .int .i64 x] w fun e w' => e = .returned (.tuple #[.int .i64 (zs.countP (· < x) : Nat), .bool (zs.contains x)]) ∧ ∃ q, w' = w.drewN q := by
  rcases ho.form with ⟨rfl, rfl⟩ | ⟨g, cap, rfl, hb⟩
  · exact Search64_none x w
  · exact Search64_some g 0 cap zs zs.length rfl x w hbig hb.sees hr
/-- .. what it gives, by letters -/
theorem Search64_at (B : Nat) (v : Value) (zs : List Int) (x : Int) (w : World) (hbig : zs.length < 4611686018427387904) (ho : Own w B v zs) (hr : zs.Pairwise (· < ·)) :
    Calls Tryz.prog 31 #[v, .int .i64 x] w fun e w' => (∃ (A : Nat) (is : Bool), e = .returned (.tuple #[.int .i64 A, .bool is]) ∧ A = zs.countP (· < x) ∧ (is = true ↔ x ∈ zs)) ∧ ∃ q, w' = w.drewN q :=
  (Search64_own B v zs x w hbig ho hr).mono fun _ _ ⟨h1, h2⟩ => ⟨⟨_, _, h1, rfl, by simp⟩, h2⟩
/-- what a rising list is, cut at a key -/
theorem cut_at (zs : List Int) (x : Int) (hr : zs.Pairwise (· < ·)) : zs.take (zs.countP (· < x)) = zs.filter (· < x) ∧
    (x ∉ zs → zs.drop (zs.countP (· < x)) = zs.filter (x < ·)) ∧ (x ∈ zs → zs.drop (zs.countP (· < x)) = x :: zs.filter (x < ·)) := by
  induction zs with
  | nil => simp
  | cons z r ih =>
    rw [List.pairwise_cons] at hr
    obtain ⟨h1, h2, h3⟩ := ih hr.2
    by_cases hz : z < x
    · have hzx : ¬ x < z := by omega
      have hne : x ≠ z := by omega
      simp [hz, hzx, hne, h1]
      exact ⟨h2, h3⟩
    · have hall : ∀ y ∈ r, ¬ y < x := fun y hy => by have := hr.1 y hy; omega
      have hc : r.countP (· < x) = 0 := by rw [List.countP_eq_zero]; simpa using hall
      have hf : r.filter (· < x) = [] := by rw [List.filter_eq_nil_iff]; simpa using hall
      rw [hc] at h2 h3
      have e0 : (z :: r).countP (· < x) = 0 := by simp [hc, hz]
      rw [e0]
      refine ⟨by simp [hz, hf], fun hn => ?_, fun hm => ?_⟩
      · have hlt : x < z := by
          have : x ≠ z := fun e => hn (by simp [e])
          omega
        have hn' : x ∉ r := fun h => hn (by simp [h])
        have := h2 hn'
        simp at this
        simp [hlt]
        exact this
      · rcases List.mem_cons.1 hm with rfl | hm
        · have hall2 : ∀ y ∈ r, x < y := hr.1
          have e : r.filter (x < ·) = r := List.filter_eq_self.2 (fun y hy => by simpa using hall2 y hy)
          simp [e]
        · have := hall x hm
          have := hr.1 x hm
          omega
end Go.Proofs.YtkioddgolmaaeaaGreatDoor
