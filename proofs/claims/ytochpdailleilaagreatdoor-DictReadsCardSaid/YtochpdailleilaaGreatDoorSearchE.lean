/-
  slices.BinarySearchFunc at []Entry with the comparison of dict.Do, of a rising slice that reads as a list (nil too); cmp.Compare. Condition: at most 2^60 entries.
-/
import Derived.Test.YtochpdailleilaaGreatDoorRowE
import Derived.Test.YtochpdailleilaaGreatDoorDictS
import Derived.Deep.LoopGhost
import Derived.Deep.Draws
import Derived.Lib.SlicesSearch
namespace Go.Proofs.YtochpdailleilaaGreatDoor
open Go.RowKit Go.Lib
set_option maxRecDepth 100000

def cmpI (x y : Int) : Int := if x < y then -1 else if y < x then 1 else 0
theorem cmpI_lt {x y : Int} (h : x < y) : cmpI x y = -1 := by simp [cmpI, h]
theorem cmpI_gt {x y : Int} (h : y < x) : cmpI x y = 1 := by simp [cmpI, h]; omega
theorem cmpI_eq {x y : Int} (h : x = y) : cmpI x y = 0 := by simp [cmpI, h]
theorem cmpNaN64 (x : Int) (w : World) : Calls Tryz.prog 46 #[.int .i64 x] w fun e w' => e = .returned (.bool false) ∧ w' = w := by
  go_enter Tryz.func46, Tryz.ntmps46
  go_wp2
  go_ret
  exact ⟨by simp, rfl⟩
theorem cmpCompare (x y : Int) (w : World) : Calls Tryz.prog 35 #[.int .i64 x, .int .i64 y] w fun e w' => e = .returned (.int .i64 (cmpI x y)) ∧ w' = w := by
  rcases Int.lt_trichotomy x y with h | h | h
  · rw [cmpI_lt h]
    have h1 : decide (x < y) = true := by simpa using h
    clear h
    go_enter Tryz.func35, Tryz.ntmps35
    go_wp2_with (go_at_call 46; refine (cmpNaN64 _ _).mono ?_; rintro e w' ⟨rfl, rfl⟩)
    go_ret
    exact ⟨rfl, rfl⟩
  · rw [cmpI_eq h]
    have h1 : decide (x < y) = false := by simp; omega
    have h2 : decide (y < x) = false := by simp; omega
    clear h
    go_enter Tryz.func35, Tryz.ntmps35
    go_wp2_with (go_at_call 46; refine (cmpNaN64 _ _).mono ?_; rintro e w' ⟨rfl, rfl⟩)
    go_ret
    exact ⟨rfl, rfl⟩
  · rw [cmpI_gt h]
    have h1 : decide (x < y) = false := by simp; omega
    have h2 : decide (y < x) = true := by simpa using h
    clear h
    go_enter Tryz.func35, Tryz.ntmps35
    go_wp2_with (go_at_call 46; refine (cmpNaN64 _ _).mono ?_; rintro e w' ⟨rfl, rfl⟩)
    go_ret
    exact ⟨rfl, rfl⟩
theorem doCmp (k v x : Int) (w : World) : Calls Tryz.prog 34 #[.agg #[.int .i64 k, .int .i64 v], .int .i64 x] w fun e w' => e = .returned (.int .i64 (cmpI k x)) ∧ Below w.heap.size w w' := by
  go_enter Tryz.func34, Tryz.ntmps34
  go_wp2_with (go_at_call 35; refine (cmpCompare _ _ _).mono ?_; rintro e w' ⟨rfl, rfl⟩)
  go_ret
  exact ⟨rfl, (Below.refl _ _).alloc (Nat.le_refl _) _⟩
set_option maxHeartbeats 4000000 in
theorem SearchE_some (b off c : Nat) (zs : List (Int × Int)) (n : Nat) (hn : zs.length = n) (x : Int) (w : World) (hbig : n < 4611686018427387904) (hs : SeesP w (some ⟨b, off, none⟩) zs) (hr : zs.Pairwise (fun p q => p.1 < q.1)) :
    Calls Tryz.prog 33 #[.slice (some ⟨b, off, none⟩) n c, .int .i64 x, .func (.func 34) #[] #[]] w fun e w' => e = .returned (.tuple #[.int .i64 ((zs.map (·.1)).countP (· < x) : Nat), .bool ((zs.map (·.1)).contains x)]) ∧ Below w.heap.size w w' := by
  obtain ⟨ks, hks⟩ : ∃ ks, ks = zs.map (·.1) := ⟨_, rfl⟩
  have hkl : ks.length = n := by rw [hks, List.length_map, hn]
  have ht : ks.take n = ks := List.take_of_length_le (by omega)
  have hkr : ks.Pairwise (· < ·) := by rw [hks]; exact List.pairwise_map.2 hr
  have hpw : (ks.take n).Pairwise (· ≤ ·) := by rw [ht]; exact hkr.imp (fun h => Int.le_of_lt h)
  have SO := Lib.hid (Lib.sorted_at ks n (by omega) hpw)
  have HT := Lib.hid ht
  have HZ := Lib.hid (show n ≤ ks.length by omega)
  have HC := Lib.hid (show ∀ W, Below w.heap.size w W → ∀ j, j < n → ∃ v, W.cell? ⟨b, off + j * 2, none⟩ = some (.int .i64 (ks.getD j 0)) ∧ W.cell? ⟨b, off + j * 2 + 1, none⟩ = some (.int .i64 v) from fun W hB j hj => by
    obtain ⟨b', o', h1, h2⟩ := hs.below hB
    have h1 := h1 (by intro e; subst e; simp at hn; omega)
    injection h1 with h1
    injection h1 with e1 e2
    subst e1; subst e2
    obtain ⟨z, hz⟩ : ∃ z, zs[j]? = some z := ⟨_, List.getElem?_eq_getElem (by omega)⟩
    have h3 := h2 j z hz
    refine ⟨z.2, ?_, h3.2⟩
    rw [h3.1, hks, List.getD_eq_getElem?_getD, List.getElem?_map, hz]
    rfl)
  rw [← hks]
  clear hs hr hpw ht hn hks hkl hkr
  go_enter Tryz.func33, Tryz.ntmps33
  go_wp2
  go_loopg [9, 10] n (fun g s7 s8 wr => ∃ lo hi : Nat, s7 = .int .i64 lo ∧ s8 = .int .i64 hi ∧ lo ≤ hi ∧ hi ≤ n ∧ hi - lo ≤ g ∧ Below w.heap.size w wr ∧ (∀ t, t < lo → ks.getD t 0 < x) ∧ (∀ t, hi ≤ t → t < n → x ≤ ks.getD t 0))
  case atStart => exact ⟨0, n, rfl, rfl, Nat.zero_le _, Nat.le_refl _, by omega, Below.refl _ _, fun t ht => absurd ht (Nat.not_lt_zero _), fun t h1 h2 => by omega⟩
  case round =>
    obtain ⟨lo, hi, rfl, rfl, hlh, hin, hg, hB, h1, h2⟩ := hrel
    have I := Lib.hid (show (∀ t, t < lo → ks.getD t 0 < x) ∧ (∀ t, hi ≤ t → t < n → x ≤ ks.getD t 0) from ⟨h1, h2⟩)
    have HB := Lib.hid hB
    clear h1 h2
    by_cases hlt : lo < hi
    · obtain ⟨v, cm, cv⟩ := HC.out wr hB ((lo + hi) / 2) (by omega)
      generalize hy : ks.getD ((lo + hi) / 2) 0 = y at cm
      have Y := Lib.hid hy
      clear hy hB
      by_cases hyx : y < x
      · have CM := Lib.hid (cmpI_lt hyx)
        go_wp2_with (go_at_call 34; refine (doCmp _ _ _ _).mono ?_; rintro e w' ⟨rfl, hb1⟩; rw [CM.out])
        go_roundg (hi - ((lo + hi) / 2 + 1))
        case measure => omega
        case rel =>
          refine ⟨(lo + hi) / 2 + 1, hi, by rw [show ((lo : Int) + (hi : Int)) / 2 + 1 = (((lo + hi) / 2 + 1 : Nat) : Int) by omega], rfl, by omega, hin, Nat.le_refl _, HB.out.trans (hb1.mono HB.out.size), fun t ht => ?_, I.out.2⟩
          have := SO.out t ((lo + hi) / 2) (by omega) (by omega)
          rw [Y.out] at this
          omega
      · obtain ⟨cc, hcc, hc0⟩ : ∃ cc, cmpI y x = cc ∧ ¬ cc < 0 := ⟨_, rfl, by unfold cmpI; split <;> (try split) <;> omega⟩
        have CM := Lib.hid hcc
        clear hcc
        have hcd : decide (cc < 0) = false := by simp; omega
        go_wp2_with (go_at_call 34; refine (doCmp _ _ _ _).mono ?_; rintro e w' ⟨rfl, hb1⟩; rw [CM.out])
        go_roundg ((lo + hi) / 2 - lo)
        case measure => omega
        case rel =>
          refine ⟨lo, (lo + hi) / 2, rfl, by rw [show ((lo : Int) + (hi : Int)) / 2 = (((lo + hi) / 2 : Nat) : Int) by omega], by omega, by omega, Nat.le_refl _, HB.out.trans (hb1.mono HB.out.size), I.out.1, fun t ht htn => ?_⟩
          have := SO.out ((lo + hi) / 2) t ht htn
          rw [Y.out] at this
          omega
    · have : hi = lo := by omega
      subst this
      obtain ⟨e1, e2⟩ := Lib.search_end ks n hi x HZ.out hin I.out.1 I.out.2 SO.out
      rw [HT.out] at e1 e2
      have E := Lib.hid (show ks.countP (· < x) = hi ∧ ks.contains x = decide (hi < n ∧ ks.getD hi 0 = x) from ⟨e1, e2⟩)
      clear e1 e2
      by_cases hn : hi < n
      · obtain ⟨v, cl, cv⟩ := HC.out wr hB hi hn
        generalize hy : ks.getD hi 0 = y at cl
        have Y := Lib.hid hy
        clear hy hB
        by_cases hyx : y = x
        · have CM := Lib.hid (cmpI_eq hyx)
          have HYX := Lib.hid hyx
          clear hyx
          go_wp2_with (go_at_call 34; refine (doCmp _ _ _ _).mono ?_; rintro e w' ⟨rfl, hb1⟩; rw [CM.out])
          go_ret2
          refine ⟨?_, HB.out.trans (hb1.mono HB.out.size)⟩
          rw [E.out.1, E.out.2, Y.out, decide_eq_true (show hi < n ∧ y = x from ⟨hn, HYX.out⟩)]
          first | rfl | simp [*]
        · obtain ⟨cc, hcc, hc0⟩ : ∃ cc, cmpI y x = cc ∧ ¬ cc = 0 := ⟨_, rfl, by unfold cmpI; split <;> (try split) <;> omega⟩
          have CM := Lib.hid hcc
          clear hcc
          have hcd : (cc == 0) = false := by simp; omega
          go_wp2_with (go_at_call 34; refine (doCmp _ _ _ _).mono ?_; rintro e w' ⟨rfl, hb1⟩; rw [CM.out])
          go_ret2
          refine ⟨?_, HB.out.trans (hb1.mono HB.out.size)⟩
          rw [E.out.1, E.out.2, Y.out, decide_eq_false (show ¬ (hi < n ∧ y = x) from fun h => hyx h.2)]
          first | rfl | simp [*]
      · clear hB
        go_wp2
        go_ret2
        refine ⟨?_, HB.out⟩
        rw [E.out.1, E.out.2, decide_eq_false (show ¬ (hi < n ∧ ks.getD hi 0 = x) from fun h => hn h.1)]
        first | rfl | simp [*]
set_option maxHeartbeats 1000000 in
theorem SearchE_none (x : Int) (w : World) :
    Calls Tryz.prog 33 #[.slice none 0 0, .int .i64 x, .func (.func 34) #[] #[]] w fun e w' => e = .returned (.tuple #[.int .i64 0, .bool false]) ∧ w' = w := by
  go_enter Tryz.func33, Tryz.ntmps33
  go_wp2
  go_loopg [9, 10] 0 (fun _ s7 s8 wr => s7 = .int .i64 0 ∧ s8 = .int .i64 0 ∧ wr = w)
  case atStart => exact ⟨rfl, rfl, rfl⟩
  case round =>
    obtain ⟨rfl, rfl, rfl⟩ := hrel
    go_wp2
    go_ret2
    exact ⟨rfl, rfl⟩
/-- .. what it gives in any rising row of the call's own, by letters -/
theorem SearchE_at (B : Nat) (v : Value) (zs : List (Int × Int)) (x : Int) (w : World) (hbig : zs.length < 4611686018427387904) (ho : OwnE w B v zs) (hr : zs.Pairwise (fun p q => p.1 < q.1)) :
    Calls Tryz.prog 33 #[v, .int .i64 x, .func (.func 34) #[] #[]] w fun e w' => (∃ (A : Nat) (is : Bool), e = .returned (.tuple #[.int .i64 A, .bool is]) ∧ A = (zs.map (·.1)).countP (· < x) ∧ (is = true ↔ x ∈ zs.map (·.1))) ∧ Below w.heap.size w w' := by
  rcases ho.form with ⟨rfl, rfl⟩ | ⟨g, cap, rfl, hb⟩
  · exact (SearchE_none x w).mono fun e w' ⟨h1, h2⟩ => ⟨⟨0, false, h1, by simp, by simp⟩, by subst h2; exact Below.refl _ _⟩
  · exact (SearchE_some g 0 cap zs zs.length rfl x w hbig hb.sees hr).mono fun e w' ⟨h1, h2⟩ => ⟨⟨_, _, h1, rfl, by rw [List.contains_iff_mem]⟩, h2⟩
/-- what a rising list is, cut at a key -/
theorem cutE_at (zs : List (Int × Int)) (x : Int) (hr : zs.Pairwise (fun p q => p.1 < q.1)) : zs.take ((zs.map (·.1)).countP (· < x)) = lessE zs x ∧
    (x ∉ zs.map (·.1) → zs.drop ((zs.map (·.1)).countP (· < x)) = moreE zs x) ∧ (∀ v, (x, v) ∈ zs → zs.drop ((zs.map (·.1)).countP (· < x)) = (x, v) :: moreE zs x) := by
  induction zs with
  | nil => simp [lessE, moreE]
  | cons z r ih =>
    rw [List.pairwise_cons] at hr
    obtain ⟨h1, h2, h3⟩ := ih hr.2
    simp only [lessE, moreE] at h1 h2 h3 ⊢
    by_cases hz : z.1 < x
    · have hzx : ¬ x < z.1 := by omega
      have hne : x ≠ z.1 := by omega
      have e0 : ((z :: r).map (·.1)).countP (· < x) = (r.map (·.1)).countP (· < x) + 1 := by simp [hz]
      rw [e0, List.take_succ_cons, List.drop_succ_cons, h1, List.filter_cons_of_pos (by simpa using hz), List.filter_cons_of_neg (by simpa using Int.not_lt.1 hzx)]
      refine ⟨rfl, fun hn => h2 (fun h => hn (by simp at h ⊢; exact .inr h)), fun v hv => h3 v ?_⟩
      rcases List.mem_cons.1 hv with h | h
      · exact absurd (by rw [← h]) hne
      · exact h
    · have hall : ∀ y ∈ r, ¬ y.1 < x := fun y hy => by have := hr.1 y hy; omega
      have e0 : ((z :: r).map (·.1)).countP (· < x) = 0 := by
        rw [List.countP_eq_zero]
        intro y hy
        obtain ⟨q, hq, rfl⟩ := List.mem_map.1 hy
        rcases List.mem_cons.1 hq with rfl | hq
        · simpa using hz
        · simpa using hall q hq
      have hf : (z :: r).filter (fun p => decide (p.1 < x)) = [] := by
        rw [List.filter_eq_nil_iff]
        intro q hq
        rcases List.mem_cons.1 hq with rfl | hq
        · simpa using hz
        · simpa using hall q hq
      rw [e0, hf]
      refine ⟨by simp, fun hn => ?_, fun v hv => ?_⟩
      · symm
        rw [List.drop_zero, List.filter_eq_self]
        intro q hq
        have : x ≠ q.1 := fun e => hn (by rw [e]; exact List.mem_map.2 ⟨q, hq, rfl⟩)
        have h4 : ¬ q.1 < x := by
          rcases List.mem_cons.1 hq with rfl | hq
          · exact hz
          · exact hall q hq
        simp; omega
      · rw [List.drop_zero]
        rcases List.mem_cons.1 hv with h | h
        · subst h
          congr 1
          rw [List.filter_cons_of_neg (by simp)]
          symm
          rw [List.filter_eq_self]
          intro q hq
          have := hr.1 q hq
          simpa using this
        · have := hr.1 _ h
          simp only at this
          omega
end Go.Proofs.YtochpdailleilaaGreatDoor
