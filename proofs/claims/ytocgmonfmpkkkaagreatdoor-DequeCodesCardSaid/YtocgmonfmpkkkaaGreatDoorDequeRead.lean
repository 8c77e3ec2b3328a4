/-
  quash/deque.Read, quash/quashref20.Read: every call over a slice that reads as a list. No condition.
-/
import Derived.Test.YtocgmonfmpkkkaaGreatDoorDequeDo
namespace Go.Proofs.YtocgmonfmpkkkaaGreatDoor
open Go.RowKit
set_option maxRecDepth 100000

/-- what a deque's cells hold, the first m of it -/
def ringL (zs : List Int) (base f n m : Nat) : List Int := (List.range m).map fun i => zs.getD (base + 2 + (f + i) % n) 0
theorem ringL_succ (zs : List Int) (base f n m : Nat) : ringL zs base f n (m + 1) = ringL zs base f n m ++ [zs.getD (base + 2 + (f + m) % n) 0] := by
  simp [ringL, List.range_succ]
theorem ringL_length (zs : List Int) (base f n m : Nat) : (ringL zs base f n m).length = m := by simp [ringL]
def fitB (zs : List Int) (base n : Int) : Bool := decide (roomI n ≠ 0) && decide (0 ≤ base) && decide (base + roomI n ≤ zs.length)
def formB (zs : List Int) (base n : Nat) : Bool := decide (0 ≤ zs.getD base 0) && decide (zs.getD base 0 < n) && decide (0 ≤ zs.getD (base + 1) 0) && decide (zs.getD (base + 1) 0 ≤ n)
/-- what Read answers -/
def ringS (zs : List Int) (base n : Int) : List Int × Int :=
  if fitB zs base n then
    if formB zs base.toNat n.toNat then (ringL zs base.toNat (zs.getD base.toNat 0).toNat n.toNat (zs.getD (base.toNat + 1) 0).toNat, 0) else ([], 201)
  else ([], 200)
def RingDoes (D : List Int) (code : Int) (w : World) (e : Ending) (w' : World) : Prop :=
  ∃ v, e = .returned (.tuple #[v, .int .i64 code]) ∧ Own w' w.heap.size v D ∧ Below w.heap.size w w'
set_option maxHeartbeats 1000000 in
theorem Read_nofit (ao : Option Addr) (c : Nat) (zs : List Int) (base n : Int) (w : World) (_hlen : zs.length ≤ maxLen) (hno : fitB zs base n = false) :
    Calls Tryz.prog 11 #[.slice ao zs.length c, .int .i64 base, .int .i64 n] w (RingDoes [] 200 w) := by
  unfold maxLen at _hlen
  by_cases h0 : roomI n = 0
  · have HR := Lib.hid h0
    clear hno h0
    go_enter Tryz.func11, Tryz.ntmps11
    go_wp2_with (go_at_call 20; go_must (refine (Room_any n _).mono ?_; rintro e w3 ⟨rfl, rfl⟩; rw [HR.out]))
    go_ret2
    exact ⟨_, rfl, Own.nil _ _, Below.refl _ _⟩
  have hn := roomI_yes h0
  have HR := Lib.hid hn.1
  have hn0 : (2 + n == 0) = false := by have := hn.2; simp; omega
  have hno' : ¬ (0 ≤ base ∧ base + (2 + n) ≤ zs.length) := by
    simp [fitB, hn.1] at hno
    intro h
    have := hno (by omega) h.1
    omega
  have hn1 := hn.2.1
  have hn2 := hn.2.2
  clear hno h0 hn
  by_cases h1 : base < 0
  · clear hno'
    go_enter Tryz.func11, Tryz.ntmps11
    go_wp2_with (go_at_call 20; go_must (refine (Room_any n _).mono ?_; rintro e w3 ⟨rfl, rfl⟩; rw [HR.out]))
    go_ret2
    exact ⟨_, rfl, Own.nil _ _, Below.refl _ _⟩
  · by_cases h2 : (zs.length : Int) < base
    · clear hno'
      have h1' : ¬ base < 0 := h1
      go_enter Tryz.func11, Tryz.ntmps11
      go_wp2_with (go_at_call 20; go_must (refine (Room_any n _).mono ?_; rintro e w3 ⟨rfl, rfl⟩; rw [HR.out]))
      go_ret2
      exact ⟨_, rfl, Own.nil _ _, Below.refl _ _⟩
    · have h3 : (zs.length : Int) - base < 2 + n := by omega
      have h4 : 0 ≤ base := by omega
      have h5 : base ≤ zs.length := by omega
      clear hno'
      go_enter Tryz.func11, Tryz.ntmps11
      go_wp2_with (go_at_call 20; go_must (refine (Room_any n _).mono ?_; rintro e w3 ⟨rfl, rfl⟩; rw [HR.out]))
      go_ret2
      exact ⟨_, rfl, Own.nil _ _, Below.refl _ _⟩
theorem fit_parts {zs : List Int} {base n : Int} (h : fitB zs base n = true) : ∃ k N : Nat, base = k ∧ n = N ∧ 1 ≤ N ∧ N ≤ 100 ∧ k + (2 + N) ≤ zs.length ∧ roomI n = 2 + n := by
  simp only [fitB, Bool.and_eq_true, decide_eq_true_eq] at h
  obtain ⟨⟨h1, h2⟩, h3⟩ := h
  have hn := roomI_yes h1
  rw [hn.1] at h3
  exact ⟨base.toNat, n.toNat, by omega, by omega, by omega, by omega, by omega, hn.1⟩
/-- the cells that a walk looks at -/
theorem seen_at {w : World} {b o : Nat} {zs : List Int} (hs : Sees w (some ⟨b, o, none⟩) zs) (j : Nat) (hj : j < zs.length) : w.cell? ⟨b, o + j, none⟩ = some (.int .i64 (zs.getD j 0)) := by
  obtain ⟨b', o', h1, h2⟩ := hs
  have := h1 (by intro e; subst e; simp at hj)
  injection this with this
  injection this with e1 e2
  subst e1; subst e2
  exact h2 j hj
set_option maxHeartbeats 2000000 in
theorem Read_form (b o c : Nat) (zs : List Int) (k N : Nat) (w : World) (hlen : zs.length ≤ maxLen) (hcap : zs.length ≤ c) (_hc63 : c ≤ maxLen) (hs : Sees w (some ⟨b, o, none⟩) zs) (h1 : 1 ≤ N) (h100 : N ≤ 100) (hfit : k + (2 + N) ≤ zs.length) (hno : formB zs k N = false) :
    Calls Tryz.prog 11 #[.slice (some ⟨b, o, none⟩) zs.length c, .int .i64 k, .int .i64 N] w (RingDoes [] 201 w) := by
  unfold maxLen at hlen _hc63
  have HR := Lib.hid (show roomI N = 2 + N by unfold roomI; rw [if_pos ⟨by omega, by omega⟩])
  have hn0 : (2 + (N : Int) == 0) = false := by simp; omega
  have g1 : ¬ (k : Int) < 0 := by omega
  have g2 : ¬ (zs.length : Int) < (k : Int) := by omega
  have g3 : ¬ (zs.length : Int) - (k : Int) < 2 + (N : Int) := by omega
  have q0 := seen_at hs k (by omega)
  have q1 := seen_at hs (k + 1) (by omega)
  rw [← Nat.add_assoc] at q1
  obtain ⟨f, hf⟩ : ∃ f, f = zs.getD k 0 := ⟨_, rfl⟩
  obtain ⟨m, hm⟩ : ∃ m, m = zs.getD (k + 1) 0 := ⟨_, rfl⟩
  obtain ⟨L, hL⟩ : ∃ L, L = zs.length := ⟨_, rfl⟩
  have hno' : ¬ (0 ≤ f ∧ f < N ∧ 0 ≤ m ∧ m ≤ N) := by
    rintro ⟨a1, a2, a3, a4⟩
    simp [formB] at hno
    rw [List.getD_eq_getElem?_getD] at hf hm
    omega
  rw [← hf] at q0
  rw [← hm] at q1
  rw [← hL] at hlen hcap hfit g2 g3 ⊢
  clear hs hno hf hm hL
  by_cases f1 : f < 0
  · clear hno'
    go_enter Tryz.func11, Tryz.ntmps11
    go_wp2_with (go_at_call 20; go_must (refine (Room_any N _).mono ?_; rintro e w3 ⟨rfl, rfl⟩; rw [HR.out]))
    go_ret2
    exact ⟨_, rfl, Own.nil _ _, Below.refl _ _⟩
  by_cases f2 : (N : Int) ≤ f
  · clear hno'
    go_enter Tryz.func11, Tryz.ntmps11
    go_wp2_with (go_at_call 20; go_must (refine (Room_any N _).mono ?_; rintro e w3 ⟨rfl, rfl⟩; rw [HR.out]))
    go_ret2
    exact ⟨_, rfl, Own.nil _ _, Below.refl _ _⟩
  by_cases m1 : m < 0
  · clear hno'
    go_enter Tryz.func11, Tryz.ntmps11
    go_wp2_with (go_at_call 20; go_must (refine (Room_any N _).mono ?_; rintro e w3 ⟨rfl, rfl⟩; rw [HR.out]))
    go_ret2
    exact ⟨_, rfl, Own.nil _ _, Below.refl _ _⟩
  · have m2 : (N : Int) < m := by omega
    clear hno'
    go_enter Tryz.func11, Tryz.ntmps11
    go_wp2_with (go_at_call 20; go_must (refine (Room_any N _).mono ?_; rintro e w3 ⟨rfl, rfl⟩; rw [HR.out]))
    go_ret2
    exact ⟨_, rfl, Own.nil _ _, Below.refl _ _⟩
theorem form_parts {zs : List Int} {k N : Nat} (h : formB zs k N = true) : ∃ F M : Nat, zs.getD k 0 = F ∧ zs.getD (k + 1) 0 = M ∧ F < N ∧ M ≤ N := by
  simp only [formB, Bool.and_eq_true, decide_eq_true_eq] at h
  obtain ⟨⟨⟨h1, h2⟩, h3⟩, h4⟩ := h
  exact ⟨(zs.getD k 0).toNat, (zs.getD (k + 1) 0).toNat, by omega, by omega, by omega, by omega⟩
set_option maxHeartbeats 2000000 in
theorem Read_yes (b o c : Nat) (zs : List Int) (k N : Nat) (w : World) (hlen : zs.length ≤ maxLen) (hcap : zs.length ≤ c) (_hc63 : c ≤ maxLen) (hs : Sees w (some ⟨b, o, none⟩) zs) (h1 : 1 ≤ N) (h100 : N ≤ 100) (hfit : k + (2 + N) ≤ zs.length) (F M : Nat) (hF : zs.getD k 0 = F) (hM : zs.getD (k + 1) 0 = M) (hFN : F < N) (hMN : M ≤ N) :
    Calls Tryz.prog 11 #[.slice (some ⟨b, o, none⟩) zs.length c, .int .i64 k, .int .i64 N] w (RingDoes (ringL zs k F N M) 0 w) := by
  unfold maxLen at hlen _hc63
  have HR := Lib.hid (show roomI N = 2 + N by unfold roomI; rw [if_pos ⟨by omega, by omega⟩])
  have hn0 : (2 + (N : Int) == 0) = false := by simp; omega
  have g1 : ¬ (k : Int) < 0 := by omega
  have g2 : ¬ (zs.length : Int) < (k : Int) := by omega
  have g3 : ¬ (zs.length : Int) - (k : Int) < 2 + (N : Int) := by omega
  have q0 := seen_at hs k (by omega)
  have q1 := seen_at hs (k + 1) (by omega)
  rw [← Nat.add_assoc] at q1
  rw [hF] at q0
  rw [hM] at q1
  have HS := Lib.hid hs
  have HFIT := Lib.hid hfit
  obtain ⟨L, hL⟩ : ∃ L, L = zs.length := ⟨_, rfl⟩
  rw [← hL] at hlen hcap hfit g2 g3 ⊢
  have HL := Lib.hid hL
  have d1 : decide (N ≤ F) = false := by simp; omega
  have d2 : decide (N < M) = false := by simp; omega
  have d3 : decide ((F : Int) < 0) = false := by simp
  have d4 : decide ((M : Int) < 0) = false := by simp
  have f1 : ¬ (F : Int) < 0 := by omega
  have f2 : ¬ (N : Int) ≤ (F : Int) := by omega
  have f3 : ¬ (M : Int) < 0 := by omega
  have f4 : ¬ (N : Int) < (M : Int) := by omega
  have d5 : decide (L < k) = false := by simp; omega
  have d6 : decide ((L : Int) - (k : Int) < 2 + (N : Int)) = false := by simp; omega
  have d7 : decide ((k : Int) < 0) = false := by simp
  clear hs hL hF hM
  go_enter Tryz.func11, Tryz.ntmps11
  go_wp2_with (go_at_call 20; go_must (refine (Room_any N _).mono ?_; rintro e w3 ⟨rfl, rfl⟩; rw [HR.out]))
  simp only [Nat.add_sub_cancel_left]
  go_loopw [9, 66] (fun v u wr => ∃ j : Nat, j ≤ M ∧ u = .int .i64 j ∧ Own wr w3.heap.size v (ringL zs k F N j) ∧ Below w3.heap.size w3 wr) (fun _ u _ => M - (intOf u).toNat)
  case atStart => exact ⟨0, Nat.zero_le _, rfl, Own.nil _ _, Below.refl _ _⟩
  case round =>
    obtain ⟨j, hj, rfl, hown, hB⟩ := hrel
    obtain ⟨ao, c', rfl, _, _⟩ := hown.slice
    rw [ringL_length] at hown ⊢
    by_cases hlt : j < M
    · obtain ⟨r, hr⟩ : ∃ r, r = (F + j) % N := ⟨_, rfl⟩
      have hrN : r < N := by rw [hr]; exact Nat.mod_lt _ (by omega)
      have hri : ((F : Int) + (j : Int)) % (N : Int) = (r : Int) := by rw [show (F : Int) + (j : Int) = ((F + j : Nat) : Int) by omega, hr]; rfl
      have hq := seen_at (HS.out.below (w' := wr) hB) (k + 2 + r) (by have := HFIT.out; omega)
      rw [show o + (k + 2 + r) = o + k + (2 + r) by omega] at hq
      have q0' : wr.cell? ⟨b, o + k, none⟩ = some (.int .i64 F) := (hB.cell (p := ⟨b, _, none⟩) (block_lt_of_cell q0)).trans q0
      have hz : w3.heap.size ≤ wr.heap.size := hB.size
      have HOWN := Lib.hid hown
      have HSUC := Lib.hid (ringL_succ zs k F N j)
      rw [← hr] at HSUC
      have hln : (ringL zs k F N j).length = j := ringL_length _ _ _ _ _
      have HLN := Lib.hid hln
      generalize zs.getD (k + 2 + r) 0 = z at hq HSUC
      clear hown hr hln
      go_wp2_with (at_builtin; refine wpList_append64 (HOWN.out.below ((Below.refl _ _).alloc (Nat.le_refl _) _)) (by simp; omega) (some ⟨wr.heap.size, 0, none⟩) 1 1 [z] rfl (sees_one (heap_new _ _ _ rfl)) (fun h => by cases h) (by rw [HLN.out]; simp; omega) rfl _ _ rfl rfl rfl ?_; intro v5 w5 hown5 hgrow5)
      go_roundw
      case rel =>
        have hr1 : Own w5 w3.heap.size v5 (ringL zs k F N (j + 1)) := by rw [HSUC.out]; exact hown5
        have hr2 : Below w3.heap.size w3 w5 := (hB.alloc hz _).grown hgrow5 (by simp; omega) (fun k' hk => own_ge HOWN.out hk)
        exact ⟨j + 1, by omega, by go_num, hr1, hr2⟩
      case measure => simp [intOf]; omega
    · obtain rfl : j = M := by omega
      go_wp2
      go_ret2
      have h := hown
      exact ⟨_, rfl, h, hB⟩
/-- every Read of a slice that is not nil -/
theorem Read_any (b o m c : Nat) (zs : List Int) (base n : Int) (w : World) (hm : zs.length = m) (hlen : m ≤ maxLen) (hcap : m ≤ c) (hc63 : c ≤ maxLen) (hs : Sees w (some ⟨b, o, none⟩) zs) :
    Calls Tryz.prog 11 #[.slice (some ⟨b, o, none⟩) m c, .int .i64 base, .int .i64 n] w (RingDoes (ringS zs base n).1 (ringS zs base n).2 w) := by
  subst hm
  unfold ringS
  cases hf : fitB zs base n with
  | false => exact Read_nofit _ c zs base n w hlen hf
  | true =>
    obtain ⟨k, N, rfl, rfl, h1, h2, h3, _⟩ := fit_parts hf
    simp only [if_true, Int.toNat_natCast]
    cases hg : formB zs k N with
    | false => exact Read_form b o c zs k N w hlen hcap hc63 hs h1 h2 h3 hg
    | true =>
      obtain ⟨F, M, hF, hM, h4, h5⟩ := form_parts hg
      have := Read_yes b o c zs k N w hlen hcap hc63 hs h1 h2 h3 F M hF hM h4 h5
      rw [hF, hM]
      exact this
end Go.Proofs.YtocgmonfmpkkkaaGreatDoor
