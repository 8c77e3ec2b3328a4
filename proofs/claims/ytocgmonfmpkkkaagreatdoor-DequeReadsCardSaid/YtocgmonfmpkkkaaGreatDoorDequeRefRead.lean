/-
  quash/quashref20.Read: every call over a slice that reads as a list. No condition.
-/
import Derived.Test.YtocgmonfmpkkkaaGreatDoorDequeRead
namespace Go.Proofs.YtocgmonfmpkkkaaGreatDoor
open Go.RowKit
set_option maxRecDepth 100000

def RefRing (D : List Int) (code : Int) (w : World) (e : Ending) (w' : World) : Prop :=
  ∃ ao c, e = .returned (.tuple #[.slice ao D.length c, .int .i64 code]) ∧ Sees w' ao D ∧ Below w.heap.size w w'
set_option maxHeartbeats 1000000 in
theorem refRead_nofit (ao : Option Addr) (c : Nat) (zs : List Int) (base n : Int) (w : World) (_hlen : zs.length ≤ maxLen) (hno : fitB zs base n = false) :
    Calls Tryz.prog 12 #[.slice ao zs.length c, .int .i64 base, .int .i64 n] w (RefRing [] 200 w) := by
  unfold maxLen at _hlen
  by_cases h0 : roomI n = 0
  · have HR := Lib.hid h0
    clear hno h0
    go_enter Tryz.func12, Tryz.ntmps12
    go_wp2_with (go_at_call 14; go_must (refine (refRoom_any n _).mono ?_; rintro e w3 ⟨rfl, rfl⟩; rw [HR.out]))
    go_ret2
    exact ⟨_, _, rfl, Sees.nil _ _, Below.refl _ _⟩
  have hn := roomI_yes h0
  have HR := Lib.hid hn.1
  have hn0 : (2 + n == 0) = false := by have := hn.2; simp; omega
  have hno' : ¬ (0 ≤ base ∧ base + (2 + n) ≤ zs.length) := by
    simp [fitB, hn.1] at hno
    intro h
    have := hno (by omega) h.1
    omega
  have hn1 := hn.2.1
  have hn2 := hn.2.2
  clear hno h0 hn
  by_cases h1 : base < 0
  · clear hno'
    go_enter Tryz.func12, Tryz.ntmps12
    go_wp2_with (go_at_call 14; go_must (refine (refRoom_any n _).mono ?_; rintro e w3 ⟨rfl, rfl⟩; rw [HR.out]))
    go_ret2
    exact ⟨_, _, rfl, Sees.nil _ _, Below.refl _ _⟩
  · by_cases h2 : (zs.length : Int) < base
    · clear hno'
      have h1' : ¬ base < 0 := h1
      go_enter Tryz.func12, Tryz.ntmps12
      go_wp2_with (go_at_call 14; go_must (refine (refRoom_any n _).mono ?_; rintro e w3 ⟨rfl, rfl⟩; rw [HR.out]))
      go_ret2
      exact ⟨_, _, rfl, Sees.nil _ _, Below.refl _ _⟩
    · have h3 : (zs.length : Int) - base < 2 + n := by omega
      have h4 : 0 ≤ base := by omega
      have h5 : base ≤ zs.length := by omega
      clear hno'
      go_enter Tryz.func12, Tryz.ntmps12
      go_wp2_with (go_at_call 14; go_must (refine (refRoom_any n _).mono ?_; rintro e w3 ⟨rfl, rfl⟩; rw [HR.out]))
      go_ret2
      exact ⟨_, _, rfl, Sees.nil _ _, Below.refl _ _⟩
set_option maxHeartbeats 2000000 in
theorem refRead_form (b o c : Nat) (zs : List Int) (k N : Nat) (w : World) (hlen : zs.length ≤ maxLen) (_hcap : zs.length ≤ c) (_hc63 : c ≤ maxLen) (hs : Sees w (some ⟨b, o, none⟩) zs) (h1 : 1 ≤ N) (h100 : N ≤ 100) (hfit : k + (2 + N) ≤ zs.length) (hno : formB zs k N = false) :
    Calls Tryz.prog 12 #[.slice (some ⟨b, o, none⟩) zs.length c, .int .i64 k, .int .i64 N] w (RefRing [] 201 w) := by
  unfold maxLen at hlen _hc63
  have HR := Lib.hid (show roomI N = 2 + N by unfold roomI; rw [if_pos ⟨by omega, by omega⟩])
  have hn0 : (2 + (N : Int) == 0) = false := by simp; omega
  have g1 : ¬ (k : Int) < 0 := by omega
  have g2 : ¬ (zs.length : Int) < (k : Int) := by omega
  have g3 : ¬ (zs.length : Int) - (k : Int) < 2 + (N : Int) := by omega
  have q0 := seen_at hs k (by omega)
  have q1 := seen_at hs (k + 1) (by omega)
  obtain ⟨f, hf⟩ : ∃ f, f = zs.getD k 0 := ⟨_, rfl⟩
  obtain ⟨m, hm⟩ : ∃ m, m = zs.getD (k + 1) 0 := ⟨_, rfl⟩
  obtain ⟨L, hL⟩ : ∃ L, L = zs.length := ⟨_, rfl⟩
  have hno' : ¬ (0 ≤ f ∧ f < N ∧ 0 ≤ m ∧ m ≤ N) := by
    rintro ⟨a1, a2, a3, a4⟩
    simp [formB] at hno
    rw [List.getD_eq_getElem?_getD] at hf hm
    omega
  rw [← hf] at q0
  rw [← hm] at q1
  rw [← hL] at hlen _hcap hfit g2 g3 ⊢
  clear hs hno hf hm hL
  by_cases f1 : f < 0
  · clear hno'
    go_enter Tryz.func12, Tryz.ntmps12
    go_wp2_with (go_at_call 14; go_must (refine (refRoom_any N _).mono ?_; rintro e w3 ⟨rfl, rfl⟩; rw [HR.out]))
    go_ret2
    exact ⟨_, _, rfl, Sees.nil _ _, Below.refl _ _⟩
  by_cases f2 : (N : Int) ≤ f
  · clear hno'
    go_enter Tryz.func12, Tryz.ntmps12
    go_wp2_with (go_at_call 14; go_must (refine (refRoom_any N _).mono ?_; rintro e w3 ⟨rfl, rfl⟩; rw [HR.out]))
    go_ret2
    exact ⟨_, _, rfl, Sees.nil _ _, Below.refl _ _⟩
  by_cases m1 : m < 0
  · clear hno'
    go_enter Tryz.func12, Tryz.ntmps12
    go_wp2_with (go_at_call 14; go_must (refine (refRoom_any N _).mono ?_; rintro e w3 ⟨rfl, rfl⟩; rw [HR.out]))
    go_ret2
    exact ⟨_, _, rfl, Sees.nil _ _, Below.refl _ _⟩
  · have m2 : (N : Int) < m := by omega
    clear hno'
    go_enter Tryz.func12, Tryz.ntmps12
    go_wp2_with (go_at_call 14; go_must (refine (refRoom_any N _).mono ?_; rintro e w3 ⟨rfl, rfl⟩; rw [HR.out]))
    go_ret2
    exact ⟨_, _, rfl, Sees.nil _ _, Below.refl _ _⟩
theorem Own.sees {w : World} {B n c : Nat} {ao : Option Addr} {zs : List Int} (h : Own w B (.slice ao n c) zs) : Sees w ao zs := by
  rcases h.form with ⟨_, rfl⟩ | ⟨g, cap, h1, h2⟩
  · exact Sees.nil _ _
  · injection h1 with h3 _ _
    subst h3
    exact h2.sees
theorem mod_step {F j N r : Nat} (h1 : 1 ≤ N) (hr : r = (F + j) % N) : (F + (j + 1)) % N = if r + 1 = N then 0 else r + 1 := by
  have hrN : r < N := by rw [hr]; exact Nat.mod_lt _ (by omega)
  have e : (F + (j + 1)) % N = (r + 1) % N := by rw [hr, Nat.add_mod ((F + j) % N) 1 N, Nat.mod_mod, ← Nat.add_mod, Nat.add_assoc]
  rw [e]
  split
  · rename_i h; rw [h, Nat.mod_self]
  · exact Nat.mod_eq_of_lt (by omega)
set_option maxHeartbeats 4000000 in
theorem refRead_yes (b o c : Nat) (zs : List Int) (k N : Nat) (w : World) (hlen : zs.length ≤ maxLen) (_hcap : zs.length ≤ c) (_hc63 : c ≤ maxLen) (hs : Sees w (some ⟨b, o, none⟩) zs) (h1 : 1 ≤ N) (h100 : N ≤ 100) (hfit : k + (2 + N) ≤ zs.length) (F M : Nat) (hF : zs.getD k 0 = F) (hM : zs.getD (k + 1) 0 = M) (hFN : F < N) (hMN : M ≤ N) :
    Calls Tryz.prog 12 #[.slice (some ⟨b, o, none⟩) zs.length c, .int .i64 k, .int .i64 N] w (RefRing (ringL zs k F N M) 0 w) := by
  unfold maxLen at hlen _hc63
  have HR := Lib.hid (show roomI N = 2 + N by unfold roomI; rw [if_pos ⟨by omega, by omega⟩])
  have hn0 : (2 + (N : Int) == 0) = false := by simp; omega
  have g1 : ¬ (k : Int) < 0 := by omega
  have g2 : ¬ (zs.length : Int) < (k : Int) := by omega
  have g3 : ¬ (zs.length : Int) - (k : Int) < 2 + (N : Int) := by omega
  have q0 := seen_at hs k (by omega)
  have q1 := seen_at hs (k + 1) (by omega)
  rw [hF] at q0
  rw [hM] at q1
  have HS := Lib.hid hs
  have HFIT := Lib.hid hfit
  obtain ⟨L, hL⟩ : ∃ L, L = zs.length := ⟨_, rfl⟩
  rw [← hL] at hlen _hcap hfit g2 g3 ⊢
  have HL := Lib.hid hL
  have d1 : decide (N ≤ F) = false := by simp; omega
  have d2 : decide (N < M) = false := by simp; omega
  have d3 : decide ((F : Int) < 0) = false := by simp
  have d4 : decide ((M : Int) < 0) = false := by simp
  have d5 : decide (L < k) = false := by simp; omega
  have d6 : decide ((L : Int) - (k : Int) < 2 + (N : Int)) = false := by simp; omega
  have d7 : decide ((k : Int) < 0) = false := by simp
  have f1 : ¬ (F : Int) < 0 := by omega
  have f2 : ¬ (N : Int) ≤ (F : Int) := by omega
  have f3 : ¬ (M : Int) < 0 := by omega
  have f4 : ¬ (N : Int) < (M : Int) := by omega
  clear hs hL hF hM
  go_enter Tryz.func12, Tryz.ntmps12
  go_wp2_with (go_at_call 14; go_must (refine (refRoom_any N _).mono ?_; rintro e w3 ⟨rfl, rfl⟩; rw [HR.out]))
  go_loopw [11, 12, 13] (fun v t u wr => ∃ j : Nat, j ≤ M ∧ u = .int .i64 j ∧ t = .int .i64 ((F + j) % N : Nat) ∧ Own wr w3.heap.size v (ringL zs k F N j) ∧ Below w3.heap.size w3 wr) (fun _ _ u _ => M - (intOf u).toNat)
  case atStart => exact ⟨0, Nat.zero_le _, rfl, by rw [Nat.add_zero, Nat.mod_eq_of_lt hFN], Own.nil _ _, Below.refl _ _⟩
  case round =>
    obtain ⟨j, hj, rfl, rfl, hown, hB⟩ := hrel
    obtain ⟨ao, c', rfl, _, _⟩ := hown.slice
    rw [ringL_length] at hown ⊢
    obtain ⟨r, hr⟩ : ∃ r, r = (F + j) % N := ⟨_, rfl⟩
    have hrN : r < N := by rw [hr]; exact Nat.mod_lt _ (by omega)
    have HST := Lib.hid (mod_step h1 hr)
    rw [← hr]
    by_cases hlt : j < M
    · have hq := seen_at (HS.out.below (w' := wr) hB) (k + 2 + r) (by have := HFIT.out; omega)
      have hz : w3.heap.size ≤ wr.heap.size := hB.size
      have HOWN := Lib.hid hown
      have HSUC := Lib.hid (ringL_succ zs k F N j)
      rw [← hr] at HSUC
      have hln : (ringL zs k F N j).length = j := ringL_length _ _ _ _ _
      have HLN := Lib.hid hln
      generalize zs.getD (k + 2 + r) 0 = z at hq HSUC
      clear hown hr hln
      have hb1 : (k : Int) + 2 + (r : Int) < (L : Int) := by omega
      by_cases hw : r + 1 = N
      · have hw' : ((r : Int) + 1 == (N : Int)) = true := by simp; omega
        go_wp2_with (at_builtin; refine wpList_append64 (HOWN.out.below ((Below.refl _ _).alloc (Nat.le_refl _) _)) (by simp; omega) (some ⟨wr.heap.size, 0, none⟩) 1 1 [z] rfl (sees_one (heap_new _ _ _ rfl)) (fun h => by cases h) (by rw [HLN.out]; simp; omega) rfl _ _ rfl rfl rfl ?_; intro v5 w5 hown5 hgrow5)
        go_roundw
        case rel => exact ⟨j + 1, by omega, by go_num, by rw [HST.out, if_pos hw]; rfl, by rw [HSUC.out]; exact hown5, (hB.alloc hz _).grown hgrow5 (by simp; omega) (fun k' hk => own_ge HOWN.out hk)⟩
        case measure => simp [intOf]; omega
      · have hw' : ((r : Int) + 1 == (N : Int)) = false := by simp; omega
        go_wp2_with (at_builtin; refine wpList_append64 (HOWN.out.below ((Below.refl _ _).alloc (Nat.le_refl _) _)) (by simp; omega) (some ⟨wr.heap.size, 0, none⟩) 1 1 [z] rfl (sees_one (heap_new _ _ _ rfl)) (fun h => by cases h) (by rw [HLN.out]; simp; omega) rfl _ _ rfl rfl rfl ?_; intro v5 w5 hown5 hgrow5)
        go_roundw
        case rel => exact ⟨j + 1, by omega, by go_num, by rw [HST.out, if_neg hw]; go_num, by rw [HSUC.out]; exact hown5, (hB.alloc hz _).grown hgrow5 (by simp; omega) (fun k' hk => own_ge HOWN.out hk)⟩
        case measure => simp [intOf]; omega
    · obtain rfl : j = M := by omega
      go_wp2
      go_ret2
      have h := hown
      refine ⟨ao, c', ?_, h.sees, hB⟩
      rw [ringL_length]
      rfl
/-- every Read of a slice that is not nil -/
theorem refRead_any (b o m c : Nat) (zs : List Int) (base n : Int) (w : World) (hm : zs.length = m) (hlen : m ≤ maxLen) (hcap : m ≤ c) (hc63 : c ≤ maxLen) (hs : Sees w (some ⟨b, o, none⟩) zs) :
    Calls Tryz.prog 12 #[.slice (some ⟨b, o, none⟩) m c, .int .i64 base, .int .i64 n] w (RefRing (ringS zs base n).1 (ringS zs base n).2 w) := by
  subst hm
  unfold ringS
  cases hf : fitB zs base n with
  | false => exact refRead_nofit _ c zs base n w hlen hf
  | true =>
    obtain ⟨k, N, rfl, rfl, h1, h2, h3, _⟩ := fit_parts hf
    simp only [if_true, Int.toNat_natCast]
    cases hg : formB zs k N with
    | false => exact refRead_form b o c zs k N w hlen hcap hc63 hs h1 h2 h3 hg
    | true =>
      obtain ⟨F, M, hF, hM, h4, h5⟩ := form_parts hg
      have := refRead_yes b o c zs k N w hlen hcap hc63 hs h1 h2 h3 F M hF hM h4 h5
      rw [hF, hM]
      exact this
end Go.Proofs.YtocgmonfmpkkkaaGreatDoor
