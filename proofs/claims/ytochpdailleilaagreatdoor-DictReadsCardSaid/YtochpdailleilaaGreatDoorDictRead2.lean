/-
  quash/dict.Read: every call over a slice that reads as a list. Condition: the cells' numbers are int64.
-/
import Derived.Test.YtochpdailleilaaGreatDoorDictRead
namespace Go.Proofs.YtochpdailleilaaGreatDoor
open Go.RowKit
set_option maxRecDepth 100000

def fitB (zs : List Int) (base n : Int) : Bool := decide (roomI n ≠ 0) && decide (0 ≤ base) && decide (base + roomI n ≤ zs.length)
/-- the entries of a dict's cells -/
def entsZ (zs : List Int) (k N : Nat) : Option (List (Int × Int)) := readZ (fun i => zs.getD (k + (1 + 3 * i)) 0) (fun i => zs.getD (k + (2 + 3 * i)) 0) (fun i => zs.getD (k + (3 + 3 * i)) 0) N (zs.getD k 0)
/-- what Read answers -/
def dictS (zs : List Int) (base n : Int) : List (Int × Int) × Int :=
  if fitB zs base n then
    match entsZ zs base.toNat n.toNat with
    | some l => (l, 0)
    | none => ([], 191)
  else ([], 190)
def KeysDoes (D : List (Int × Int)) (code : Int) (w : World) (e : Ending) (w' : World) : Prop :=
  ∃ v, e = .returned (.tuple #[v, .int .i64 code]) ∧ OwnE w' w.heap.size v D ∧ Below w.heap.size w w'
set_option maxHeartbeats 1000000 in
theorem Read_nofit (ao : Option Addr) (c : Nat) (zs : List Int) (base n : Int) (w : World) (_hlen : zs.length ≤ maxLen) (hno : fitB zs base n = false) :
    Calls Tryz.prog 11 #[.slice ao zs.length c, .int .i64 base, .int .i64 n] w (KeysDoes [] 190 w) := by
  unfold maxLen at _hlen
  by_cases h0 : roomI n = 0
  · have HR := Lib.hid h0
    clear hno h0
    go_enter Tryz.func11, Tryz.ntmps11
    go_wp2_with (go_at_call 21; go_must (refine (Room_any n _).mono ?_; rintro e w3 ⟨rfl, rfl⟩; rw [HR.out]))
    go_ret2
    exact ⟨_, rfl, OwnE.nil _ _, Below.refl _ _⟩
  have hn := roomI_yes h0
  have HR := Lib.hid hn.1
  have hn0 : (1 + 3 * n == 0) = false := by have := hn.2; simp; omega
  have hno' : ¬ (0 ≤ base ∧ base + (1 + 3 * n) ≤ zs.length) := by
    simp [fitB, hn.1] at hno
    intro h
    have := hno (by omega) h.1
    omega
  have hn1 := hn.2.1
  have hn2 := hn.2.2
  clear hno h0 hn
  by_cases h1 : base < 0
  · clear hno'
    go_enter Tryz.func11, Tryz.ntmps11
    go_wp2_with (go_at_call 21; go_must (refine (Room_any n _).mono ?_; rintro e w3 ⟨rfl, rfl⟩; rw [HR.out]))
    go_ret2
    exact ⟨_, rfl, OwnE.nil _ _, Below.refl _ _⟩
  · by_cases h2 : (zs.length : Int) < base
    · clear hno'
      have h1' : ¬ base < 0 := h1
      go_enter Tryz.func11, Tryz.ntmps11
      go_wp2_with (go_at_call 21; go_must (refine (Room_any n _).mono ?_; rintro e w3 ⟨rfl, rfl⟩; rw [HR.out]))
      go_ret2
      exact ⟨_, rfl, OwnE.nil _ _, Below.refl _ _⟩
    · have h3 : (zs.length : Int) - base < 1 + 3 * n := by omega
      have h4 : 0 ≤ base := by omega
      have h5 : base ≤ zs.length := by omega
      clear hno'
      go_enter Tryz.func11, Tryz.ntmps11
      go_wp2_with (go_at_call 21; go_must (refine (Room_any n _).mono ?_; rintro e w3 ⟨rfl, rfl⟩; rw [HR.out]))
      go_ret2
      exact ⟨_, rfl, OwnE.nil _ _, Below.refl _ _⟩
theorem fit_parts {zs : List Int} {base n : Int} (h : fitB zs base n = true) : ∃ k N : Nat, base = k ∧ n = N ∧ 1 ≤ N ∧ N ≤ 60 ∧ k + (1 + 3 * N) ≤ zs.length ∧ roomI n = 1 + 3 * n := by
  simp only [fitB, Bool.and_eq_true, decide_eq_true_eq] at h
  obtain ⟨⟨h1, h2⟩, h3⟩ := h
  have hn := roomI_yes h1
  rw [hn.1] at h3
  exact ⟨base.toNat, n.toNat, by omega, by omega, by omega, by omega, by omega, hn.1⟩
/-- the cells that a walk looks at -/
theorem seen_at {w : World} {b o : Nat} {zs : List Int} (hs : Sees w (some ⟨b, o, none⟩) zs) (j : Nat) (hj : j < zs.length) : w.cell? ⟨b, o + j, none⟩ = some (.int .i64 (zs.getD j 0)) := by
  obtain ⟨b', o', h1, h2⟩ := hs
  have := h1 (by intro e; subst e; simp at hj)
  injection this with this
  injection this with e1 e2
  subst e1; subst e2
  exact h2 j hj
set_option maxHeartbeats 2000000 in
theorem Read_fit (b o c : Nat) (zs : List Int) (k N : Nat) (w : World) (hlen : zs.length ≤ maxLen) (hcap : zs.length ≤ c) (hc63 : c ≤ maxLen) (hwf : ∀ z ∈ zs, (Lit.int .i64 z).wf = true) (hs : Sees w (some ⟨b, o, none⟩) zs) (h1 : 1 ≤ N) (h60 : N ≤ 60) (hfit : k + (1 + 3 * N) ≤ zs.length) :
    Calls Tryz.prog 11 #[.slice (some ⟨b, o, none⟩) zs.length c, .int .i64 k, .int .i64 N] w (match entsZ zs k N with | some l => KeysDoes l 0 w | none => KeysDoes [] 191 w) := by
  obtain ⟨ys, hys⟩ : ∃ ys, ys = (zs.drop k).take (1 + 3 * N) := ⟨_, rfl⟩
  have hyl : ys.length = 1 + 3 * N := by rw [hys, List.length_take, List.length_drop]; omega
  have hyd : ∀ j, j < 1 + 3 * N → ys.getD j 0 = zs.getD (k + j) 0 := fun j hj => by
    rw [hys, List.getD_eq_getElem?_getD, List.getD_eq_getElem?_getD, List.getElem?_take, if_pos hj, List.getElem?_drop]
  have hsy : Sees w (some ⟨b, o + k, none⟩) ys := Sees.cells fun j hj => by
    rw [hyd j (by omega), Nat.add_assoc]
    exact seen_at hs (k + j) (by omega)
  have HKO := Lib.hid (entries_go b (o + k) (c - k) ys N w hyl (by omega) hsy (fun z hz => hwf z (by rw [hys] at hz; exact List.mem_of_mem_drop (List.mem_of_mem_take hz))) h1 h60
    (fun i => zs.getD (k + (1 + 3 * i)) 0) (fun i => zs.getD (k + (2 + 3 * i)) 0) (fun i => zs.getD (k + (3 + 3 * i)) 0) (fun i hi => (hyd _ (by omega)).symm) (fun i hi => (hyd _ (by omega)).symm) (fun i hi => (hyd _ (by omega)).symm))
  rw [hyd 0 (by omega), Nat.add_zero] at HKO
  have HKZ := Lib.hid (show readZ (fun i => zs.getD (k + (1 + 3 * i)) 0) (fun i => zs.getD (k + (2 + 3 * i)) 0) (fun i => zs.getD (k + (3 + 3 * i)) 0) N (zs.getD k 0) = entsZ zs k N from rfl)
  clear hys hyl hyd hsy hwf
  unfold maxLen at hlen hc63
  have HR := Lib.hid (show roomI N = 1 + 3 * N by unfold roomI; rw [if_pos ⟨by omega, by omega⟩])
  have hn0 : (1 + 3 * (N : Int) == 0) = false := by simp; omega
  have g1 : ¬ (k : Int) < 0 := by omega
  have g2 : ¬ (zs.length : Int) < (k : Int) := by omega
  have g3 : ¬ (zs.length : Int) - (k : Int) < 1 + 3 * (N : Int) := by omega
  have g4 : (k : Int) + (1 + 3 * (N : Int)) - (k : Int) = ((1 + 3 * N : Nat) : Int) := by omega
  have g5 : ((k : Int) + (1 + 3 * (N : Int))).toNat - k = 1 + 3 * N := by omega
  obtain ⟨L, hL⟩ : ∃ L, L = zs.length := ⟨_, rfl⟩
  rw [← hL] at hlen hcap hfit g2 g3 ⊢
  clear hs hL
  cases hk : entsZ zs k N with
  | none =>
    have HK := Lib.hid hk
    clear hk
    go_enter Tryz.func11, Tryz.ntmps11
    go_wp2_with (first
      | (go_at_call 28; go_must (refine HKO.out.mono ?_; rintro e w4 hv; rw [HKZ.out, HK.out] at hv; obtain ⟨rfl, hb4⟩ := hv))
      | (go_at_call 21; go_must (refine (Room_any N _).mono ?_; rintro e w3 ⟨rfl, rfl⟩; rw [HR.out])))
    go_ret2
    exact ⟨_, rfl, OwnE.nil _ _, hb4⟩
  | some l =>
    have HK := Lib.hid hk
    clear hk
    go_enter Tryz.func11, Tryz.ntmps11
    go_wp2_with (first
      | (go_at_call 28; go_must (refine HKO.out.mono ?_; rintro e w4 hv; rw [HKZ.out, HK.out] at hv; obtain ⟨v, rfl, hown, hb4⟩ := hv; have HOW := Lib.hid hown; clear hown))
      | (go_at_call 21; go_must (refine (Room_any N _).mono ?_; rintro e w3 ⟨rfl, rfl⟩; rw [HR.out])))
    go_ret2
    exact ⟨_, rfl, HOW.out, hb4⟩
/-- every Read of a slice that is not nil -/
theorem Read_any (b o m c : Nat) (zs : List Int) (base n : Int) (w : World) (hm : zs.length = m) (hlen : m ≤ maxLen) (hcap : m ≤ c) (hc63 : c ≤ maxLen) (hwf : ∀ z ∈ zs, (Lit.int .i64 z).wf = true) (hs : Sees w (some ⟨b, o, none⟩) zs) :
    Calls Tryz.prog 11 #[.slice (some ⟨b, o, none⟩) m c, .int .i64 base, .int .i64 n] w (KeysDoes (dictS zs base n).1 (dictS zs base n).2 w) := by
  subst hm
  unfold dictS
  cases hf : fitB zs base n with
  | false => exact Read_nofit _ c zs base n w hlen hf
  | true =>
    obtain ⟨k, N, rfl, rfl, h1, h2, h3, _⟩ := fit_parts hf
    simp only [if_true, Int.toNat_natCast]
    have := Read_fit b o c zs k N w hlen hcap hc63 hwf hs h1 h2 h3
    cases hg : entsZ zs k N with
    | none => rw [hg] at this; exact this
    | some l => rw [hg] at this; exact this
end Go.Proofs.YtochpdailleilaaGreatDoor
