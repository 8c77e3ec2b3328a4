/-
  quash/sched.Turns: every call. No condition.
-/
import Derived.Test.YtaiinkeendejdaaSchSame
import Derived.Test.YtaiinkeendejdaaSchSmall
namespace Go.Proofs.Ytaiinkeendejdaa
open Go.RowKit
set_option maxRecDepth 100000
/-- on whom picks fall, from 1 on, and whom a drain calls -/
def turnsS (n : Nat) (l : List Int) (D : Nat) : List Int := l.map (fun p => (roundS n p : Int) + 1) ++ (List.range D).map fun i => ((i % n : Nat) : Int) + 1
theorem alloc_below {w : World} (B : Nat) (hB : B ≤ w.heap.size) (o : Obj) : Below B w (w.alloc o) := (Below.refl B w).alloc hB o
set_option maxHeartbeats 2000000 in
theorem Turns_any (n : Int) (ao : Option Addr) (np c : Nat) (D : Int) (l : List Int) (w : World) (hl : l.length = np) (hs : Sees w ao l) (hm : np ≤ maxLen) (h64 : ∀ x ∈ l, -9223372036854775808 ≤ x ∧ x ≤ 9223372036854775807) :
    Calls Try.prog 16 #[.int .i64 n, .slice ao np c, .int .i64 D] w fun e w' => ∃ v, e = .returned (.tuple #[v, .int .i64 (wrongS n np D)]) ∧ Own w' w.heap.size v (if wrongS n np D = 0 then turnsS n.toNat l D.toNat else []) ∧ Below w.heap.size w w' := by
  obtain ⟨E, hE⟩ : ∃ E, E = wrongS n np D := ⟨_, rfl⟩
  by_cases h0 : wrongS n np D = 0
  · have hr : 1 ≤ n ∧ n ≤ 8 ∧ 0 ≤ D ∧ D ≤ 65536 ∧ (np : Int) ≤ 65536 := by
      unfold wrongS at h0
      split at h0
      · cases h0
      · split at h0
        · cases h0
        · omega
    obtain ⟨r1, r2, r3, r4, r5⟩ := hr
    obtain ⟨N, rfl⟩ := Int.eq_ofNat_of_zero_le (show 0 ≤ n by omega)
    obtain ⟨K, rfl⟩ := Int.eq_ofNat_of_zero_le r3
    rw [if_pos h0, h0, Int.toNat_natCast, Int.toNat_natCast]
    obtain ⟨R, hR⟩ : ∃ R, R = turnsS N l K := ⟨_, rfl⟩
    rw [← hR]
    have HR := Lib.hid hR
    have HS := Lib.hid hs
    have HL := Lib.hid hl
    have H64 := Lib.hid h64
    have HW := Lib.hid h0
    clear hR hs hl h64 h0 hE
    go_enter Try.func16, Try.ntmps16
    go_wp2_with (first | (go_at_call 27; go_must (refine (Wrong_any (N : Nat) (K : Nat) ao np c _ (by omega)).mono ?_; rintro e w1 ⟨rfl, rfl⟩; rw [HW.out])))
    go_loopw [9, 22] (fun v i wr => ∃ j : Nat, j ≤ np ∧ i = .int .i64 j ∧ Own wr w.heap.size v ((l.take j).map fun p => (roundS N p : Int) + 1) ∧ Below w.heap.size w wr) (fun _ i _ => np - (intOf i).toNat)
    case atStart => exact ⟨0, Nat.zero_le _, rfl, Own.nil _ _, Below.refl _ _⟩
    case round =>
      obtain ⟨j, hj, rfl, hown, hB⟩ := hrel
      have hz := hB.size
      have HO := Lib.hid hown
      have HB := Lib.hid hB
      clear hown hB
      by_cases hlt : j < np
      · obtain ⟨b, o, h1, h2⟩ := HS.out
        have hne : l ≠ [] := by intro e; have := HL.out; subst e; simp at this; omega
        obtain rfl := h1 hne
        obtain ⟨x, hx⟩ : ∃ x, l[j]? = some x := ⟨_, List.getElem?_eq_getElem (by rw [HL.out]; exact hlt)⟩
        have c0 := h2 j (by rw [HL.out]; exact hlt)
        rw [List.getD_eq_getElem?_getD, hx, Option.getD_some] at c0
        have c1 : wr.cell? ⟨b, o + j, none⟩ = some (.int .i64 x) := (HB.out.cell (p := ⟨b, o + j, none⟩) (block_lt_of_cell c0)).trans c0
        have h6 := H64.out x (List.mem_of_getElem? hx)
        have h5 := roundS_lt x (show 0 < N by omega)
        have HX := Lib.hid hx
        have hlo : (0 : Int) ≤ (j : Int) := by omega
        have hhi : (j : Int) < (np : Int) := by omega
        have w2 : IntKind.i64.wrap ((roundS N x : Int) + 1) = (roundS N x : Int) + 1 := by rw [IntKind.wrap_i64]; omega
        have hlen : ((l.take j).map fun p => (roundS N p : Int) + 1).length = j := by rw [List.length_map, List.length_take, HL.out]; omega
        have HLEN := Lib.hid hlen
        clear hx c0 h1 h2 hne hlen
        go_wp2_with (first
          | (go_at_call 28; go_must (refine (Round_any N x _ (by omega) (by omega) h6.1 h6.2).mono ?_; rintro e w1 ⟨rfl, rfl⟩))
          | (at_builtin; refine wpList_appendI (B := w.heap.size) (HO.out.below ((Below.refl _ _).alloc (Nat.le_refl _) _)) (by simp <;> omega) (some ⟨wr.heap.size, 0, none⟩) 1 1 [(roundS N x : Int) + 1] rfl (sees_one (heap_new _ _ _ rfl)) (fun h => by cases h) (by rw [HLEN.out]; simp; omega) rfl _ _ rfl rfl rfl ?_; intro v3 w3 hown3 hgrow3))
        go_roundw
        case rel => exact ⟨j + 1, by omega, by go_num, by rw [List.take_add_one, HX.out]; simpa using hown3, (HB.out.alloc hz _).grown hgrow3 (by simp <;> omega) (fun k hk => own_ge HO.out hk)⟩
        case measure => simp [intOf]; omega
      · obtain rfl : j = np := by omega
        have hT : l.take j = l := List.take_of_length_le (by rw [HL.out]; exact Nat.le_refl _)
        have HT := Lib.hid hT
        clear hT
        go_wp2
        go_loopw [9, 35] (fun v i wr => ∃ k : Nat, k ≤ K ∧ i = .int .i64 k ∧ Own wr w.heap.size v (l.map (fun p => (roundS N p : Int) + 1) ++ (List.range k).map fun i => ((i % N : Nat) : Int) + 1) ∧ Below w.heap.size w wr) (fun _ i _ => K - (intOf i).toNat)
        case atStart => exact ⟨0, Nat.zero_le _, rfl, by have := HO.out; rw [HT.out] at this; simpa using this, HB.out⟩
        case round =>
          obtain ⟨k, hk, rfl, hown, hB⟩ := hrel
          clear hz
          have hz := hB.size
          have HO2 := Lib.hid hown
          have HB2 := Lib.hid hB
          clear hown hB
          by_cases hlt2 : k < K
          · have e1 : ((k : Int)).tmod (N : Int) = ((k % N : Nat) : Int) := by
              rw [Int.tmod_eq_emod_of_nonneg (by omega)]
              simp
            have h9 := Nat.mod_lt k (show N > 0 by omega)
            obtain ⟨q, hq⟩ : ∃ q, q = k % N := ⟨_, rfl⟩
            rw [← hq] at e1 h9
            have HQ := Lib.hid hq
            clear hq
            have w1 : IntKind.i64.wrap (q : Int) = (q : Int) := by rw [IntKind.wrap_i64]; omega
            have w2 : IntKind.i64.wrap ((q : Int) + 1) = (q : Int) + 1 := by rw [IntKind.wrap_i64]; omega
            have hzN : ((N : Int) == 0) = false := by simp; omega
            have hlen : (l.map (fun p => (roundS N p : Int) + 1) ++ (List.range k).map fun i => ((i % N : Nat) : Int) + 1).length = j + k := by simp [HL.out]
            have HLEN := Lib.hid hlen
            clear hlen
            go_wp2_with (first
              | (at_builtin; refine wpList_appendI (B := w.heap.size) (HO2.out.below ((Below.refl _ _).alloc (Nat.le_refl _) _)) (by simp <;> omega) (some ⟨wr.heap.size, 0, none⟩) 1 1 [(q : Int) + 1] rfl (sees_one (heap_new _ _ _ rfl)) (fun h => by cases h) (by rw [HLEN.out]; simp; omega) rfl _ _ rfl rfl rfl ?_; intro v3 w3 hown3 hgrow3))
            go_roundw
            case rel => exact ⟨k + 1, by omega, by go_num, by rw [List.range_succ, List.map_append, List.map_singleton, ← HQ.out, ← List.append_assoc]; exact hown3, (HB2.out.alloc hz _).grown hgrow3 (by simp <;> omega) (fun k hk => own_ge HO2.out hk)⟩
            case measure => simp [intOf]; omega
          · obtain rfl : k = K := by omega
            go_wp2
            go_ret2
            exact ⟨_, rfl, by rw [HR.out]; exact HO2.out, HB2.out⟩
  · rw [if_neg h0]
    rw [← hE] at h0 ⊢
    have h01 : (E != 0) = true := by simpa using h0
    have h02 : (E == 0) = false := by simpa using h0
    have HE := Lib.hid hE
    clear hs hl h64 hE h0
    go_enter Try.func16, Try.ntmps16
    go_wp2_with (first | (go_at_call 27; go_must (refine (Wrong_any n D ao np c _ hm).mono ?_; rintro e w1 ⟨rfl, rfl⟩; rw [← HE.out])))
    go_ret2
    exact ⟨_, rfl, Own.nil _ _, Below.refl _ _⟩
end Go.Proofs.Ytaiinkeendejdaa
