/-
  quash/quashref15.Word, Takes, Check: every call. No condition.
-/
import Derived.Test.YtoiokbdipcecnaaGreatDoorCodeCheck
import Derived.Lib.Hide
import Derived.Deep.DeepMust
namespace Go.Proofs.YtoiokbdipcecnaaGreatDoor
open Go.RowKit
set_option maxRecDepth 100000

theorem takes_row : ∀ k, k < 23 → (rowAt k).2.1 = (if k = 1 then 1 else if k = 5 ∨ k = 6 then 2 else if k = 14 ∨ k = 15 ∨ k = 20 then 3 else 0 : Int) := by decide
theorem takes_eq (n : Int) : takes n = if n = 1 then 1 else if n = 5 ∨ n = 6 then 2 else if n = 14 ∨ n = 15 ∨ n = 20 then 3 else 0 := by
  unfold takes
  by_cases h : 1 ≤ n ∧ n < 23
  · obtain ⟨k, rfl⟩ := Int.eq_ofNat_of_zero_le (show 0 ≤ n by omega)
    rw [opRow_in (by omega) (by omega), takes_row k (by omega)]
    by_cases a1 : k = 1
    · subst a1; rfl
    by_cases a2 : k = 5 ∨ k = 6
    · rw [if_neg a1, if_pos a2, if_neg (by omega), if_pos (by omega)]
    by_cases a3 : k = 14 ∨ k = 15 ∨ k = 20
    · rw [if_neg a1, if_neg a2, if_pos a3, if_neg (by omega), if_neg (by omega), if_pos (by omega)]
    · rw [if_neg a1, if_neg a2, if_neg a3, if_neg (by omega), if_neg (by omega), if_neg (by omega)]
  · rw [opRow_out (by omega), if_neg (by omega), if_neg (by omega), if_neg (by omega)]
    rfl
theorem ret_i64' {a b : Int} (h : a = b) : Ending.returned (.int .i64 a) = .returned (.int .i64 b) := by rw [h]
theorem refTakes_any (n : Int) (w : World) : Calls Tryz.prog 38 #[.int .i64 n] w fun e w' => e = .returned (.int .i64 (takes n)) ∧ w = w' := by
  obtain ⟨t, ht⟩ : ∃ t, t = takes n := ⟨_, rfl⟩
  rw [← ht]
  rw [takes_eq] at ht
  obtain h | h | h | h | h | h | h : n = 1 ∨ n = 5 ∨ n = 6 ∨ n = 14 ∨ n = 15 ∨ n = 20 ∨ (n ≠ 1 ∧ n ≠ 5 ∧ n ≠ 6 ∧ n ≠ 14 ∧ n ≠ 15 ∧ n ≠ 20) := by omega
  case inr.inr.inr.inr.inr.inr =>
    obtain ⟨h1, h2, h3, h4, h5, h6⟩ := h
    rw [if_neg h1, if_neg (by omega), if_neg (by omega)] at ht
    have k1 : (n == 1) = false := by simpa using h1
    have k2 : (n == 5) = false := by simpa using h2
    have k3 : (n == 6) = false := by simpa using h3
    have k4 : (n == 14) = false := by simpa using h4
    have k5 : (n == 15) = false := by simpa using h5
    have k6 : (n == 20) = false := by simpa using h6
    subst ht
    clear h1 h2 h3 h4 h5 h6
    go_enter Tryz.func38, Tryz.ntmps38
    go_wp2
    go_ret
    exact ⟨rfl, rfl⟩
  all_goals
    subst h
    simp at ht
    subst ht
    go_enter Tryz.func38, Tryz.ntmps38
    go_wp2
    go_ret
    exact ⟨rfl, rfl⟩
def wordsL : List (List UInt8) := rowsL.map (·.1)
def wordsArr : Array Value := (wordsL.map fun x => Value.string (S x)).toArray
theorem wordsArr_at (k : Nat) (h : k < 23) : wordsArr[k]? = some (.string (S (rowAt k).1)) := by
  match k, h with
  | 0, _ | 1, _ | 2, _ | 3, _ | 4, _ | 5, _ | 6, _ | 7, _ | 8, _ | 9, _ | 10, _ | 11, _ | 12, _ | 13, _ | 14, _ | 15, _ | 16, _ | 17, _ | 18, _ | 19, _ | 20, _ | 21, _ | 22, _ => rfl
  | n+23, h => omega
attribute [irreducible] wordsArr
def partsW : Array (Nat × Value) := ((wordsL.zipIdx.map fun (r, i) => (i, Value.string (S r))).toArray)
theorem hbw (w : World) : (Instr.buildSlice 74 23 partsW).run Tryz.prog w = .ok (.slice (some ⟨w.heap.size, 0, none⟩) 23 23) (w.alloc (.cells wordsArr 9)) := by
  kernel_rfl
attribute [irreducible] partsW
theorem refWord_any (n : Int) (w : World) : Calls Tryz.prog 44 #[.int .i64 n] w fun e w' => e = .returned (.string (word n)) ∧ Below w.heap.size w w' := by
  by_cases h : 1 ≤ n ∧ n ≤ 22
  · obtain ⟨k, rfl⟩ := Int.eq_ofNat_of_zero_le (show 0 ≤ n by omega)
    have hw := wordsArr_at k (by omega)
    have e : word (k : Int) = S (rowAt k).1 := by unfold word; rw [opRow_in (by omega) (by omega)]
    rw [e]
    clear e
    have d0 : ¬ (k : Int) < 1 := by omega
    have d1 : ¬ (22 : Int) < (k : Int) := by omega
    have hb0 : (0 : Int) ≤ (k : Int) := by omega
    have hb1 : (k : Int) < 23 := by omega
    have hb2 : k < 23 := by omega
    go_enter Tryz.func44, Tryz.ntmps44
    go_wp2_with (refine wpList_runs2 (o := ⟨some 4, _, _, _, _, _⟩) rfl (Instr.buildSlice 74 23 partsW) (by kernel_rfl) _ _ (hbw _) ?_)
    go_ret
    exact ⟨rfl, (Below.refl _ _).alloc (Nat.le_refl _) _⟩
  · have e : word n = ⟨#[]⟩ := by unfold word; rw [opRow_out (by omega)]; rfl
    rw [e]
    clear e
    by_cases h1 : n < 1
    · clear h
      go_enter Tryz.func44, Tryz.ntmps44
      go_wp2_with (refine wpList_runs2 (o := ⟨some 4, _, _, _, _, _⟩) rfl (Instr.buildSlice 74 23 partsW) (by kernel_rfl) _ _ (hbw _) ?_)
      go_ret
      exact ⟨rfl, (Below.refl _ _).alloc (Nat.le_refl _) _⟩
    · have h2 : 22 < n := by omega
      clear h
      go_enter Tryz.func44, Tryz.ntmps44
      go_wp2_with (refine wpList_runs2 (o := ⟨some 4, _, _, _, _, _⟩) rfl (Instr.buildSlice 74 23 partsW) (by kernel_rfl) _ _ (hbw _) ?_)
      go_ret
      exact ⟨rfl, (Below.refl _ _).alloc (Nat.le_refl _) _⟩
theorem refCheck_long (ao : Option Addr) (c n : Nat) (w : World) (h : n < 1 ∨ 400 < n) (hn : n ≤ maxLen) :
    Calls Tryz.prog 18 #[.slice ao n c] w fun e w' => e = .returned (.tuple #[.int .i64 150, .int .i64 0]) ∧ w = w' := by
  unfold maxLen at hn
  by_cases h1 : n < 1
  · go_enter Tryz.func18, Tryz.ntmps18
    go_wp2
    go_ret2
    exact ⟨rfl, rfl⟩
  · have h2 : 400 < n := by omega
    go_enter Tryz.func18, Tryz.ntmps18
    go_wp2
    go_ret2
    exact ⟨rfl, rfl⟩
theorem takes_vals (n : Int) : takes n = 0 ∨ takes n = 1 ∨ takes n = 2 ∨ takes n = 3 := by
  rw [takes_eq]
  repeat' split
  all_goals simp
set_option maxHeartbeats 2000000 in
theorem refCheck_some (ao : Option Addr) (c : Nat) (l : List (Int × Int)) (w : World) (hs : SeesP w ao l) (h1 : 1 ≤ l.length) (h2 : l.length ≤ 400) :
    Calls Tryz.prog 18 #[.slice ao l.length c] w fun e w' => e = .returned (.tuple #[.int .i64 (checkFrom l.length 0 l).1, .int .i64 (checkFrom l.length 0 l).2]) ∧ w = w' := by
  obtain ⟨b, o, hao, hc⟩ := hs
  obtain rfl := hao (by intro e; subst e; simp at h1)
  obtain ⟨N, hN⟩ : ∃ N, N = l.length := ⟨_, rfl⟩
  have HN := Lib.hid hN
  have HC := Lib.hid hc
  rw [← hN] at h1 h2
  rw [← hN]
  clear hN hc hao
  obtain ⟨R, hR⟩ : ∃ R, R = checkFrom N 0 l := ⟨_, rfl⟩
  have HR := Lib.hid hR
  rw [← hR]
  clear hR
  have g1 : ¬ N < 1 := by omega
  have g2 : ¬ 400 < N := by omega
  go_enter Tryz.func18, Tryz.ntmps18
  go_wp2
  go_loop [4] (fun v => ∃ k : Nat, k ≤ N ∧ v = .int .i64 k ∧ checkFrom N k (l.drop k) = R) (fun v => N - (intOf v).toNat)
  case atStart => exact ⟨0, Nat.zero_le _, rfl, HR.out.symm⟩
  case round =>
    obtain ⟨k, hk, rfl, hR⟩ := hrel
    by_cases hlt : k < N
    · obtain ⟨⟨op, a⟩, hx⟩ : ∃ x, l[k]? = some x := ⟨_, List.getElem?_eq_getElem (by rw [← HN.out]; exact hlt)⟩
      have hdr : l.drop k = (op, a) :: l.drop (k + 1) := by
        rw [List.drop_eq_getElem_cons (by rw [← HN.out]; exact hlt)]
        congr 1
        exact (List.getElem?_eq_some_iff.1 hx).2
      obtain ⟨c0, c1⟩ := HC.out k _ hx
      rw [hdr, checkFrom] at hR
      clear hdr hx
      have hi0 : (0 : Int) ≤ (k : Int) := by omega
      cases hop : isOp op with
      | false =>
        have hop' : ¬ (1 ≤ op ∧ op < 23) := by simpa [isOp] using hop
        have HR2 := Lib.hid (show ((151, (k : Int)) : Int × Int) = R by rw [← hR]; simp [hop])
        clear hop hR
        by_cases hlo : op < 1
        · clear hop'
          go_wp2
          go_ret2
          rw [← HR2.out]
          exact ⟨rfl, rfl⟩
        · have hhi : 22 < op := by omega
          clear hop'
          go_wp2
          go_ret2
          rw [← HR2.out]
          exact ⟨rfl, rfl⟩
      | true =>
        have hop' : 1 ≤ op ∧ op < 23 := by simpa [isOp] using hop
        have hlo : ¬ op < 1 := by omega
        have hhi : ¬ 22 < op := by omega
        cases hmay : mayB (takes op) a N with
        | false =>
          have HR2 := Lib.hid (show ((152, (k : Int)) : Int × Int) = R by rw [← hR]; simp [hop, hmay])
          clear hop hR hop'
          obtain ht | ht | ht | ht := takes_vals op
          all_goals
            have HT := Lib.hid ht
            rw [ht] at hmay
            clear ht
          · have ha : (a == 0) = false := by simpa [mayB] using hmay
            clear hmay
            go_wp2_with (go_at_call 38; go_must (refine (refTakes_any op _).mono ?_; rintro e w1 ⟨rfl, rfl⟩; rw [HT.out]))
            go_ret2
            rw [← HR2.out]
            exact ⟨rfl, rfl⟩
          · simp [mayB] at hmay
          · have ha : ¬ (0 ≤ a ∧ a < 8) := by simpa [mayB] using hmay
            clear hmay
            by_cases ha0 : 0 ≤ a
            · have ha1 : ¬ a < 8 := by omega
              have hd : decide (a < 8) = false := by simp; omega
              have hd0 : decide (0 ≤ a) = true := by simpa using ha0
              clear ha
              go_wp2_with (go_at_call 38; go_must (refine (refTakes_any op _).mono ?_; rintro e w1 ⟨rfl, rfl⟩; rw [HT.out]))
              go_ret2
              rw [← HR2.out]
              exact ⟨rfl, rfl⟩
            · clear ha
              go_wp2_with (go_at_call 38; go_must (refine (refTakes_any op _).mono ?_; rintro e w1 ⟨rfl, rfl⟩; rw [HT.out]))
              go_ret2
              rw [← HR2.out]
              exact ⟨rfl, rfl⟩
          · have ha : ¬ (0 ≤ a ∧ a ≤ N) := by simpa [mayB] using hmay
            clear hmay
            by_cases ha0 : 0 ≤ a
            · have ha1 : ¬ a ≤ (N : Int) := by omega
              have hd : decide (a ≤ (N : Int)) = false := by simp; omega
              have hd0 : decide (0 ≤ a) = true := by simpa using ha0
              clear ha
              go_wp2_with (go_at_call 38; go_must (refine (refTakes_any op _).mono ?_; rintro e w1 ⟨rfl, rfl⟩; rw [HT.out]))
              go_ret2
              rw [← HR2.out]
              exact ⟨rfl, rfl⟩
            · clear ha
              go_wp2_with (go_at_call 38; go_must (refine (refTakes_any op _).mono ?_; rintro e w1 ⟨rfl, rfl⟩; rw [HT.out]))
              go_ret2
              rw [← HR2.out]
              exact ⟨rfl, rfl⟩
        | true =>
          have HR2 := Lib.hid (show checkFrom N (k + 1) (l.drop (k + 1)) = R by rw [← hR]; simp [hop, hmay])
          clear hop hR hop'
          obtain ht | ht | ht | ht := takes_vals op
          all_goals
            have HT := Lib.hid ht
            rw [ht] at hmay
            clear ht
          · have ha : (a == 0) = true := by simpa [mayB] using hmay
            clear hmay
            go_wp2_with (go_at_call 38; go_must (refine (refTakes_any op _).mono ?_; rintro e w1 ⟨rfl, rfl⟩; rw [HT.out]))
            go_round
            case rel => exact ⟨k + 1, by omega, by go_num, HR2.out⟩
            case measure => simp [intOf]; omega
          · clear hmay
            go_wp2_with (go_at_call 38; go_must (refine (refTakes_any op _).mono ?_; rintro e w1 ⟨rfl, rfl⟩; rw [HT.out]))
            go_round
            case rel => exact ⟨k + 1, by omega, by go_num, HR2.out⟩
            case measure => simp [intOf]; omega
          · have ha : 0 ≤ a ∧ a < 8 := by simpa [mayB] using hmay
            obtain ⟨ha0, ha1⟩ := ha
            clear hmay
            go_wp2_with (go_at_call 38; go_must (refine (refTakes_any op _).mono ?_; rintro e w1 ⟨rfl, rfl⟩; rw [HT.out]))
            go_round
            case rel => exact ⟨k + 1, by omega, by go_num, HR2.out⟩
            case measure => simp [intOf]; omega
          · have ha : 0 ≤ a ∧ a ≤ N := by simpa [mayB] using hmay
            obtain ⟨ha0, ha1⟩ := ha
            clear hmay
            go_wp2_with (go_at_call 38; go_must (refine (refTakes_any op _).mono ?_; rintro e w1 ⟨rfl, rfl⟩; rw [HT.out]))
            go_round
            case rel => exact ⟨k + 1, by omega, by go_num, HR2.out⟩
            case measure => simp [intOf]; omega
    · obtain rfl : k = N := by omega
      have HR2 := Lib.hid (show ((0, 0) : Int × Int) = R by rw [← hR, List.drop_eq_nil_of_le (by rw [← HN.out]; exact Nat.le_refl _)]; rfl)
      clear hR
      go_wp2
      go_ret2
      rw [← HR2.out]
      exact ⟨rfl, rfl⟩
theorem refCheck_any (ao : Option Addr) (n c : Nat) (l : List (Int × Int)) (w : World) (hl : l.length = n) (hs : SeesP w ao l) (hn : n ≤ maxLen) :
    Calls Tryz.prog 18 #[.slice ao n c] w fun e w' => e = .returned (.tuple #[.int .i64 (checkL l).1, .int .i64 (checkL l).2]) ∧ w = w' := by
  subst hl
  unfold checkL
  by_cases h : l.length < 1 ∨ 400 < l.length
  · rw [if_pos h]
    exact refCheck_long ao c l.length w h hn
  · rw [if_neg h]
    exact refCheck_some ao c l w hs (by omega) (by omega)
theorem Check_all (ao : Option Addr) (n c : Nat) (l : List (Int × Int)) (w : World) (hl : l.length = n) (hs : SeesP w ao l) (hn : n ≤ maxLen) :
    Calls Tryz.prog 16 #[.slice ao n c] w fun e w' => e = .returned (.tuple #[.int .i64 (checkL l).1, .int .i64 (checkL l).2]) ∧ Below w.heap.size w w' := by
  subst hl
  unfold checkL
  by_cases h : l.length < 1 ∨ 400 < l.length
  · rw [if_pos h]
    exact Check_long ao c l.length w h hn
  · rw [if_neg h]
    exact Check_some ao c l w hs (by omega) (by omega)
end Go.Proofs.YtoiokbdipcecnaaGreatDoor
