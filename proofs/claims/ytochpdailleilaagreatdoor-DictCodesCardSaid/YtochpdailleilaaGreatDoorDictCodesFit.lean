/-
  DictCodes: from the reading of the arguments to the walk. Condition: the library's variables (Env).
  And: quash/quashlaw19.DictCodes answers true. Condition: the library's variables (Env).
  And: quashlaw19.formed at a program of the right form. No condition.
-/
import Derived.Test.YtochpdailleilaaGreatDoorDictCode
import Derived.Test.YtochpdailleilaaGreatDoorCodeCheck
import Derived.Test.YtochpdailleilaaGreatDoorVerifyWalk
import Derived.Test.YtochpdailleilaaGreatDoorOpen
namespace Go.Proofs.YtochpdailleilaaGreatDoor
open Go.RowKit
set_option maxRecDepth 100000

def formedFrom : List (Int × Int) → Nat → Nat → Option (Nat × Nat)
  | [], b, c => some (b, c)
  | x :: r, b, c => if x.1 = 16 then formedFrom r (b + 1) c else if x.1 = 19 then formedFrom r b (c + 1) else if x.1 = 20 then none else if x.1 = 22 then none else formedFrom r b c
def formedL (l : List (Int × Int)) : Bool := formedFrom l 0 0 == some (1, 1) && decide (1 < l.length) && decide (l.length ≤ 100) && decide ((l.getD 0 (0, 0)).1 = 16) && decide ((l.getD (l.length - 1) (0, 0)).1 = 19)
set_option maxHeartbeats 2000000 in
theorem formed_yes (ao : Option Addr) (c : Nat) (l : List (Int × Int)) (w : World) (hs : SeesP w ao l) (hf : formedL l = true) :
    Calls Tryz.prog 26 #[.slice ao l.length c] w fun e w' => e = .returned (.bool true) ∧ w' = w := by
  simp only [formedL, Bool.and_eq_true, decide_eq_true_eq, beq_iff_eq] at hf
  obtain ⟨⟨⟨⟨hf, h1⟩, h2⟩, h3⟩, h4⟩ := hf
  obtain ⟨b, o, hao, hc⟩ := hs
  obtain rfl := hao (by intro e; subst e; simp at h1)
  obtain ⟨x0, hx0⟩ : ∃ x, l[0]? = some x := ⟨_, List.getElem?_eq_getElem (by omega)⟩
  obtain ⟨x1, hx1⟩ : ∃ x, l[l.length - 1]? = some x := ⟨_, List.getElem?_eq_getElem (by omega)⟩
  rw [List.getD_eq_getElem?_getD, hx0] at h3
  rw [List.getD_eq_getElem?_getD, hx1] at h4
  simp only [Option.getD_some] at h3 h4
  have d0 := (hc 0 _ hx0).1
  have d1 := (hc _ _ hx1).1
  rw [h3, Nat.zero_mul, Nat.add_zero] at d0
  rw [h4] at d1
  obtain ⟨N, hN⟩ : ∃ N, N = l.length := ⟨_, rfl⟩
  have HN := Lib.hid hN
  have HC := Lib.hid hc
  have HF := Lib.hid hf
  rw [← hN] at h1 h2 d1
  rw [← hN]
  clear hN hc hf hao hx0 hx1 h3 h4
  have i0 : (0 : Int) < (N : Int) := by omega
  have i1 : (0 : Int) ≤ (N : Int) - 1 := by omega
  have i2 : (N : Int) - 1 < (N : Int) := by omega
  have i3 : ((N : Int) - 1).toNat = N - 1 := by omega
  have i4 : (1 : Int) < (N : Int) := by omega
  have i5 : (N : Int) ≤ 100 := by omega
  go_enter Tryz.func26, Tryz.ntmps26
  go_wp2
  go_loopw [3, 4, 5] (fun p q u wr => ∃ (k bb cc : Nat), k ≤ N ∧ u = .int .i64 k ∧ p = .int .i64 bb ∧ q = .int .i64 cc ∧ bb ≤ k ∧ cc ≤ k ∧ formedFrom (l.drop k) bb cc = some (1, 1) ∧ wr = w) (fun _ _ u _ => N - (intOf u).toNat)
  case atStart => exact ⟨0, 0, 0, Nat.zero_le _, rfl, rfl, rfl, Nat.le_refl _, Nat.le_refl _, HF.out, rfl⟩
  case round =>
    obtain ⟨k, bb, cc, hk, rfl, rfl, rfl, hb1, hc1, hF, rfl⟩ := hrel
    by_cases hlt : k < N
    · obtain ⟨⟨op, a⟩, hx⟩ : ∃ x, l[k]? = some x := ⟨_, List.getElem?_eq_getElem (by rw [← HN.out]; exact hlt)⟩
      have hdr : l.drop k = (op, a) :: l.drop (k + 1) := by
        rw [List.drop_eq_getElem_cons (by rw [← HN.out]; exact hlt)]
        congr 1
        exact (List.getElem?_eq_some_iff.1 hx).2
      have c0 := (HC.out k _ hx).1
      simp only at c0
      rw [hdr, formedFrom] at hF
      simp only at hF
      clear hdr hx d0 d1
      have hi0 : (0 : Int) ≤ (k : Int) := by omega
      have hi1 : (k : Int) < (N : Int) := by omega
      by_cases e16 : op = 16
      · subst e16
        rw [if_pos rfl] at hF
        have HF2 := Lib.hid hF
        clear hF
        go_wp2
        go_roundw
        case rel => exact ⟨k + 1, bb + 1, cc, by omega, by go_num, by go_num, rfl, by omega, by omega, HF2.out, by first | rfl | trivial⟩
        case measure => simp [intOf]; omega
      · rw [if_neg e16] at hF
        by_cases e19 : op = 19
        · subst e19
          rw [if_pos rfl] at hF
          have HF2 := Lib.hid hF
          clear hF
          go_wp2
          go_roundw
          case rel => exact ⟨k + 1, bb, cc + 1, by omega, by go_num, rfl, by go_num, by omega, by omega, HF2.out, by first | rfl | trivial⟩
          case measure => simp [intOf]; omega
        · rw [if_neg e19] at hF
          by_cases e20 : op = 20
          · rw [if_pos e20] at hF; cases hF
          · rw [if_neg e20] at hF
            by_cases e22 : op = 22
            · rw [if_pos e22] at hF; cases hF
            · rw [if_neg e22] at hF
              have HF2 := Lib.hid hF
              clear hF
              go_wp2
              go_roundw
              case rel => exact ⟨k + 1, bb, cc, by omega, by go_num, rfl, rfl, by omega, by omega, HF2.out, by first | rfl | trivial⟩
              case measure => simp [intOf]; omega
    · obtain rfl : k = N := by omega
      rw [List.drop_eq_nil_of_le (by rw [← HN.out]; exact Nat.le_refl _), formedFrom] at hF
      injection hF with hF
      injection hF with e1 e2
      subst e1; subst e2
      go_wp2
      go_ret
      exact ⟨rfl, rfl⟩
end Go.Proofs.YtochpdailleilaaGreatDoor
namespace Go.Proofs.YtochpdailleilaaGreatDoor
open Go.RowKit
set_option maxRecDepth 100000

theorem verify_progs (hm base op x y : Int) (N : Nat) (ho : OpOk op x y) : verifyL (progLD op.toNat hm N base x y) = (0, 0) := by
  generalize (N : Int) = n
  obtain rfl | ⟨rfl, rfl⟩ | ⟨rfl, rfl⟩ | rfl | ⟨rfl, rfl, rfl⟩ := ho
  · rw [show progLD (1 : Int).toNat hm n base x y = progL1 hm n base x y from rfl]; kernel_rfl
  · rw [show progLD (2 : Int).toNat hm n base x 0 = progL2 hm n base x 0 from rfl]; kernel_rfl
  · rw [show progLD (3 : Int).toNat hm n base x 0 = progL3 hm n base x 0 from rfl]; kernel_rfl
  · rw [show progLD (4 : Int).toNat hm n base x y = progL4 hm n base x y from rfl]; kernel_rfl
  · rw [show progLD (5 : Int).toNat hm n base 0 0 = progL5 base from rfl]; kernel_rfl
theorem formed_progs (hm base op x y : Int) (N : Nat) (ho : OpOk op x y) : formedL (progLD op.toNat hm N base x y) = true := by
  generalize (N : Int) = n
  obtain rfl | ⟨rfl, rfl⟩ | ⟨rfl, rfl⟩ | rfl | ⟨rfl, rfl, rfl⟩ := ho
  · rw [show progLD (1 : Int).toNat hm n base x y = progL1 hm n base x y from rfl]; kernel_rfl
  · rw [show progLD (2 : Int).toNat hm n base x 0 = progL2 hm n base x 0 from rfl]; kernel_rfl
  · rw [show progLD (3 : Int).toNat hm n base x 0 = progL3 hm n base x 0 from rfl]; kernel_rfl
  · rw [show progLD (4 : Int).toNat hm n base x y = progL4 hm n base x y from rfl]; kernel_rfl
  · rw [show progLD (5 : Int).toNat hm n base 0 0 = progL5 base from rfl]; kernel_rfl
theorem formed_len {l : List (Int × Int)} (h : formedL l = true) : 1 < l.length ∧ l.length ≤ 100 := by
  simp only [formedL, Bool.and_eq_true, decide_eq_true_eq] at h
  exact ⟨h.1.1.1.2, h.1.1.2⟩
theorem own_seesP {w : World} {B : Nat} {v : Value} {l : List (Int × Int)} (h : w.ownsRow B 77 2 v l.length (instrCells l)) (h1 : 0 < l.length) : ∃ g c, v = .slice (some ⟨g, 0, none⟩) l.length c ∧ SeesP w (some ⟨g, 0, none⟩) l := by
  obtain ⟨g, c, hv⟩ := Joins.ownsRow_form h h1
  subst hv
  refine ⟨g, c, rfl, g, 0, fun _ => rfl, fun k x hx => ?_⟩
  have hk : k < l.length := (List.getElem?_eq_some_iff.1 hx).1
  rw [Nat.zero_add]
  exact ⟨(h.cellAt (k * 2) (by omega)).trans (instrCells_at l k _ hx).1, (h.cellAt (k * 2 + 1) (by omega)).trans (instrCells_at l k _ hx).2⟩
set_option maxHeartbeats 4000000 in
theorem DictCodes_yes (base op a b x y : Int) (N : Nat) (w : World) (he : Env w) (hx1 : -9223372036854775808 ≤ x) (hx2 : x ≤ 9223372036854775807) (hy1 : -9223372036854775808 ≤ y) (hy2 : y ≤ 9223372036854775807) (h : codeOkD base N op a b x y = true) :
    Calls Tryz.prog 8 #[.int .i64 base, .int .i64 N, .agg #[.int .i64 op, .int .i64 a, .int .i64 b, .int .i64 x, .int .i64 y]] w fun e w' => e = .returned (.bool true) ∧ Below w.heap.size w w' := by
  have HCODE := fun w' he' => Lib.hid (Code_yesD base op a b x y N w' he' hx1 hx2 hy1 hy2 h)
  have HE := Lib.hid (fun W (hb : Below w.heap.size w W) => he.below hb)
  simp only [codeOkD, Bool.and_eq_true, decide_eq_true_eq] at h
  obtain ⟨⟨⟨hr, hm⟩, hb0⟩, hb1⟩ := h
  obtain ⟨hr2, hn1, hn2⟩ := roomI_yes hr
  have ho := (mayD_op hm).2.2
  have HV := Lib.hid (verify_progs (homeN x N : Nat) base op x y N ho)
  have HF := Lib.hid (formed_progs (homeN x N : Nat) base op x y N ho)
  have HR := Lib.hid hr2
  have HM := Lib.hid hm
  rw [hr2] at hb1
  generalize progLD op.toNat (homeN x N : Nat) N base x y = PR at HCODE HV HF
  have hn0 : decide (0 < 1 + 3 * (N : Int)) = true := by simp; omega
  have g1 : decide (0 ≤ base) = true := by simp; omega
  have g2 : decide (base ≤ 256 - (1 + 3 * (N : Int))) = true := by simp; omega
  clear he ho hm hr hr2
  go_enter Tryz.func8, Tryz.ntmps8
  go_upto_region 2 with (go_at_call 9; go_must (refine (awake_any _ (HE.out _ ((Below.refl _ _).alloc (Nat.le_refl _) _))).mono ?_; rintro e w1 ⟨rfl, hb1⟩))
  have hB1 : Below w.heap.size w w1 := ((Below.refl _ _).alloc (Nat.le_refl _) _).trans (hb1.mono (by simp))
  have hd1 : w1.heap[w.heap.size]? = some (.cells #[.int .i64 op, .int .i64 a, .int .i64 b, .int .i64 x, .int .i64 y] 40) := (hb1.block _ (by simp)).trans (heap_new _ _ _ rfl)
  have c0 := cell_of_row _ _ 0 _ _ _ hd1
  have c1 := cell_of_row _ _ 1 _ _ _ hd1
  have c2 := cell_of_row _ _ 2 _ _ _ hd1
  have c3 := cell_of_row _ _ 3 _ _ _ hd1
  have c4 := cell_of_row _ _ 4 _ _ _ hd1
  have HD1 := Lib.hid hd1
  clear hb1 hd1
  go_upto_region 3 with (go_at_call 24; go_must (refine (HCODE _ (HE.out _ hB1)).out.mono ?_; rintro e w2 ⟨v, rfl, ho2, hb2⟩))
  obtain ⟨g, cap, rfl, hs2⟩ := own_seesP ho2 (by have := formed_len HF.out; omega)
  have hd2 := (hb2.block _ (lt_of_block HD1.out)).trans HD1.out
  have hB2 : Below w.heap.size w w2 := hB1.trans (hb2.mono hB1.size)
  clear c0 c1 c2 c3 c4 ho2 hb2
  have c0 := cell_of_row _ _ 0 _ _ _ hd2
  have c1 := cell_of_row _ _ 1 _ _ _ hd2
  have c2 := cell_of_row _ _ 2 _ _ _ hd2
  have c3 := cell_of_row _ _ 3 _ _ _ hd2
  have c4 := cell_of_row _ _ 4 _ _ _ hd2
  have HS2 := Lib.hid hs2
  clear hs2 hd2
  go_wp2_with (first
    | (go_at_call 15; go_must (refine (refRoom_any N _).mono ?_; rintro e w3 ⟨rfl, rfl⟩; rw [HR.out]))
    | (go_at_call 25; go_must (refine (May_any N op a b x y _).mono ?_; rintro e w4 ⟨rfl, hb4⟩; rw [HM.out]))
    | (go_at_call 20; go_must (refine (codeDict_any true _).mono ?_; rintro e w5 ⟨rfl, rfl⟩))
    | (go_at_call 26; go_must (refine (formed_yes _ _ PR _ (HS2.out.below hb4) HF.out).mono ?_; rintro e w6 ⟨rfl, rfl⟩))
    | (go_at_call 27; go_must (refine (Verify_any _ _ PR _ (HS2.out.below hb4) (by have := formed_len HF.out; unfold maxLen; omega)).mono ?_; rintro e w7 ⟨rfl, hb7⟩; rw [HV.out])))
  go_ret
  exact ⟨rfl, (hB2.trans (hb4.mono hB2.size)).trans (hb7.mono (Nat.le_trans hB2.size hb4.size))⟩
set_option maxHeartbeats 4000000 in
theorem DictCodes_no (base n op a b x y : Int) (w : World) (he : Env w) (hlim : base ≤ 9223372036854775807) (h : codeOkD base n op a b x y = false) :
    Calls Tryz.prog 8 #[.int .i64 base, .int .i64 n, .agg #[.int .i64 op, .int .i64 a, .int .i64 b, .int .i64 x, .int .i64 y]] w fun e w' => e = .returned (.bool true) ∧ Below w.heap.size w w' := by
  have HCODE := fun w' => Lib.hid (Code_noD base n op a b x y w' hlim h)
  have HE := Lib.hid (fun W (hb : Below w.heap.size w W) => he.below hb)
  have hcase : roomI n = 0 ∨ (roomI n = 1 + 3 * n ∧ 1 ≤ n ∧ n ≤ 60 ∧ mayD op a b x y = false) ∨ (roomI n = 1 + 3 * n ∧ 1 ≤ n ∧ n ≤ 60 ∧ mayD op a b x y = true ∧ base < 0) ∨ (roomI n = 1 + 3 * n ∧ 1 ≤ n ∧ n ≤ 60 ∧ mayD op a b x y = true ∧ 0 ≤ base ∧ 256 - (1 + 3 * n) < base) := by
    by_cases hr : roomI n = 0
    · exact .inl hr
    · obtain ⟨hr2, hn1, hn2⟩ := roomI_yes hr
      cases hm : mayD op a b x y with
      | false => exact .inr (.inl ⟨hr2, hn1, hn2, rfl⟩)
      | true =>
        by_cases g : base < 0
        · exact .inr (.inr (.inl ⟨hr2, hn1, hn2, rfl, g⟩))
        · refine .inr (.inr (.inr ⟨hr2, hn1, hn2, rfl, by omega, ?_⟩))
          by_cases g2 : 256 - (1 + 3 * n) < base
          · exact g2
          · exfalso
            have : codeOkD base n op a b x y = true := by
              simp only [codeOkD, Bool.and_eq_true, decide_eq_true_eq]
              exact ⟨⟨⟨hr, hm⟩, by omega⟩, by rw [hr2]; omega⟩
            rw [this] at h; cases h
  clear he h
  go_enter Tryz.func8, Tryz.ntmps8
  go_upto_region 2 with (go_at_call 9; go_must (refine (awake_any _ (HE.out _ ((Below.refl _ _).alloc (Nat.le_refl _) _))).mono ?_; rintro e w1 ⟨rfl, hb1⟩))
  have hB1 : Below w.heap.size w w1 := ((Below.refl _ _).alloc (Nat.le_refl _) _).trans (hb1.mono (by simp))
  have hd1 : w1.heap[w.heap.size]? = some (.cells #[.int .i64 op, .int .i64 a, .int .i64 b, .int .i64 x, .int .i64 y] 40) := (hb1.block _ (by simp)).trans (heap_new _ _ _ rfl)
  have c0 := cell_of_row _ _ 0 _ _ _ hd1
  have c1 := cell_of_row _ _ 1 _ _ _ hd1
  have c2 := cell_of_row _ _ 2 _ _ _ hd1
  have c3 := cell_of_row _ _ 3 _ _ _ hd1
  have c4 := cell_of_row _ _ 4 _ _ _ hd1
  have HD1 := Lib.hid hd1
  clear hb1 hd1
  go_upto_region 3 with (go_at_call 24; go_must (refine (HCODE _).out.mono ?_; rintro e w2 ⟨rfl, hb2⟩))
  have hd2 := (hb2.block _ (lt_of_block HD1.out)).trans HD1.out
  have hB2 : Below w.heap.size w w2 := hB1.trans (hb2.mono hB1.size)
  clear c0 c1 c2 c3 c4 hb2
  have c0 := cell_of_row _ _ 0 _ _ _ hd2
  have c1 := cell_of_row _ _ 1 _ _ _ hd2
  have c2 := cell_of_row _ _ 2 _ _ _ hd2
  have c3 := cell_of_row _ _ 3 _ _ _ hd2
  have c4 := cell_of_row _ _ 4 _ _ _ hd2
  clear hd2
  rcases hcase with hr | ⟨hr, hn1, hn2, hm⟩ | ⟨hr, hn1, hn2, hm, g1⟩ | ⟨hr, hn1, hn2, hm, g1, g2⟩
  · have HR := Lib.hid hr
    clear hr
    go_wp2_with (first
      | (go_at_call 15; go_must (refine (refRoom_any n _).mono ?_; rintro e w3 ⟨rfl, rfl⟩; rw [HR.out]))
      | (go_at_call 20; go_must (refine (codeDict_any false _).mono ?_; rintro e w5 ⟨rfl, rfl⟩)))
    go_ret
    exact ⟨rfl, hB2⟩
  · have HR := Lib.hid hr
    have HM := Lib.hid hm
    have hn0 : decide (0 < 1 + 3 * n) = true := by simp; omega
    clear hr hm
    go_wp2_with (first
      | (go_at_call 15; go_must (refine (refRoom_any n _).mono ?_; rintro e w3 ⟨rfl, rfl⟩; rw [HR.out]))
      | (go_at_call 25; go_must (refine (May_any n op a b x y _).mono ?_; rintro e w4 ⟨rfl, hb4⟩; rw [HM.out]))
      | (go_at_call 20; go_must (refine (codeDict_any false _).mono ?_; rintro e w5 ⟨rfl, rfl⟩)))
    go_ret
    exact ⟨rfl, hB2.trans (hb4.mono hB2.size)⟩
  · have HR := Lib.hid hr
    have HM := Lib.hid hm
    have hn0 : decide (0 < 1 + 3 * n) = true := by simp; omega
    have d1 : decide (0 ≤ base) = false := by simp; omega
    clear hr hm
    go_wp2_with (first
      | (go_at_call 15; go_must (refine (refRoom_any n _).mono ?_; rintro e w3 ⟨rfl, rfl⟩; rw [HR.out]))
      | (go_at_call 25; go_must (refine (May_any n op a b x y _).mono ?_; rintro e w4 ⟨rfl, hb4⟩; rw [HM.out]))
      | (go_at_call 20; go_must (refine (codeDict_any false _).mono ?_; rintro e w5 ⟨rfl, rfl⟩)))
    go_ret
    exact ⟨rfl, hB2.trans (hb4.mono hB2.size)⟩
  · have HR := Lib.hid hr
    have HM := Lib.hid hm
    have hn0 : decide (0 < 1 + 3 * n) = true := by simp; omega
    have d1 : decide (0 ≤ base) = true := by simp; omega
    have d2 : decide (base ≤ 256 - (1 + 3 * n)) = false := by simp; omega
    clear hr hm
    go_wp2_with (first
      | (go_at_call 15; go_must (refine (refRoom_any n _).mono ?_; rintro e w3 ⟨rfl, rfl⟩; rw [HR.out]))
      | (go_at_call 25; go_must (refine (May_any n op a b x y _).mono ?_; rintro e w4 ⟨rfl, hb4⟩; rw [HM.out]))
      | (go_at_call 20; go_must (refine (codeDict_any false _).mono ?_; rintro e w5 ⟨rfl, rfl⟩)))
    go_ret
    exact ⟨rfl, hB2.trans (hb4.mono hB2.size)⟩
theorem DictCodes_any (base n op a b x y : Int) (w : World) (he : Env w) (hlim : base ≤ 9223372036854775807) (hx1 : -9223372036854775808 ≤ x) (hx2 : x ≤ 9223372036854775807) (hy1 : -9223372036854775808 ≤ y) (hy2 : y ≤ 9223372036854775807) :
    Calls Tryz.prog 8 #[.int .i64 base, .int .i64 n, .agg #[.int .i64 op, .int .i64 a, .int .i64 b, .int .i64 x, .int .i64 y]] w fun e w' => e = .returned (.bool true) ∧ Below w.heap.size w w' := by
  cases h : codeOkD base n op a b x y with
  | true =>
    have hr : roomI n ≠ 0 := by
      simp only [codeOkD, Bool.and_eq_true, decide_eq_true_eq] at h
      exact h.1.1.1
    have hn := roomI_yes hr
    obtain ⟨N, rfl⟩ : ∃ N : Nat, n = N := ⟨n.toNat, by omega⟩
    exact DictCodes_yes base op a b x y N w he hx1 hx2 hy1 hy2 h
  | false => exact DictCodes_no base n op a b x y w he hlim h
end Go.Proofs.YtochpdailleilaaGreatDoor
namespace Go.Proofs.YtochpdailleilaaGreatDoor
open Go.ChangeShapes Go.WideShapes Go.ChangeAt Go.RowKit
set_option maxRecDepth 100000
section
variable {H : Type} {enc : TypeId × Value → H} {W : World} {sp : Nat → Bool}
/-- a deed that came in; its X is within int64 -/
theorem deed_open_x {b0 : Nat} {v : Value} {d : DataW H} {p : List MemPlace} (hv : Value.okWide Tryz.prog W .any b0 40 v) (h : DataW.Trod enc Tryz.prog W 0 sp true 40 v d p) :
    ∃ op a b x y : Int, v = .agg #[.int .i64 op, .int .i64 a, .int .i64 b, .int .i64 x, .int .i64 y] ∧ -9223372036854775808 ≤ x ∧ x ≤ 9223372036854775807 ∧ -9223372036854775808 ≤ y ∧ y ≤ 9223372036854775807 := by
  obtain ⟨cs, rfl, hsz⟩ := okWide_struct Tryz.underlying40 hv
  obtain ⟨l⟩ := cs
  have h5 : l.length = 5 := hsz.trans (by kernel_rfl)
  obtain ⟨n, hf⟩ := h
  obtain ⟨xs, m, _, _, _, hlen, hg⟩ := DataW.trod_struct Tryz.underlying40 hf
  have hx5 : xs.length = 5 := hlen
  match l, h5, xs, hx5 with
  | [v0, v1, v2, v3, v4], _, [x0, x1, x2, x3, x4], _ =>
    have e0 : DataW.trod enc Tryz.prog W 0 sp true m 3 [v0] = some x0 := by simpa [cellsInt, Value.cells] using hg 0 _ rfl
    have e1 : DataW.trod enc Tryz.prog W 0 sp true m 3 [v1] = some x1 := by simpa [cellsInt, Value.cells] using hg 1 _ rfl
    have e2 : DataW.trod enc Tryz.prog W 0 sp true m 3 [v2] = some x2 := by simpa [cellsInt, Value.cells] using hg 2 _ rfl
    have e3 : DataW.trod enc Tryz.prog W 0 sp true m 2 [v3] = some x3 := by simpa [cells64, Value.cells] using hg 3 _ rfl
    have e4 : DataW.trod enc Tryz.prog W 0 sp true m 2 [v4] = some x4 := by simpa [cells64, Value.cells] using hg 4 _ rfl
    obtain ⟨n0, h0, _⟩ := DataW.trod_int Tryz.underlying3 e0
    obtain ⟨n1, h1, _⟩ := DataW.trod_int Tryz.underlying3 e1
    obtain ⟨n2, h2, _⟩ := DataW.trod_int Tryz.underlying3 e2
    obtain ⟨n3, h3, _, hw3⟩ := DataW.trod_int Tryz.underlying2 e3
    obtain ⟨n4, h4, _, hw4⟩ := DataW.trod_int Tryz.underlying2 e4
    injection h0 with h0; injection h1 with h1; injection h2 with h2; injection h3 with h3; injection h4 with h4
    subst h0 h1 h2 h3 h4
    simp [Lit.wf, IntKind.min, IntKind.max, IntKind.signed, IntKind.bits] at hw3 hw4
    exact ⟨_, _, _, _, _, rfl, by omega, by omega, by omega, by omega⟩
end
theorem dictCodes_law {H : Type} (enc : TypeId × Value → H) {W : World} {base : Nat} {args : Array Value} {ds gs : List (DataW H)} {before : List MemPlace}
    (hval : ∀ (j : Nat) t v, Tryz.f8.params[j]? = some t → args[j]? = some v → Value.okWide Tryz.prog W .any base t v)
    (hW : DataW.Whole enc Tryz.prog Tryz.f8.params.toList Rows.dictCodesSpec.vars false W args.toList ds gs before)
    (_hreach : (DataW.weightsEach Tryz.prog (Tryz.f8.params.toList ++ (OpenSpec.ofChange Rows.dictCodesSpec).bare.plain.varTypes Tryz.prog) (ds ++ gs)).all (· ≤ reachBytes) = true) (he : Env W) :
    Calls Tryz.prog 8 args W fun e W' => ∃ v, e = .returned v ∧ Rows.dictCodesSpec.post enc Tryz.prog Tryz.f8 false true false false W args v W' := by
  have hW' := hW
  obtain ⟨p, q, hA0, hV, rfl, hfz, hnd⟩ := hW
  have hA : DataW.TrodAll enc Tryz.prog W 0 (fun _ => true) true Tryz.f8.params.toList args.toList ds p := hA0
  rw [Tryz.params8] at hA hval
  obtain ⟨v0, v1, v2, d0, d1, d2, p0, p1, p2, rfl, rfl, rfl, h0, h1, h2⟩ := trodAll_three hA
  obtain ⟨bs, rfl, rfl, rfl, hw0⟩ := open_int Tryz.underlying3 (hval 0 _ _ rfl rfl) h0
  obtain ⟨n, rfl, rfl, rfl, _⟩ := open_int Tryz.underlying3 (hval 1 _ _ rfl rfl) h1
  obtain ⟨op, a, b, x, y, rfl, hx1, hx2, hy1, hy2⟩ := deed_open_x (hval 2 _ _ rfl rfl) h2
  simp [Lit.wf, IntKind.min, IntKind.max, IntKind.signed, IntKind.bits] at hw0
  exact (DictCodes_any bs n op a b x y W he (by omega) hx1 hx2 hy1 hy2).mono fun e w' ⟨h1, h2⟩ => ⟨_, h1, law_post laidOut hW' rfl rfl rfl Tryz.underlying4 (by kernel_rfl) h2⟩
end Go.Proofs.YtochpdailleilaaGreatDoor
