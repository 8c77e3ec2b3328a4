/-
  quash/set.Code: every call. Condition: the library's variables (Env).
-/
import Derived.Test.YtkioddgolmaaeaaGreatDoorSetProgs
namespace Go.Proofs.YtkioddgolmaaeaaGreatDoor
open Go.RowKit
set_option maxRecDepth 100000

def progL1 (base x : Int) : List (Int × Int) := [(16, 0), (1, base), (6, 0), (5, 0), (17, 0), (6, 1), (5, 1), (15, 33), (5, 1), (1, 2), (9, 0), (1, base + 1), (7, 0), (6, 2), (5, 2), (17, 0), (6, 3), (5, 3), (1, x), (11, 0), (15, 26), (5, 2), (1, 1), (7, 0), (6, 0), (14, 3), (5, 3), (1, x), (12, 0), (15, 33), (1, 0), (21, 0), (14, 72), (1, base + 1), (17, 0), (6, 4), (5, 4), (15, 70), (5, 4), (1, 2), (9, 0), (1, base + 1), (7, 0), (6, 2), (1, base + 1), (5, 2), (1, 1), (7, 0), (17, 0), (18, 0), (5, 2), (1, x), (18, 0), (5, 2), (1, 1), (7, 0), (5, 1), (18, 0), (5, 0), (5, 4), (18, 0), (1, base + 2), (1, base + 2), (17, 0), (1, 1), (7, 0), (18, 0), (1, 1), (21, 0), (14, 72), (1, 2), (21, 0), (19, 0)]
def progL2 (base x : Int) : List (Int × Int) := [(16, 0), (1, base), (6, 0), (5, 0), (17, 0), (6, 1), (5, 1), (15, 54), (5, 1), (1, 2), (9, 0), (1, base + 1), (7, 0), (6, 2), (5, 2), (17, 0), (6, 3), (5, 3), (1, x), (11, 0), (15, 26), (5, 2), (1, 1), (7, 0), (6, 0), (14, 3), (5, 3), (1, x), (12, 0), (15, 54), (5, 0), (5, 2), (1, 1), (7, 0), (17, 0), (18, 0), (5, 2), (1, 1), (7, 0), (1, base + 1), (17, 0), (18, 0), (1, base + 1), (5, 1), (18, 0), (1, base + 2), (1, base + 2), (17, 0), (1, 1), (8, 0), (18, 0), (1, 1), (21, 0), (14, 56), (1, 0), (21, 0), (19, 0)]
def progL3 (base x : Int) : List (Int × Int) := [(16, 0), (1, base), (6, 0), (5, 0), (17, 0), (6, 1), (5, 1), (15, 26), (5, 1), (1, 2), (9, 0), (1, base + 1), (7, 0), (6, 2), (5, 2), (17, 0), (6, 3), (5, 3), (1, x), (11, 0), (15, 29), (5, 2), (1, 1), (7, 0), (6, 0), (14, 3), (1, 0), (21, 0), (14, 33), (5, 3), (1, x), (12, 0), (21, 0), (19, 0)]
def progL4 (base _x : Int) : List (Int × Int) := [(16, 0), (1, base), (17, 0), (6, 0), (5, 0), (15, 16), (1, 1), (21, 0), (5, 0), (1, 2), (9, 0), (1, base + 1), (7, 0), (17, 0), (21, 0), (14, 18), (1, 0), (21, 0), (19, 0)]
def progTD : Nat → List UInt8
  | 1 => progT1
  | 2 => progT2
  | 3 => progT3
  | 4 => progT4
  | _ => progT5
def progND (k : Nat) (base x : Int) : List Int := match k with
  | 1 => progN1 base x
  | 2 => progN2 base x
  | 3 => progN3 base x
  | 4 => progN4 base x
  | _ => [base + 2]
def progLD (k : Nat) (base x : Int) : List (Int × Int) := match k with
  | 1 => progL1 base x
  | 2 => progL2 base x
  | 3 => progL3 base x
  | 4 => progL4 base x
  | _ => progL5 base
def codeOkD (base n op a b x y : Int) : Bool := decide (roomI n ≠ 0) && mayD op a b x y && decide (0 ≤ base) && decide (base + roomI n ≤ 256)
def CodeDoesD (base n op a b x y : Int) (w : World) (e : Ending) (w' : World) : Prop :=
  if codeOkD base n op a b x y then ProgDoes (progLD op.toNat base x) w e w'
  else e = .returned (.tuple #[.slice none 0 0, .int .i64 180]) ∧ Below w.heap.size w w'
theorem mayD_op {op a b x y : Int} (h : mayD op a b x y = true) : a = 0 ∧ b = 0 ∧ y = 0 ∧ (op = 1 ∨ op = 2 ∨ op = 3 ∨ op = 4 ∧ x = 0 ∨ op = 5 ∧ x = 0) := by
  unfold mayD at h
  simp at h
  omega
theorem program_at (base op x : Int) (w : World) (h1 : 0 ≤ base) (h2 : base ≤ 256) (ho : op = 1 ∨ op = 2 ∨ op = 3 ∨ op = 4 ∧ x = 0 ∨ op = 5 ∧ x = 0) :
    Calls Tryz.prog 34 #[.int .i64 base, .agg #[.int .i64 op, .int .i64 0, .int .i64 0, .int .i64 x, .int .i64 0]] w fun e w' => ∃ g c, e = .returned (.tuple #[.string (S (progTD op.toNat)), .slice (some ⟨g, 0, none⟩) (progND op.toNat base x).length c]) ∧ Bal w' w.heap.size g c (progND op.toNat base x) ∧ Below w.heap.size w w' := by
  obtain rfl | rfl | rfl | ⟨rfl, rfl⟩ | ⟨rfl, rfl⟩ := ho
  · exact program1_any base x w h1 h2
  · exact program2_any base x w h1 h2
  · exact program3_any base x w h1 h2
  · exact program4_any base 0 w h1 h2
  · refine (program5_any base 0 w h1 h2).mono fun e w' => ?_
    rintro ⟨g, he, hg, hb, hge⟩
    exact ⟨g, 1, he, Bal.of_block (zs := [base + 2]) hge hg rfl (Nat.le_refl _) (by unfold maxLen; omega) rfl, hb⟩
theorem lines_at (base op x : Int) (w : World) (he : Env w) (h1 : 0 ≤ base) (h2 : base ≤ 256) (hx1 : -9223372036854775808 ≤ x) (hx2 : x ≤ 9223372036854775807)
    (ho : op = 1 ∨ op = 2 ∨ op = 3 ∨ op = 4 ∧ x = 0 ∨ op = 5 ∧ x = 0) (B g c : Nat) (hb : Bal w B g c (progND op.toNat base x)) :
    Calls Tryz.prog 35 #[.string (S (progTD op.toNat)), .slice (some ⟨g, 0, none⟩) (progND op.toNat base x).length c] w (ProgDoes (progLD op.toNat base x) w) := by
  obtain ⟨hl, hc⟩ := hb.caps
  unfold maxLen at hc
  have hlt := hb.lt.1
  have hcs : ∀ j, j < (progND op.toNat base x).length → w.cell? ⟨g, j, none⟩ = some (.int .i64 ((progND op.toNat base x).getD j 0)) := fun j hj => hb.cell j (by rw [List.getD_eq_getElem?_getD, List.getElem?_eq_getElem hj]; rfl)
  obtain rfl | rfl | rfl | ⟨rfl, rfl⟩ | ⟨rfl, rfl⟩ := ho
  · exact lines_prog progT1 (progN1 base x) (progL1 base x) (by kernel_rfl) (by kernel_rfl) (by kernel_rfl) (by kernel_rfl) (by kernel_rfl) (by kernel_rfl) (by kernel_rfl) g c w he hl (by omega) hlt hcs (inR_cons (by omega) (by omega) (inR_cons (by omega) (by omega) (inR_cons (by omega) (by omega) (inR_cons (by omega) (by omega) (inR_cons (by omega) (by omega) (inR_cons (by omega) (by omega) (inR_cons (by omega) (by omega) (inR_cons (by omega) (by omega) (inR_cons (by omega) (by omega) (inR_cons (by omega) (by omega) (inR_nil)))))))))))
  · exact lines_prog progT2 (progN2 base x) (progL2 base x) (by kernel_rfl) (by kernel_rfl) (by kernel_rfl) (by kernel_rfl) (by kernel_rfl) (by kernel_rfl) (by kernel_rfl) g c w he hl (by omega) hlt hcs (inR_cons (by omega) (by omega) (inR_cons (by omega) (by omega) (inR_cons (by omega) (by omega) (inR_cons (by omega) (by omega) (inR_cons (by omega) (by omega) (inR_cons (by omega) (by omega) (inR_cons (by omega) (by omega) (inR_cons (by omega) (by omega) (inR_nil)))))))))
  · exact lines_prog progT3 (progN3 base x) (progL3 base x) (by kernel_rfl) (by kernel_rfl) (by kernel_rfl) (by kernel_rfl) (by kernel_rfl) (by kernel_rfl) (by kernel_rfl) g c w he hl (by omega) hlt hcs (inR_cons (by omega) (by omega) (inR_cons (by omega) (by omega) (inR_cons (by omega) (by omega) (inR_cons (by omega) (by omega) (inR_nil)))))
  · exact lines_prog progT4 (progN4 base 0) (progL4 base 0) (by kernel_rfl) (by kernel_rfl) (by kernel_rfl) (by kernel_rfl) (by kernel_rfl) (by kernel_rfl) (by kernel_rfl) g c w he hl (by omega) hlt hcs (inR_cons (by omega) (by omega) (inR_cons (by omega) (by omega) (inR_nil)))
  · exact lines_prog progT5 ([base + 2]) (progL5 base) (by kernel_rfl) (by kernel_rfl) (by kernel_rfl) (by kernel_rfl) (by kernel_rfl) (by kernel_rfl) (by kernel_rfl) g c w he hl (by omega) hlt hcs (inR_cons (by omega) (by omega) (inR_nil))
set_option maxHeartbeats 1000000 in
theorem Code_yesD (base n op a b x y : Int) (w : World) (he : Env w) (hx1 : -9223372036854775808 ≤ x) (hx2 : x ≤ 9223372036854775807) (h : codeOkD base n op a b x y = true) : Calls Tryz.prog 23 #[.int .i64 base, .int .i64 n, .agg #[.int .i64 op, .int .i64 a, .int .i64 b, .int .i64 x, .int .i64 y]] w (ProgDoes (progLD op.toNat base x) w) := by
  simp only [codeOkD, Bool.and_eq_true, decide_eq_true_eq] at h
  obtain ⟨⟨⟨hr, hm⟩, hb0⟩, hb1⟩ := h
  obtain ⟨hr2, hn1, hn2⟩ := roomI_yes hr
  obtain ⟨rfl, rfl, rfl, ho⟩ := mayD_op hm
  have HE := Lib.hid (fun W (hb : Below w.heap.size w W) => he.below hb)
  have HPR := fun w' => Lib.hid (program_at base op x w' hb0 (by omega) ho)
  have HLI := fun w' he' B g c hb => Lib.hid (lines_at base op x w' he' hb0 (by omega) hx1 hx2 ho B g c hb)
  have HR := Lib.hid hr2
  have HM := Lib.hid hm
  have hn0 : (3 + 2 * n == 0) = false := by simp; omega
  have g1 : ¬ base < 0 := by omega
  have g2 : ¬ 256 - (3 + 2 * n) < base := by omega
  rw [hr2] at hb1
  generalize progTD op.toNat = TX at HPR HLI
  generalize progND op.toNat base x = NS at HPR HLI
  generalize progLD op.toNat base x = PR at HLI ⊢
  clear he ho hm hr hr2
  go_enter Tryz.func23, Tryz.ntmps23
  go_wp2_with (first
    | (go_at_call 20; go_must (refine (Room_any n _).mono ?_; rintro e w1 ⟨rfl, rfl⟩; rw [HR.out]))
    | (go_at_call 29; go_must (refine (mayD_any op 0 0 x 0 _).mono ?_; rintro e w2 ⟨rfl, hb2⟩; rw [HM.out]; obtain ⟨hc2, _⟩ := bcell hb2))
    | (go_at_call 34; go_must (refine (HPR _).out.mono ?_; rintro e w3 ⟨g, c, rfl, hg3, hb3⟩))
    | (go_at_call 35; go_must (refine (HLI _ (HE.out _ ((((Below.refl _ _).alloc (Nat.le_refl _) _).trans (hb2.mono (by simp))).trans (hb3.mono (by have := hb2.size; simp at this; omega)))) _ _ _ hg3).out.mono ?_; rintro e w4 ⟨v, rfl, ho4, hb4⟩)))
  go_ret2
  have hB3 : Below w.heap.size w w3 := (((Below.refl _ _).alloc (Nat.le_refl _) _).trans (hb2.mono (by simp))).trans (hb3.mono (by have := hb2.size; simp at this; omega))
  exact ⟨v, rfl, own_lower ho4 hB3.size, hB3.trans (hb4.mono hB3.size)⟩
set_option maxHeartbeats 1000000 in
theorem Code_noD (base n op a b x y : Int) (w : World) (hlim : base ≤ 9223372036854775807) (h : codeOkD base n op a b x y = false) : Calls Tryz.prog 23 #[.int .i64 base, .int .i64 n, .agg #[.int .i64 op, .int .i64 a, .int .i64 b, .int .i64 x, .int .i64 y]] w fun e w' => e = .returned (.tuple #[.slice none 0 0, .int .i64 180]) ∧ Below w.heap.size w w' := by
  by_cases hr : roomI n = 0
  · have HR := Lib.hid hr
    clear h hr
    go_enter Tryz.func23, Tryz.ntmps23
    go_wp2_with (go_at_call 20; go_must (refine (Room_any n _).mono ?_; rintro e w1 ⟨rfl, rfl⟩; rw [HR.out]))
    go_ret2
    exact ⟨rfl, (Below.refl _ _).alloc (Nat.le_refl _) _⟩
  obtain ⟨hr2, hn1, hn2⟩ := roomI_yes hr
  have HR := Lib.hid hr2
  have hn0 : (3 + 2 * n == 0) = false := by simp; omega
  cases hm : mayD op a b x y with
  | false =>
    have HM := Lib.hid hm
    clear h hr hr2 hm
    go_enter Tryz.func23, Tryz.ntmps23
    go_wp2_with (first
      | (go_at_call 20; go_must (refine (Room_any n _).mono ?_; rintro e w1 ⟨rfl, rfl⟩; rw [HR.out]))
      | (go_at_call 29; go_must (refine (mayD_any op a b x y _).mono ?_; rintro e w2 ⟨rfl, hb2⟩; rw [HM.out])))
    go_ret2
    exact ⟨rfl, ((Below.refl _ _).alloc (Nat.le_refl _) _).trans (hb2.mono (by simp))⟩
  | true =>
    have HM := Lib.hid hm
    have hbb : base < 0 ∨ 0 ≤ base ∧ 256 - (3 + 2 * n) < base := by
      by_cases g : base < 0
      · exact .inl g
      · refine .inr ⟨by omega, ?_⟩
        by_cases g2 : 256 - (3 + 2 * n) < base
        · exact g2
        · exfalso
          have : codeOkD base n op a b x y = true := by
            simp only [codeOkD, Bool.and_eq_true, decide_eq_true_eq]
            exact ⟨⟨⟨hr, hm⟩, by omega⟩, by rw [hr2]; omega⟩
          rw [this] at h; cases h
    clear h hr hr2 hm
    rcases hbb with g1 | ⟨g1, g2⟩
    · go_enter Tryz.func23, Tryz.ntmps23
      go_wp2_with (first
        | (go_at_call 20; go_must (refine (Room_any n _).mono ?_; rintro e w1 ⟨rfl, rfl⟩; rw [HR.out]))
        | (go_at_call 29; go_must (refine (mayD_any op a b x y _).mono ?_; rintro e w2 ⟨rfl, hb2⟩; rw [HM.out])))
      go_ret2
      exact ⟨rfl, ((Below.refl _ _).alloc (Nat.le_refl _) _).trans (hb2.mono (by simp))⟩
    · go_enter Tryz.func23, Tryz.ntmps23
      go_wp2_with (first
        | (go_at_call 20; go_must (refine (Room_any n _).mono ?_; rintro e w1 ⟨rfl, rfl⟩; rw [HR.out]))
        | (go_at_call 29; go_must (refine (mayD_any op a b x y _).mono ?_; rintro e w2 ⟨rfl, hb2⟩; rw [HM.out])))
      go_ret2
      exact ⟨rfl, ((Below.refl _ _).alloc (Nat.le_refl _) _).trans (hb2.mono (by simp))⟩
theorem Code_anyD (base n op a b x y : Int) (w : World) (he : Env w) (hlim : base ≤ 9223372036854775807) (hx1 : -9223372036854775808 ≤ x) (hx2 : x ≤ 9223372036854775807) : Calls Tryz.prog 23 #[.int .i64 base, .int .i64 n, .agg #[.int .i64 op, .int .i64 a, .int .i64 b, .int .i64 x, .int .i64 y]] w (CodeDoesD base n op a b x y w) := by
  cases h : codeOkD base n op a b x y with
  | true => exact (Code_yesD base n op a b x y w he hx1 hx2 h).mono fun e w' hd => by unfold CodeDoesD; rw [if_pos h]; exact hd
  | false => exact (Code_noD base n op a b x y w hlim h).mono fun e w' hd => by unfold CodeDoesD; rw [if_neg (by rw [h]; decide)]; exact hd
end Go.Proofs.YtkioddgolmaaeaaGreatDoor
