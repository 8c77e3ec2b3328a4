/-
  quash/bank.of: which deeds may be, and their kind. No condition.
-/
import Derived.Test.YtcobmefgefkdmaaGreatDoorBankKinds
import Derived.Laws.EntriesVeiled
import Derived.Test.YtcobmefgefkdmaaGreatDoorCodeParse
namespace Go.Proofs.YtcobmefgefkdmaaGreatDoor
open Go.RowKit
set_option maxRecDepth 100000

def deedV (op a b x y : Int) : Value := .agg #[.int .i64 op, .int .i64 a, .int .i64 b, .int .i64 x, .int .i64 y]
def kindV (k : Nat) : Value := .agg (kindL k).toArray
def kA (op : Int) : Bool := op == 1 || op == 2 || op == 3 || op == 4
def kB (op : Int) : Bool := op == 3
def kX (op : Int) : Bool := op == 1 || op == 2 || op == 3
def ofB (n op a b x y : Int) : Bool := decide (1 ≤ op) && decide (op ≤ 5) && decide (y = 0) && rightB (kA op) a n && rightB (kB op) b n && decide (0 ≤ x) && decide (x ≤ 2147483648) && (kX op || decide (x = 0))
def OfDoes (n op a b x y : Int) (w : World) (e : Ending) (w' : World) : Prop :=
  e = .returned (.tuple #[if ofB n op a b x y then kindV op.toNat else kindV 0, .bool (ofB n op a b x y)]) ∧ Below w.heap.size w w'
theorem kind_at (k : Nat) (h1 : 1 ≤ k) (h2 : k ≤ 5) : ∃ f g, kindL k = kindCells (kA k) (kB k) (kX k) (fn f) (fn g) ∧ kindsArr[k*5]? = some (.bool (kA k)) ∧ kindsArr[k*5+1]? = some (.bool (kB k)) ∧ kindsArr[k*5+2]? = some (.bool (kX k)) ∧ kindsArr[k*5+3]? = some (fn f) ∧ kindsArr[k*5+4]? = some (fn g) := by
  obtain rfl | rfl | rfl | rfl | rfl : k = 1 ∨ k = 2 ∨ k = 3 ∨ k = 4 ∨ k = 5 := by omega
  all_goals exact ⟨_, _, rfl, rfl, rfl, rfl, rfl, rfl⟩
theorem ofB_form (n a b x : Int) (k : Nat) (h1 : 1 ≤ k) (h2 : k ≤ 5) : ofB n k a b x 0 = (rightB (kA k) a n && rightB (kB k) b n && decide (0 ≤ x) && decide (x ≤ 2147483648) && (kX k || decide (x = 0))) := by
  simp [ofB, show (1:Int) ≤ k by omega, show (k:Int) ≤ 5 by omega]
theorem five_set {w : World} {p B : Nat} {x0 x1 x2 x3 x4 y0 y1 y2 y3 y4 : Value} {t : TypeId} (h : w.heap[p]? = some (.cells #[x0, x1, x2, x3, x4] t)) (hB : B ≤ p) :
    (((((w.setCell ⟨p, 0, none⟩ y0).setCell ⟨p, 1, none⟩ y1).setCell ⟨p, 2, none⟩ y2).setCell ⟨p, 3, none⟩ y3).setCell ⟨p, 4, none⟩ y4).heap[p]? = some (.cells #[y0, y1, y2, y3, y4] t) ∧ Below B w (((((w.setCell ⟨p, 0, none⟩ y0).setCell ⟨p, 1, none⟩ y1).setCell ⟨p, 2, none⟩ y2).setCell ⟨p, 3, none⟩ y3).setCell ⟨p, 4, none⟩ y4) := by
  have k0 := heap_setCell_same w p 0 _ _ y0 h
  have k1 := heap_setCell_same _ p 1 _ _ y1 k0
  have k2 := heap_setCell_same _ p 2 _ _ y2 k1
  have k3 := heap_setCell_same _ p 3 _ _ y3 k2
  have k4 := heap_setCell_same _ p 4 _ _ y4 k3
  exact ⟨k4, ((((((Below.refl B w).setCell (p := ⟨p, 0, none⟩) hB _).setCell (p := ⟨p, 1, none⟩) hB _).setCell (p := ⟨p, 2, none⟩) hB _).setCell (p := ⟨p, 3, none⟩) hB _).setCell (p := ⟨p, 4, none⟩) hB _)⟩
theorem of_leave {a : Act} {W : World} {p : Nat} {y0 y1 y2 y3 y4 : Value} {v : Bool} (h : W.heap[p]? = some (.cells #[y0, y1, y2, y3, y4] 51)) (h4 : a.tmps[4]? = some (.pointer (some ⟨p, 0, none⟩))) (h5 : a.tmps[5]? = some (.bool v)) :
    (results Tryz.f21 a.tmps).run Tryz.prog W = .ok (.tuple #[.agg #[y0, y1, y2, y3, y4], .bool v]) W := by
  have c0 : W.cell? ⟨p, 0, none⟩ = some y0 := cell_of_row _ _ 0 _ _ _ h
  have c1 : W.cell? ⟨p, 1, none⟩ = some y1 := cell_of_row _ _ 1 _ _ _ h
  have c2 : W.cell? ⟨p, 2, none⟩ = some y2 := cell_of_row _ _ 2 _ _ _ h
  have c3 : W.cell? ⟨p, 3, none⟩ = some y3 := cell_of_row _ _ 3 _ _ _ h
  have c4 : W.cell? ⟨p, 4, none⟩ = some y4 := cell_of_row _ _ 4 _ _ _ h
  simp [results, Tryz.results21, go_sem, h4, h5, c0, c1, c2, c3, c4]
set_option maxHeartbeats 2000000 in
theorem of_any (n op a b x y : Int) (w : World) :
    Calls Tryz.prog 21 #[.int .i64 n, deedV op a b x y] w (OfDoes n op a b x y w) := by
  by_cases h1 : op < 1
  · have hb : ofB n op a b x y = false := by simp [ofB, show ¬ 1 ≤ op by omega]
    have HB := Lib.hid hb
    clear hb
    unfold deedV
    go_enter Tryz.func21, Tryz.ntmps21
    go_wp2_with (first | (go_at_call 26; go_must (refine (kinds_any _).mono ?_; rintro e w1 ⟨rfl, rfl⟩)))
    refine bodyPost_ret_by (of_leave (p := w.heap.size+1+1) (v := false) (y0 := .bool false) (y1 := .bool false) (y2 := .bool false) (y3 := .nilFunc) (y4 := .nilFunc) ?_ rfl rfl) rfl ?_
    rotate_left
    · unfold OfDoes
      rw [HB.out]
      exact ⟨rfl, ((((Below.refl _ _).alloc (Nat.le_refl _) _).alloc (by simp) _).alloc (by simp; omega) _).alloc (by simp; omega) _⟩
    · exact (Below.heap_alloc _ _ _ (by simp)).trans (heap_new _ _ _ (by simp))
  by_cases h2 : 6 ≤ op
  · have hb : ofB n op a b x y = false := by simp [ofB, show ¬ op ≤ 5 by omega]
    have HB := Lib.hid hb
    clear hb
    unfold deedV
    go_enter Tryz.func21, Tryz.ntmps21
    go_wp2_with (first | (go_at_call 26; go_must (refine (kinds_any _).mono ?_; rintro e w1 ⟨rfl, rfl⟩)))
    refine bodyPost_ret_by (of_leave (p := w.heap.size+1+1) (v := false) (y0 := .bool false) (y1 := .bool false) (y2 := .bool false) (y3 := .nilFunc) (y4 := .nilFunc) ?_ rfl rfl) rfl ?_
    rotate_left
    · unfold OfDoes
      rw [HB.out]
      exact ⟨rfl, ((((Below.refl _ _).alloc (Nat.le_refl _) _).alloc (by simp) _).alloc (by simp; omega) _).alloc (by simp; omega) _⟩
    · exact (Below.heap_alloc _ _ _ (by simp)).trans (heap_new _ _ _ (by simp))
  by_cases h3 : y = 0
  case neg =>
    have hb : ofB n op a b x y = false := by simp [ofB, h3]
    have hy : (y != 0) = true := by simpa using h3
    have HB := Lib.hid hb
    clear hb
    unfold deedV
    go_enter Tryz.func21, Tryz.ntmps21
    go_wp2_with (first | (go_at_call 26; go_must (refine (kinds_any _).mono ?_; rintro e w1 ⟨rfl, rfl⟩)))
    refine bodyPost_ret_by (of_leave (p := w.heap.size+1+1) (v := false) (y0 := .bool false) (y1 := .bool false) (y2 := .bool false) (y3 := .nilFunc) (y4 := .nilFunc) ?_ rfl rfl) rfl ?_
    rotate_left
    · unfold OfDoes
      rw [HB.out]
      exact ⟨rfl, ((((Below.refl _ _).alloc (Nat.le_refl _) _).alloc (by simp) _).alloc (by simp; omega) _).alloc (by simp; omega) _⟩
    · exact (Below.heap_alloc _ _ _ (by simp)).trans (heap_new _ _ _ (by simp))
  obtain ⟨k, rfl⟩ : ∃ k : Nat, op = k := ⟨op.toNat, by omega⟩
  subst h3
  obtain ⟨f, g, hk, k0, k1, k2, k3, k4⟩ := kind_at k (by omega) (by omega)
  have HF := Lib.hid (ofB_form n a b x k (by omega) (by omega))
  have HK := Lib.hid hk
  have HOF : ofB n k a b x 0 = ofB n k a b x 0 := rfl
  generalize hka : kA k = ka at *
  generalize hkb : kB k = kb at *
  generalize hkx : kX k = kx at *
  clear hk
  unfold deedV
  go_enter Tryz.func21, Tryz.ntmps21
  go_upto_region 4 with (first | (go_at_call 26; go_must (refine (kinds_any _).mono ?_; rintro e w1 ⟨rfl, rfl⟩)))
  refine wp_gen (fun W => W.heap[w.heap.size]? = some (.cells #[.int .i64 n] 3) ∧ W.heap[w.heap.size+1]? = some (.cells #[.int .i64 k, .int .i64 a, .int .i64 b, .int .i64 x, .int .i64 0] 25) ∧ W.heap[w.heap.size+1+1]? = some (.cells #[.bool false, .bool false, .bool false, .nilFunc, .nilFunc] 51) ∧
    W.heap[w.heap.size+1+1+1]? = some (.cells kindsArr 51) ∧ Below w.heap.size w W) ⟨?_, ?_, ?_, ?_, ?_⟩ ?_
  · exact (Below.heap_alloc _ _ _ (by simp; omega)).trans ((Below.heap_alloc _ _ _ (by simp; omega)).trans ((Below.heap_alloc _ _ _ (by simp)).trans (heap_new _ _ _ rfl)))
  · exact (Below.heap_alloc _ _ _ (by first | (simp; done) | (simp; omega))).trans ((Below.heap_alloc _ _ _ (by simp)).trans (heap_new _ _ _ (by simp)))
  · exact (Below.heap_alloc _ _ _ (by simp)).trans (heap_new _ _ _ (by simp))
  · exact heap_new _ _ _ (by simp)
  · exact ((((Below.refl _ _).alloc (Nat.le_refl _) _).alloc (by simp) _).alloc (by simp; omega) _).alloc (by simp; omega) _
  rintro W ⟨b0, b1, b2, b3, hB⟩
  have hz := lt_of_block b3
  have n0 : W.cell? ⟨w.heap.size, 0, none⟩ = some (.int .i64 n) := cell_of_row _ _ 0 _ _ _ b0
  have d0 : W.cell? ⟨w.heap.size+1, 0, none⟩ = some (.int .i64 k) := cell_of_row _ _ 0 _ _ _ b1
  have d1 : W.cell? ⟨w.heap.size+1, 1, none⟩ = some (.int .i64 a) := cell_of_row _ _ 1 _ _ _ b1
  have d2 : W.cell? ⟨w.heap.size+1, 2, none⟩ = some (.int .i64 b) := cell_of_row _ _ 2 _ _ _ b1
  have d3 : W.cell? ⟨w.heap.size+1, 3, none⟩ = some (.int .i64 x) := cell_of_row _ _ 3 _ _ _ b1
  have d4 : W.cell? ⟨w.heap.size+1, 4, none⟩ = some (.int .i64 0) := cell_of_row _ _ 4 _ _ _ b1
  have e0 := (cell_of_row W (w.heap.size+1+1+1) (k*5) _ _ _ b3).trans k0
  have e1 := (cell_of_row W (w.heap.size+1+1+1) (k*5+1) _ _ _ b3).trans k1
  have e2 := (cell_of_row W (w.heap.size+1+1+1) (k*5+2) _ _ _ b3).trans k2
  have e3 := (cell_of_row W (w.heap.size+1+1+1) (k*5+3) _ _ _ b3).trans k3
  have e4 := (cell_of_row W (w.heap.size+1+1+1) (k*5+4) _ _ _ b3).trans k4
  unfold fn at e3 e4
  go_upto_region 6 with fail
  clear k0 k1 k2 k3 k4 e0 e1 e2 e3 e4
  refine wp_gen (fun W2 => (W2.heap[w.heap.size]? = some (.cells #[.int .i64 n] 3) ∧ W2.heap[w.heap.size+1]? = some (.cells #[.int .i64 k, .int .i64 a, .int .i64 b, .int .i64 x, .int .i64 0] 25) ∧ W2.heap[w.heap.size+1+1]? = some (.cells #[.bool false, .bool false, .bool false, .nilFunc, .nilFunc] 51) ∧
    W2.heap[W.heap.size]? = some (.cells #[.bool ka, .bool kb, .bool kx, .func (Fn.func f) #[] #[], .func (Fn.func g) #[] #[]] 51)) ∧ Below w.heap.size w W2) ⟨⟨(Below.heap_alloc _ _ _ (by omega)).trans b0, (Below.heap_alloc _ _ _ (by omega)).trans b1, (Below.heap_alloc _ _ _ (by omega)).trans b2, heap_new _ _ _ rfl⟩, hB.alloc (by omega) _⟩ ?_
  rintro W2 ⟨⟨q0, q1, q2, q3⟩, hB2⟩
  clear n0 d0 d1 d2 d3 d4 b0 b1 b2 b3 hB
  have n0 : W2.cell? ⟨w.heap.size, 0, none⟩ = some (.int .i64 n) := cell_of_row _ _ 0 _ _ _ q0
  have d1 : W2.cell? ⟨w.heap.size+1, 1, none⟩ = some (.int .i64 a) := cell_of_row _ _ 1 _ _ _ q1
  have d2 : W2.cell? ⟨w.heap.size+1, 2, none⟩ = some (.int .i64 b) := cell_of_row _ _ 2 _ _ _ q1
  have d3 : W2.cell? ⟨w.heap.size+1, 3, none⟩ = some (.int .i64 x) := cell_of_row _ _ 3 _ _ _ q1
  have g0 : W2.cell? ⟨W.heap.size, 0, none⟩ = some (.bool ka) := cell_of_row _ _ 0 _ _ _ q3
  have g1 : W2.cell? ⟨W.heap.size, 1, none⟩ = some (.bool kb) := cell_of_row _ _ 1 _ _ _ q3
  have g2 : W2.cell? ⟨W.heap.size, 2, none⟩ = some (.bool kx) := cell_of_row _ _ 2 _ _ _ q3
  have g3 : W2.cell? ⟨W.heap.size, 3, none⟩ = some (.func (Fn.func f) #[] #[]) := cell_of_row _ _ 3 _ _ _ q3
  have g4 : W2.cell? ⟨W.heap.size, 4, none⟩ = some (.func (Fn.func g) #[] #[]) := cell_of_row _ _ 4 _ _ _ q3
  have y0 : W2.cell? ⟨w.heap.size+1+1, 0, none⟩ = some (.bool false) := cell_of_row _ _ 0 _ _ _ q2
  have y1 : W2.cell? ⟨w.heap.size+1+1, 1, none⟩ = some (.bool false) := cell_of_row _ _ 1 _ _ _ q2
  have y2 : W2.cell? ⟨w.heap.size+1+1, 2, none⟩ = some (.bool false) := cell_of_row _ _ 2 _ _ _ q2
  have y3 : W2.cell? ⟨w.heap.size+1+1, 3, none⟩ = some .nilFunc := cell_of_row _ _ 3 _ _ _ q2
  have y4 : W2.cell? ⟨w.heap.size+1+1, 4, none⟩ = some .nilFunc := cell_of_row _ _ 4 _ _ _ q2
  have yf := fun j => frozen_of_row W2 _ j _ _ q2
  cases hr1 : rightB ka a n with
  | false =>
    have HO := Lib.hid (show ofB n k a b x 0 = false by rw [HF.out, hr1]; rfl)
    go_wp2_with (first | (go_at_call 27; go_must (refine (right_any _ _ n _ _ (by assumption)).mono ?_; rintro e w1 ⟨rfl, rfl⟩; rw [hr1])))
    refine bodyPost_ret_by (of_leave (p := w.heap.size+1+1) (v := false) (five_set (B := w.heap.size) q2 (by omega)).1 rfl rfl) rfl ?_
    unfold OfDoes
    rw [HO.out]
    exact ⟨rfl, hB2.trans (five_set q2 (by omega)).2⟩
  | true =>
  cases hr2 : rightB kb b n with
  | false =>
    have HO := Lib.hid (show ofB n k a b x 0 = false by rw [HF.out, hr1, hr2]; rfl)
    go_wp2_with (first | (go_at_call 27; go_must (refine (right_any _ _ n _ _ (by assumption)).mono ?_; rintro e w1 ⟨rfl, rfl⟩; first | rw [hr1] | rw [hr2])))
    refine bodyPost_ret_by (of_leave (p := w.heap.size+1+1) (v := false) (five_set (B := w.heap.size) q2 (by omega)).1 rfl rfl) rfl ?_
    unfold OfDoes
    rw [HO.out]
    exact ⟨rfl, hB2.trans (five_set q2 (by omega)).2⟩
  | true =>
    by_cases hx : x < 0
    · have HO := Lib.hid (show ofB n k a b x 0 = false by rw [HF.out, hr1, hr2]; simp [show ¬ 0 ≤ x by omega])
      go_wp2_with (first | (go_at_call 27; go_must (refine (right_any _ _ n _ _ (by assumption)).mono ?_; rintro e w1 ⟨rfl, rfl⟩; first | rw [hr1] | rw [hr2])))
      refine bodyPost_ret_by (of_leave (p := w.heap.size+1+1) (v := false) (five_set (B := w.heap.size) q2 (by omega)).1 rfl rfl) rfl ?_
      unfold OfDoes
      rw [HO.out]
      exact ⟨rfl, hB2.trans (five_set q2 (by omega)).2⟩
    by_cases hm : 2147483648 < x
    · have HO := Lib.hid (show ofB n k a b x 0 = false by rw [HF.out, hr1, hr2]; simp [show ¬ x ≤ 2147483648 by omega])
      go_wp2_with (first | (go_at_call 27; go_must (refine (right_any _ _ n _ _ (by assumption)).mono ?_; rintro e w1 ⟨rfl, rfl⟩; first | rw [hr1] | rw [hr2])))
      refine bodyPost_ret_by (of_leave (p := w.heap.size+1+1) (v := false) (five_set (B := w.heap.size) q2 (by omega)).1 rfl rfl) rfl ?_
      unfold OfDoes
      rw [HO.out]
      exact ⟨rfl, hB2.trans (five_set q2 (by omega)).2⟩
    have hx0 : 0 ≤ x := by omega
    have hx1 : x ≤ 2147483648 := by omega
    cases kx with
    | true =>
      have HO := Lib.hid (show ofB n k a b x 0 = true by rw [HF.out, hr1, hr2]; simp [hx0, hx1])
      go_wp2_with (first | (go_at_call 27; go_must (refine (right_any _ _ n _ _ (by assumption)).mono ?_; rintro e w1 ⟨rfl, rfl⟩; first | rw [hr1] | rw [hr2])))
      refine bodyPost_ret_by (of_leave (p := w.heap.size+1+1) (v := true) (five_set (B := w.heap.size) q2 (by omega)).1 rfl rfl) rfl ?_
      unfold OfDoes
      rw [HO.out]
      refine ⟨?_, hB2.trans (five_set q2 (by omega)).2⟩
      simp only [if_true, kindV, Int.toNat_natCast, HK.out]
      rfl
    | false =>
      by_cases hz0 : x = 0
      · have HO := Lib.hid (show ofB n k a b x 0 = true by rw [HF.out, hr1, hr2]; simp [hz0])
        subst hz0
        go_wp2_with (first | (go_at_call 27; go_must (refine (right_any _ _ n _ _ (by assumption)).mono ?_; rintro e w1 ⟨rfl, rfl⟩; first | rw [hr1] | rw [hr2])))
        refine bodyPost_ret_by (of_leave (p := w.heap.size+1+1) (v := true) (five_set (B := w.heap.size) q2 (by omega)).1 rfl rfl) rfl ?_
        unfold OfDoes
        rw [HO.out]
        refine ⟨?_, hB2.trans (five_set q2 (by omega)).2⟩
        simp only [if_true, kindV, Int.toNat_natCast, HK.out]
        rfl
      · have HO := Lib.hid (show ofB n k a b x 0 = false by rw [HF.out, hr1, hr2]; simp [hz0])
        have hzb : (x != 0) = true := by simpa using hz0
        go_wp2_with (first | (go_at_call 27; go_must (refine (right_any _ _ n _ _ (by assumption)).mono ?_; rintro e w1 ⟨rfl, rfl⟩; first | rw [hr1] | rw [hr2])))
        refine bodyPost_ret_by (of_leave (p := w.heap.size+1+1) (v := false) (five_set (B := w.heap.size) q2 (by omega)).1 rfl rfl) rfl ?_
        unfold OfDoes
        rw [HO.out]
        exact ⟨rfl, hB2.trans (five_set q2 (by omega)).2⟩
end Go.Proofs.YtcobmefgefkdmaaGreatDoor
