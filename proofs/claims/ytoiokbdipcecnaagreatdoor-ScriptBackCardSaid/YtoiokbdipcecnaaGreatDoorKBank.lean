/-
  quash/bank.Code: every call. Condition: the library's variables (Env).
-/
import Derived.Test.YtoiokbdipcecnaaGreatDoorText
import Derived.Test.YtoiokbdipcecnaaGreatDoorBuilderB
import Derived.Test.YtoiokbdipcecnaaGreatDoorSees
import Derived.Test.YtoiokbdipcecnaaGreatDoorCodeInstrs
import Derived.Lib.SliceRun
import Derived.Lib.Hide
import Derived.Deep.DeepMust
import Derived.Deep.DeepCutAuto
import Derived.Deep.RegionHeld3
import Derived.Laws.EntriesVeiled
import Derived.StillTailTactics
import Derived.BigQuiet
namespace Go.Proofs.YtoiokbdipcecnaaGreatDoor.Kb
open Go.RowKit
set_option maxRecDepth 100000

def roomI (n : Int) : Int := if 1 ≤ n ∧ n ≤ 64 then n else 0
theorem Room_any (n : Int) (w : World) : Calls Tryz.prog 99 #[.int .i64 n] w fun e w' => e = .returned (.int .i64 (roomI n)) ∧ w' = w := by
  by_cases h1 : n < 1
  · have hr : roomI n = 0 := by simp [roomI]; omega
    rw [hr]
    go_enter Tryz.func99, Tryz.ntmps99
    go_wp2
    go_ret
    exact ⟨rfl, rfl⟩
  · by_cases h2 : 64 < n
    · have hr : roomI n = 0 := by simp [roomI]; omega
      rw [hr]
      go_enter Tryz.func99, Tryz.ntmps99
      go_wp2
      go_ret
      exact ⟨rfl, rfl⟩
    · have hr : roomI n = n := by simp [roomI]; omega
      rw [hr]
      go_enter Tryz.func99, Tryz.ntmps99
      go_wp2
      go_ret
      exact ⟨rfl, rfl⟩
/-- a kind: what it names, its deed, its program -/
def kindCells (a b x : Bool) (f g : Value) : List Value := [.bool a, .bool b, .bool x, f, g]
def fn (k : Nat) : Value := .func (Fn.func k) #[] #[]
def kindL : Nat → List Value
  | 1 => kindCells true false true (fn 152) (fn 153)
  | 2 => kindCells true false true (fn 155) (fn 156)
  | 3 => kindCells true true true (fn 157) (fn 158)
  | 4 => kindCells true false false (fn 159) (fn 160)
  | 5 => kindCells false false false (fn 161) (fn 162)
  | _ => kindCells false false false .nilFunc .nilFunc
def kindsArr : Array Value := (kindL 0 ++ kindL 1 ++ kindL 2 ++ kindL 3 ++ kindL 4 ++ kindL 5).toArray
theorem kinds_any (w : World) : Calls Tryz.prog 134 #[] w fun e w' => e = .returned (.slice (some ⟨w.heap.size, 0, none⟩) 6 6) ∧ w' = w.alloc (.cells kindsArr 162) := by
  go_enter Tryz.func134, Tryz.ntmps134
  go_wp2
  go_ret
  exact ⟨rfl, rfl⟩
def rightB (named : Bool) (a n : Int) : Bool := if named then decide (0 ≤ a) && decide (a < n) else decide (a = 0)
theorem right_any (named : Bool) (a n : Int) (b : Nat) (w : World) (h : w.cell? ⟨b, 0, none⟩ = some (.int .i64 n)) :
    Calls Tryz.prog 135 #[.bool named, .int .i64 a, .pointer (some ⟨b, 0, none⟩)] w fun e w' => e = .returned (.bool (rightB named a n)) ∧ w' = w := by
  cases named with
  | false =>
    by_cases h0 : a = 0
    · have HR := Lib.hid (show rightB false a n = true by simp [rightB, h0])
      subst h0
      go_enter Tryz.func135, Tryz.ntmps135
      go_wp2
      go_ret
      exact ⟨by rw [HR.out]; rfl, rfl⟩
    · have HR := Lib.hid (show rightB false a n = false by simp [rightB, h0])
      have hb : (a == 0) = false := by simpa using h0
      go_enter Tryz.func135, Tryz.ntmps135
      go_wp2
      go_ret
      exact ⟨by rw [HR.out]; simp, rfl⟩
  | true =>
    by_cases h0 : 0 ≤ a
    · by_cases h1 : a < n
      · have HR := Lib.hid (show rightB true a n = true by simp [rightB, h0, h1])
        go_enter Tryz.func135, Tryz.ntmps135
        go_wp2
        go_ret
        exact ⟨by rw [HR.out]; simp, rfl⟩
      · have HR := Lib.hid (show rightB true a n = false by simp [rightB, h0, h1])
        go_enter Tryz.func135, Tryz.ntmps135
        go_wp2
        go_ret
        exact ⟨by rw [HR.out]; simp, rfl⟩
    · have HR := Lib.hid (show rightB true a n = false by simp [rightB, h0])
      go_enter Tryz.func135, Tryz.ntmps135
      go_wp2
      go_ret
      exact ⟨by rw [HR.out]; simp, rfl⟩
def deedV (op a b x y : Int) : Value := .agg #[.int .i64 op, .int .i64 a, .int .i64 b, .int .i64 x, .int .i64 y]
def kindV (k : Nat) : Value := .agg (kindL k).toArray
def kA (op : Int) : Bool := op == 1 || op == 2 || op == 3 || op == 4
def kB (op : Int) : Bool := op == 3
def kX (op : Int) : Bool := op == 1 || op == 2 || op == 3
def ofB (n op a b x y : Int) : Bool := decide (1 ≤ op) && decide (op ≤ 5) && decide (y = 0) && rightB (kA op) a n && rightB (kB op) b n && decide (0 ≤ x) && decide (x ≤ 2147483648) && (kX op || decide (x = 0))
def OfDoes (n op a b x y : Int) (w : World) (e : Ending) (w' : World) : Prop :=
  e = .returned (.tuple #[if ofB n op a b x y then kindV op.toNat else kindV 0, .bool (ofB n op a b x y)]) ∧ Below w.heap.size w w'
theorem kind_at (k : Nat) (h1 : 1 ≤ k) (h2 : k ≤ 5) : ∃ f g, kindL k = kindCells (kA k) (kB k) (kX k) (fn f) (fn g) ∧ kindsArr[k*5]? = some (.bool (kA k)) ∧ kindsArr[k*5+1]? = some (.bool (kB k)) ∧ kindsArr[k*5+2]? = some (.bool (kX k)) ∧ kindsArr[k*5+3]? = some (fn f) ∧ kindsArr[k*5+4]? = some (fn g) := by
  obtain rfl | rfl | rfl | rfl | rfl : k = 1 ∨ k = 2 ∨ k = 3 ∨ k = 4 ∨ k = 5 := by omega
  all_goals exact ⟨_, _, rfl, rfl, rfl, rfl, rfl, rfl⟩
theorem ofB_form (n a b x : Int) (k : Nat) (h1 : 1 ≤ k) (h2 : k ≤ 5) : ofB n k a b x 0 = (rightB (kA k) a n && rightB (kB k) b n && decide (0 ≤ x) && decide (x ≤ 2147483648) && (kX k || decide (x = 0))) := by
  simp [ofB, show (1:Int) ≤ k by omega, show (k:Int) ≤ 5 by omega]
theorem five_set {w : World} {p B : Nat} {x0 x1 x2 x3 x4 y0 y1 y2 y3 y4 : Value} {t : TypeId} (h : w.heap[p]? = some (.cells #[x0, x1, x2, x3, x4] t)) (hB : B ≤ p) :
    (((((w.setCell ⟨p, 0, none⟩ y0).setCell ⟨p, 1, none⟩ y1).setCell ⟨p, 2, none⟩ y2).setCell ⟨p, 3, none⟩ y3).setCell ⟨p, 4, none⟩ y4).heap[p]? = some (.cells #[y0, y1, y2, y3, y4] t) ∧ Below B w (((((w.setCell ⟨p, 0, none⟩ y0).setCell ⟨p, 1, none⟩ y1).setCell ⟨p, 2, none⟩ y2).setCell ⟨p, 3, none⟩ y3).setCell ⟨p, 4, none⟩ y4) := by
  have k0 := heap_setCell_same w p 0 _ _ y0 h
  have k1 := heap_setCell_same _ p 1 _ _ y1 k0
  have k2 := heap_setCell_same _ p 2 _ _ y2 k1
  have k3 := heap_setCell_same _ p 3 _ _ y3 k2
  have k4 := heap_setCell_same _ p 4 _ _ y4 k3
  exact ⟨k4, ((((((Below.refl B w).setCell (p := ⟨p, 0, none⟩) hB _).setCell (p := ⟨p, 1, none⟩) hB _).setCell (p := ⟨p, 2, none⟩) hB _).setCell (p := ⟨p, 3, none⟩) hB _).setCell (p := ⟨p, 4, none⟩) hB _)⟩
theorem of_leave {a : Act} {W : World} {p : Nat} {y0 y1 y2 y3 y4 : Value} {v : Bool} (h : W.heap[p]? = some (.cells #[y0, y1, y2, y3, y4] 162)) (h4 : a.tmps[4]? = some (.pointer (some ⟨p, 0, none⟩))) (h5 : a.tmps[5]? = some (.bool v)) :
    (results Tryz.f98 a.tmps).run Tryz.prog W = .ok (.tuple #[.agg #[y0, y1, y2, y3, y4], .bool v]) W := by
  have c0 : W.cell? ⟨p, 0, none⟩ = some y0 := cell_of_row _ _ 0 _ _ _ h
  have c1 : W.cell? ⟨p, 1, none⟩ = some y1 := cell_of_row _ _ 1 _ _ _ h
  have c2 : W.cell? ⟨p, 2, none⟩ = some y2 := cell_of_row _ _ 2 _ _ _ h
  have c3 : W.cell? ⟨p, 3, none⟩ = some y3 := cell_of_row _ _ 3 _ _ _ h
  have c4 : W.cell? ⟨p, 4, none⟩ = some y4 := cell_of_row _ _ 4 _ _ _ h
  simp [results, Tryz.results98, go_sem, h4, h5, c0, c1, c2, c3, c4]
set_option maxHeartbeats 2000000 in
theorem of_any (n op a b x y : Int) (w : World) :
    Calls Tryz.prog 98 #[.int .i64 n, deedV op a b x y] w (OfDoes n op a b x y w) := by
  by_cases h1 : op < 1
  · have hb : ofB n op a b x y = false := by simp [ofB, show ¬ 1 ≤ op by omega]
    have HB := Lib.hid hb
    clear hb
    unfold deedV
    go_enter Tryz.func98, Tryz.ntmps98
    go_wp2_with (first | (go_at_call 134; go_must (refine (kinds_any _).mono ?_; rintro e w1 ⟨rfl, rfl⟩)))
    refine bodyPost_ret_by (of_leave (p := w.heap.size+1+1) (v := false) (y0 := .bool false) (y1 := .bool false) (y2 := .bool false) (y3 := .nilFunc) (y4 := .nilFunc) ?_ rfl rfl) rfl ?_
    rotate_left
    · unfold OfDoes
      rw [HB.out]
      exact ⟨rfl, ((((Below.refl _ _).alloc (Nat.le_refl _) _).alloc (by simp) _).alloc (by simp; omega) _).alloc (by simp; omega) _⟩
    · exact (Below.heap_alloc _ _ _ (by simp)).trans (heap_new _ _ _ (by simp))
  by_cases h2 : 6 ≤ op
  · have hb : ofB n op a b x y = false := by simp [ofB, show ¬ op ≤ 5 by omega]
    have HB := Lib.hid hb
    clear hb
    unfold deedV
    go_enter Tryz.func98, Tryz.ntmps98
    go_wp2_with (first | (go_at_call 134; go_must (refine (kinds_any _).mono ?_; rintro e w1 ⟨rfl, rfl⟩)))
    refine bodyPost_ret_by (of_leave (p := w.heap.size+1+1) (v := false) (y0 := .bool false) (y1 := .bool false) (y2 := .bool false) (y3 := .nilFunc) (y4 := .nilFunc) ?_ rfl rfl) rfl ?_
    rotate_left
    · unfold OfDoes
      rw [HB.out]
      exact ⟨rfl, ((((Below.refl _ _).alloc (Nat.le_refl _) _).alloc (by simp) _).alloc (by simp; omega) _).alloc (by simp; omega) _⟩
    · exact (Below.heap_alloc _ _ _ (by simp)).trans (heap_new _ _ _ (by simp))
  by_cases h3 : y = 0
  case neg =>
    have hb : ofB n op a b x y = false := by simp [ofB, h3]
    have hy : (y != 0) = true := by simpa using h3
    have HB := Lib.hid hb
    clear hb
    unfold deedV
    go_enter Tryz.func98, Tryz.ntmps98
    go_wp2_with (first | (go_at_call 134; go_must (refine (kinds_any _).mono ?_; rintro e w1 ⟨rfl, rfl⟩)))
    refine bodyPost_ret_by (of_leave (p := w.heap.size+1+1) (v := false) (y0 := .bool false) (y1 := .bool false) (y2 := .bool false) (y3 := .nilFunc) (y4 := .nilFunc) ?_ rfl rfl) rfl ?_
    rotate_left
    · unfold OfDoes
      rw [HB.out]
      exact ⟨rfl, ((((Below.refl _ _).alloc (Nat.le_refl _) _).alloc (by simp) _).alloc (by simp; omega) _).alloc (by simp; omega) _⟩
    · exact (Below.heap_alloc _ _ _ (by simp)).trans (heap_new _ _ _ (by simp))
  obtain ⟨k, rfl⟩ : ∃ k : Nat, op = k := ⟨op.toNat, by omega⟩
  subst h3
  obtain ⟨f, g, hk, k0, k1, k2, k3, k4⟩ := kind_at k (by omega) (by omega)
  have HF := Lib.hid (ofB_form n a b x k (by omega) (by omega))
  have HK := Lib.hid hk
  have HOF : ofB n k a b x 0 = ofB n k a b x 0 := rfl
  generalize hka : kA k = ka at *
  generalize hkb : kB k = kb at *
  generalize hkx : kX k = kx at *
  clear hk
  unfold deedV
  go_enter Tryz.func98, Tryz.ntmps98
  go_upto_region 4 with (first | (go_at_call 134; go_must (refine (kinds_any _).mono ?_; rintro e w1 ⟨rfl, rfl⟩)))
  refine wp_gen (fun W => W.heap[w.heap.size]? = some (.cells #[.int .i64 n] 3) ∧ W.heap[w.heap.size+1]? = some (.cells #[.int .i64 k, .int .i64 a, .int .i64 b, .int .i64 x, .int .i64 0] 104) ∧ W.heap[w.heap.size+1+1]? = some (.cells #[.bool false, .bool false, .bool false, .nilFunc, .nilFunc] 162) ∧
    W.heap[w.heap.size+1+1+1]? = some (.cells kindsArr 162) ∧ Below w.heap.size w W) ⟨?_, ?_, ?_, ?_, ?_⟩ ?_
  · exact (Below.heap_alloc _ _ _ (by simp; omega)).trans ((Below.heap_alloc _ _ _ (by simp; omega)).trans ((Below.heap_alloc _ _ _ (by simp)).trans (heap_new _ _ _ rfl)))
  · exact (Below.heap_alloc _ _ _ (by first | (simp; done) | (simp; omega))).trans ((Below.heap_alloc _ _ _ (by simp)).trans (heap_new _ _ _ (by simp)))
  · exact (Below.heap_alloc _ _ _ (by simp)).trans (heap_new _ _ _ (by simp))
  · exact heap_new _ _ _ (by simp)
  · exact ((((Below.refl _ _).alloc (Nat.le_refl _) _).alloc (by simp) _).alloc (by simp; omega) _).alloc (by simp; omega) _
  rintro W ⟨b0, b1, b2, b3, hB⟩
  have hz := lt_of_block b3
  have n0 : W.cell? ⟨w.heap.size, 0, none⟩ = some (.int .i64 n) := cell_of_row _ _ 0 _ _ _ b0
  have d0 : W.cell? ⟨w.heap.size+1, 0, none⟩ = some (.int .i64 k) := cell_of_row _ _ 0 _ _ _ b1
  have d1 : W.cell? ⟨w.heap.size+1, 1, none⟩ = some (.int .i64 a) := cell_of_row _ _ 1 _ _ _ b1
  have d2 : W.cell? ⟨w.heap.size+1, 2, none⟩ = some (.int .i64 b) := cell_of_row _ _ 2 _ _ _ b1
  have d3 : W.cell? ⟨w.heap.size+1, 3, none⟩ = some (.int .i64 x) := cell_of_row _ _ 3 _ _ _ b1
  have d4 : W.cell? ⟨w.heap.size+1, 4, none⟩ = some (.int .i64 0) := cell_of_row _ _ 4 _ _ _ b1
  have e0 := (cell_of_row W (w.heap.size+1+1+1) (k*5) _ _ _ b3).trans k0
  have e1 := (cell_of_row W (w.heap.size+1+1+1) (k*5+1) _ _ _ b3).trans k1
  have e2 := (cell_of_row W (w.heap.size+1+1+1) (k*5+2) _ _ _ b3).trans k2
  have e3 := (cell_of_row W (w.heap.size+1+1+1) (k*5+3) _ _ _ b3).trans k3
  have e4 := (cell_of_row W (w.heap.size+1+1+1) (k*5+4) _ _ _ b3).trans k4
  unfold fn at e3 e4
  go_upto_region 6 with fail
  clear k0 k1 k2 k3 k4 e0 e1 e2 e3 e4
  refine wp_gen (fun W2 => (W2.heap[w.heap.size]? = some (.cells #[.int .i64 n] 3) ∧ W2.heap[w.heap.size+1]? = some (.cells #[.int .i64 k, .int .i64 a, .int .i64 b, .int .i64 x, .int .i64 0] 104) ∧ W2.heap[w.heap.size+1+1]? = some (.cells #[.bool false, .bool false, .bool false, .nilFunc, .nilFunc] 162) ∧
    W2.heap[W.heap.size]? = some (.cells #[.bool ka, .bool kb, .bool kx, .func (Fn.func f) #[] #[], .func (Fn.func g) #[] #[]] 162)) ∧ Below w.heap.size w W2) ⟨⟨(Below.heap_alloc _ _ _ (by omega)).trans b0, (Below.heap_alloc _ _ _ (by omega)).trans b1, (Below.heap_alloc _ _ _ (by omega)).trans b2, heap_new _ _ _ rfl⟩, hB.alloc (by omega) _⟩ ?_
  rintro W2 ⟨⟨q0, q1, q2, q3⟩, hB2⟩
  clear n0 d0 d1 d2 d3 d4 b0 b1 b2 b3 hB
  have n0 : W2.cell? ⟨w.heap.size, 0, none⟩ = some (.int .i64 n) := cell_of_row _ _ 0 _ _ _ q0
  have d1 : W2.cell? ⟨w.heap.size+1, 1, none⟩ = some (.int .i64 a) := cell_of_row _ _ 1 _ _ _ q1
  have d2 : W2.cell? ⟨w.heap.size+1, 2, none⟩ = some (.int .i64 b) := cell_of_row _ _ 2 _ _ _ q1
  have d3 : W2.cell? ⟨w.heap.size+1, 3, none⟩ = some (.int .i64 x) := cell_of_row _ _ 3 _ _ _ q1
  have g0 : W2.cell? ⟨W.heap.size, 0, none⟩ = some (.bool ka) := cell_of_row _ _ 0 _ _ _ q3
  have g1 : W2.cell? ⟨W.heap.size, 1, none⟩ = some (.bool kb) := cell_of_row _ _ 1 _ _ _ q3
  have g2 : W2.cell? ⟨W.heap.size, 2, none⟩ = some (.bool kx) := cell_of_row _ _ 2 _ _ _ q3
  have g3 : W2.cell? ⟨W.heap.size, 3, none⟩ = some (.func (Fn.func f) #[] #[]) := cell_of_row _ _ 3 _ _ _ q3
  have g4 : W2.cell? ⟨W.heap.size, 4, none⟩ = some (.func (Fn.func g) #[] #[]) := cell_of_row _ _ 4 _ _ _ q3
  have y0 : W2.cell? ⟨w.heap.size+1+1, 0, none⟩ = some (.bool false) := cell_of_row _ _ 0 _ _ _ q2
  have y1 : W2.cell? ⟨w.heap.size+1+1, 1, none⟩ = some (.bool false) := cell_of_row _ _ 1 _ _ _ q2
  have y2 : W2.cell? ⟨w.heap.size+1+1, 2, none⟩ = some (.bool false) := cell_of_row _ _ 2 _ _ _ q2
  have y3 : W2.cell? ⟨w.heap.size+1+1, 3, none⟩ = some .nilFunc := cell_of_row _ _ 3 _ _ _ q2
  have y4 : W2.cell? ⟨w.heap.size+1+1, 4, none⟩ = some .nilFunc := cell_of_row _ _ 4 _ _ _ q2
  have yf := fun j => frozen_of_row W2 _ j _ _ q2
  cases hr1 : rightB ka a n with
  | false =>
    have HO := Lib.hid (show ofB n k a b x 0 = false by rw [HF.out, hr1]; rfl)
    go_wp2_with (first | (go_at_call 135; go_must (refine (right_any _ _ n _ _ (by assumption)).mono ?_; rintro e w1 ⟨rfl, rfl⟩; rw [hr1])))
    refine bodyPost_ret_by (of_leave (p := w.heap.size+1+1) (v := false) (five_set (B := w.heap.size) q2 (by omega)).1 rfl rfl) rfl ?_
    unfold OfDoes
    rw [HO.out]
    exact ⟨rfl, hB2.trans (five_set q2 (by omega)).2⟩
  | true =>
  cases hr2 : rightB kb b n with
  | false =>
    have HO := Lib.hid (show ofB n k a b x 0 = false by rw [HF.out, hr1, hr2]; rfl)
    go_wp2_with (first | (go_at_call 135; go_must (refine (right_any _ _ n _ _ (by assumption)).mono ?_; rintro e w1 ⟨rfl, rfl⟩; first | rw [hr1] | rw [hr2])))
    refine bodyPost_ret_by (of_leave (p := w.heap.size+1+1) (v := false) (five_set (B := w.heap.size) q2 (by omega)).1 rfl rfl) rfl ?_
    unfold OfDoes
    rw [HO.out]
    exact ⟨rfl, hB2.trans (five_set q2 (by omega)).2⟩
  | true =>
    by_cases hx : x < 0
    · have HO := Lib.hid (show ofB n k a b x 0 = false by rw [HF.out, hr1, hr2]; simp [show ¬ 0 ≤ x by omega])
      go_wp2_with (first | (go_at_call 135; go_must (refine (right_any _ _ n _ _ (by assumption)).mono ?_; rintro e w1 ⟨rfl, rfl⟩; first | rw [hr1] | rw [hr2])))
      refine bodyPost_ret_by (of_leave (p := w.heap.size+1+1) (v := false) (five_set (B := w.heap.size) q2 (by omega)).1 rfl rfl) rfl ?_
      unfold OfDoes
      rw [HO.out]
      exact ⟨rfl, hB2.trans (five_set q2 (by omega)).2⟩
    by_cases hm : 2147483648 < x
    · have HO := Lib.hid (show ofB n k a b x 0 = false by rw [HF.out, hr1, hr2]; simp [show ¬ x ≤ 2147483648 by omega])
      go_wp2_with (first | (go_at_call 135; go_must (refine (right_any _ _ n _ _ (by assumption)).mono ?_; rintro e w1 ⟨rfl, rfl⟩; first | rw [hr1] | rw [hr2])))
      refine bodyPost_ret_by (of_leave (p := w.heap.size+1+1) (v := false) (five_set (B := w.heap.size) q2 (by omega)).1 rfl rfl) rfl ?_
      unfold OfDoes
      rw [HO.out]
      exact ⟨rfl, hB2.trans (five_set q2 (by omega)).2⟩
    have hx0 : 0 ≤ x := by omega
    have hx1 : x ≤ 2147483648 := by omega
    cases kx with
    | true =>
      have HO := Lib.hid (show ofB n k a b x 0 = true by rw [HF.out, hr1, hr2]; simp [hx0, hx1])
      go_wp2_with (first | (go_at_call 135; go_must (refine (right_any _ _ n _ _ (by assumption)).mono ?_; rintro e w1 ⟨rfl, rfl⟩; first | rw [hr1] | rw [hr2])))
      refine bodyPost_ret_by (of_leave (p := w.heap.size+1+1) (v := true) (five_set (B := w.heap.size) q2 (by omega)).1 rfl rfl) rfl ?_
      unfold OfDoes
      rw [HO.out]
      refine ⟨?_, hB2.trans (five_set q2 (by omega)).2⟩
      simp only [if_true, kindV, Int.toNat_natCast, HK.out]
      rfl
    | false =>
      by_cases hz0 : x = 0
      · have HO := Lib.hid (show ofB n k a b x 0 = true by rw [HF.out, hr1, hr2]; simp [hz0])
        subst hz0
        go_wp2_with (first | (go_at_call 135; go_must (refine (right_any _ _ n _ _ (by assumption)).mono ?_; rintro e w1 ⟨rfl, rfl⟩; first | rw [hr1] | rw [hr2])))
        refine bodyPost_ret_by (of_leave (p := w.heap.size+1+1) (v := true) (five_set (B := w.heap.size) q2 (by omega)).1 rfl rfl) rfl ?_
        unfold OfDoes
        rw [HO.out]
        refine ⟨?_, hB2.trans (five_set q2 (by omega)).2⟩
        simp only [if_true, kindV, Int.toNat_natCast, HK.out]
        rfl
      · have HO := Lib.hid (show ofB n k a b x 0 = false by rw [HF.out, hr1, hr2]; simp [hz0])
        have hzb : (x != 0) = true := by simpa using hz0
        go_wp2_with (first | (go_at_call 135; go_must (refine (right_any _ _ n _ _ (by assumption)).mono ?_; rintro e w1 ⟨rfl, rfl⟩; first | rw [hr1] | rw [hr2])))
        refine bodyPost_ret_by (of_leave (p := w.heap.size+1+1) (v := false) (five_set (B := w.heap.size) q2 (by omega)).1 rfl rfl) rfl ?_
        unfold OfDoes
        rw [HO.out]
        exact ⟨rfl, hB2.trans (five_set q2 (by omega)).2⟩
def i64s (zs : List Int) : List Value := zs.map (Value.int .i64)
theorem i64s_at (zs : List Int) (k : Nat) {z : Int} (h : zs[k]? = some z) : (i64s zs)[k]? = some (.int .i64 z) := by
  simp [i64s, h]
/-- balances in memory of the call's own -/
def Bal (w : World) (B g cap : Nat) (zs : List Int) : Prop := w.ownsRow B 2 1 (.slice (some ⟨g, 0, none⟩) zs.length cap) zs.length (i64s zs)
section
variable {w : World} {B g cap : Nat} {zs : List Int}
theorem Bal.cell (h : Bal w B g cap zs) (k : Nat) {z : Int} (hk : zs[k]? = some z) : w.cell? ⟨g, k, none⟩ = some (.int .i64 z) :=
  (h.cellAt k (by have := (List.getElem?_eq_some_iff.1 hk).1; omega)).trans (i64s_at zs k hk)
theorem Bal.below {w' : World} (h : Bal w B g cap zs) (hb : Below w.heap.size w w') : Bal w' B g cap zs :=
  ownsRow_at h (fun g hg => by obtain ⟨_, hc⟩ := own_block h hg; exact hb.block _ (lt_of_block hc))
end
theorem ofB_op {n op a b x y : Int} (h : ofB n op a b x y = true) : 1 ≤ op ∧ op ≤ 5 := by
  simp only [ofB, Bool.and_eq_true, decide_eq_true_eq] at h
  exact ⟨h.1.1.1.1.1.1.1, h.1.1.1.1.1.1.2⟩
/-- what a call of lines answers -/
def LinesDoes (t : List UInt8) (w : World) (e : Ending) (w' : World) : Prop :=
  match parseL t with
  | .error (er, _ln) => e = .returned (.tuple #[.slice none 0 0, .int .i64 er]) ∧ Below w.heap.size w w'
  | .ok l => ∃ v, e = .returned (.tuple #[v, .int .i64 0]) ∧ w'.ownsRow w.heap.size 82 2 v l.length (instrCells l) ∧ Below w.heap.size w w'
theorem builderAt_below {T e : TypeId} {B b : Nat} {p : Value} {bs : List Value} {w w' : World} (h : Lib.BuilderAt T e B b p bs w) (hb : Below w.heap.size w w') : Lib.BuilderAt T e B b p bs w' := by
  obtain ⟨hB, v, hbk, hown, hne⟩ := h
  exact ⟨hB, v, (hb.block _ (lt_of_block hbk)).trans hbk, ownsRow_at hown (fun g hg => by obtain ⟨_, hc⟩ := own_block hown hg; exact hb.block _ (lt_of_block hc)), hne⟩
theorem isBuilder_below {T e : TypeId} {B b : Nat} {bs : List Value} {w w' : World} (h : Lib.IsBuilder T e B b bs w) (hb : Below w.heap.size w w') : Lib.IsBuilder T e B b bs w' :=
  h.elim (fun h => Or.inl (builderAt_below h hb)) (fun h => Or.inr (builderAt_below h hb))
set_option maxHeartbeats 800000 in
theorem lines_any (text : List UInt8) (ns : List Int) (nb : Nat) (w : World) (he : Env w) (hs : text.length ≤ 60000)
    (hns : ns.length + 1 = (linesL 35 text).length) (h0 : (linesL 35 text).getD 0 [] ≠ []) (hnb : nb < w.heap.size) (hcs : ∀ j, j < ns.length → w.cell? ⟨nb, j, none⟩ = some (.int .i64 (ns.getD j 0)))
    (hr : ∀ j, -9223372036854775808 ≤ ns.getD j 0 ∧ ns.getD j 0 ≤ 9223372036854775807) (hlen : (joinL text ns).length ≤ 60000) (ha : Asc (joinL text ns)) :
    Calls Tryz.prog 154 #[.string (S text), .slice (some ⟨nb, 0, none⟩) ns.length ns.length] w (LinesDoes (joinL text ns) w) := by
  have heS : Env (w.alloc (.cells #[.pointer none, .slice none 0 0] 52)) := he.below ((Below.refl _ _).alloc (Nat.le_refl _) _)
  have HE := Lib.hid heS
  have HEN := Lib.hid (fun W (hb : Below w.heap.size w W) => he.below hb)
  have HB0 := Lib.hid ((Lib.fresh_isBuilder 52 5 w).elim (fun h => (Or.inl h : Lib.IsBuilder 52 5 w.heap.size w.heap.size [] _)) Or.inr)
  clear heS he
  go_enter Tryz.func154, Tryz.ntmps154
  go_wp2_with (first | (go_at_call 47; refine (Split_any text 35 _ (by omega) HE.out).mono ?_; rintro e w1 ⟨rfl, rfl⟩))
  obtain ⟨P, hP⟩ : ∃ P, P = linesL 35 text := ⟨_, rfl⟩
  have hPn := (linesL_len 35 text).1
  have hj : joinL text ns = outL P ns P.length := by rw [hP]; rfl
  rw [← hP] at hns h0 hPn
  rw [hj] at hlen ha
  rw [hj]
  rw [← hP]
  have HJ := Lib.hid hj
  clear hP hj
  have hst : (∀ xs : Array Value, Lib.IsBuilder 52 5 w.heap.size w.heap.size (Lib.byteCells []) ((w.alloc (.cells #[.pointer none, .slice none 0 0] 52)).alloc (.cells xs 9)) ∧ Below w.heap.size w ((w.alloc (.cells #[.pointer none, .slice none 0 0] 52)).alloc (.cells xs 9)) ∧
      ((w.alloc (.cells #[.pointer none, .slice none 0 0] 52)).alloc (.cells xs 9)).heap[w.heap.size + 1]? = some (.cells xs 9)) := fun xs => by
    refine ⟨?_, ((Below.refl _ _).alloc (Nat.le_refl _) _).alloc (by simp) _, heap_new _ _ _ (by simp)⟩
    exact isBuilder_below (Lib.fresh_isBuilder 52 5 w) ((Below.refl _ _).alloc (Nat.le_refl _) _)
  refine wp_gen (fun W => Lib.IsBuilder 52 5 w.heap.size w.heap.size (Lib.byteCells []) W ∧ Below w.heap.size w W ∧ W.heap[w.heap.size + 1]? = some (.cells (P.map fun x => Value.string (S x)).toArray 9)) (hst _) ?_
  rintro W1 ⟨hIs, hBs, hss⟩
  clear hst HB0 HE
  go_loopw [1, 15] (fun u v wr => ∃ (k : Nat) (ao : Option Addr), k ≤ P.length ∧ v = .int .i64 k ∧ u = .slice ao (ns.length - (k - 1)) (ns.length - (k - 1)) ∧ (k - 1 < ns.length → ao = some ⟨nb, k - 1, none⟩) ∧ Lib.IsBuilder 52 5 w.heap.size w.heap.size (Lib.byteCells (outL P ns k)) wr ∧ Below w.heap.size w wr ∧
    wr.heap[w.heap.size + 1]? = some (.cells (P.map fun x => Value.string (S x)).toArray 9)) (fun _ v _ => P.length - (intOf v).toNat)
  case atStart => exact ⟨0, _, Nat.zero_le _, rfl, rfl, fun _ => rfl, hIs, hBs, hss⟩
  case round =>
    obtain ⟨k, ao, hk, rfl, rfl, hao, hI, hB, hstr⟩ := hrel
    clear hIs hBs hss
    by_cases hlt : k < P.length
    · have hlk : wr.cell? ⟨w.heap.size+1, k, none⟩ = some (.string (S P[k])) := by simp [World.cell?, hstr, hlt]
      have hlen1 := outL_mono (P := P) (ns := ns) (show k + 1 ≤ P.length by omega)
      have hstep := outL_step (P := P) (ns := ns) k
      have hgd : P.getD k [] = P[k] := by rw [List.getD_eq_getElem?_getD, List.getElem?_eq_getElem hlt]; rfl
      rw [hgd] at hstep
      have hlen2 : (outL P ns k).length + ((if k = 0 then [] else Lib.itoa (ns.getD (k - 1) 0)) ++ P[k]).length ≤ 60000 := by rw [hstep, List.length_append] at hlen1; omega
      have HSTEP := Lib.hid hstep
      have HSTR := Lib.hid hstr
      have hbl : (Lib.byteCells (outL P ns k)).length = (outL P ns k).length := Lib.byteCells_length _
      clear hstep hgd hlen1 hstr
      cases k with
      | zero =>
        have hBk : w.heap.size ≤ wr.heap.size := hB.size
        simp only [if_true, List.nil_append] at hlen2
        go_wp2_with (first
          | (go_at_call 23; go_must (refine (Tryz.Builder_Len w.heap.size w.heap.size _ _ hI).mono ?_; rintro e w2 ⟨rfl, rfl⟩))
          | (go_at_call 19; go_must (refine (WriteString_any w.heap.size w.heap.size _ (S P[0]) _ hI (by rw [hbl, S_size]; omega) hBk).mono ?_; rintro e w3 ⟨rfl, hI3, hB3, hz3, hk3⟩)))
        go_roundw
        case rel =>
          refine ⟨1, ao, by omega, by go_num, rfl, hao, ?_, hB.trans hB3, ?_⟩
          · have e := HSTEP.out
            simp only [if_true, List.nil_append] at e
            rw [e, show Lib.byteCells (outL P ns 0 ++ P[0]) = Lib.byteCells (outL P ns 0) ++ Lib.strCells (S P[0]) by rw [Lib.strCells_eq, S_data]; simp [Lib.byteCells]]
            exact hI3
          · exact (hk3 _ _ _ HSTR.out (by decide) (by decide)).trans HSTR.out
        case measure => simp [intOf]; omega
      | succ j =>
        obtain rfl := hao (by omega)
        clear hao
        have hpos : 0 < (outL P ns (j + 1)).length := List.length_pos_iff.2 (outL_pos h0 j)
        have hBk : w.heap.size ≤ wr.heap.size := hB.size
        have hcj : wr.cell? ⟨nb, j, none⟩ = some (.int .i64 (ns.getD j 0)) := (hB.cell (p := ⟨nb, j, none⟩) hnb).trans (hcs j (by omega))
        have hrj := hr j
        have hle : (Lib.itoa (ns.getD j 0)).length + P[j + 1].length + (outL P ns (j + 1)).length ≤ 60000 := by
          have h := hlen2
          rw [if_neg (Nat.succ_ne_zero j), List.length_append, show j + 1 - 1 = j from rfl] at h
          omega
        have HLE := Lib.hid hle
        clear hlen2 hle
        go_wp2_with (first
          | (go_at_call 23; go_must (refine (Tryz.Builder_Len w.heap.size w.heap.size _ _ hI).mono ?_; rintro e w2 ⟨rfl, rfl⟩))
          | (go_at_call 40; go_must (refine (FormatInt_any _ _ hrj.1 hrj.2 (HEN.out _ hB)).mono ?_; rintro e w3 ⟨rfl, hb3⟩; have hI3 := isBuilder_below hI hb3; have hB3 := hB.trans (hb3.mono hBk)))
          | (go_at_call 19; (refine (WriteString_any w.heap.size w.heap.size _ (S P[j + 1]) _ hI4 (by rw [List.length_append, hbl, Lib.strCells_length, S_size, S_size]; have := HLE.out; omega) (hB3.trans hB4).size).mono ?_; rintro e w5 ⟨rfl, hI5, hB5, hz5, hk5⟩))
          | (go_at_call 19; go_must (refine (WriteString_any w.heap.size w.heap.size _ (S (Lib.itoa (ns.getD j 0))) _ hI3 (by rw [hbl, S_size]; have := HLE.out; omega) hB3.size).mono ?_; rintro e w4 ⟨rfl, hI4, hB4, hz4, hk4⟩)))
        refine ⟨⟨j + 1 + 1, _, by omega, by go_num, rfl, fun h => ?_, ?_, (hB3.trans hB4).trans hB5, ?_⟩, ?_⟩
        · rw [if_neg (by omega)]; rfl
        · have e := HSTEP.out
          rw [if_neg (Nat.succ_ne_zero j), show j + 1 - 1 = j from rfl] at e
          rw [e, show ∀ a b c : List UInt8, Lib.byteCells (a ++ (b ++ c)) = Lib.byteCells a ++ Lib.strCells (S b) ++ Lib.strCells (S c) from fun a b c => by rw [Lib.strCells_eq, Lib.strCells_eq, S_data, S_data]; simp [Lib.byteCells]]
          exact hI5
        · have q1 := (hb3.block _ (lt_of_block HSTR.out)).trans HSTR.out
          have q2 := (hk4 _ _ _ q1 (by decide) (by decide)).trans q1
          exact (hk5 _ _ _ q2 (by decide) (by decide)).trans q2
        · simp [intOf]; omega
    · obtain rfl : k = P.length := by omega
      have HA := Lib.hid ha
      clear ha
      cases hp : parseL (outL P ns P.length) with
      | error x =>
        obtain ⟨er, ln⟩ := x
        have HP := Lib.hid hp
        clear hp
        go_wp2_with (first
          | (go_at_call 24; go_must (refine (Tryz.Builder_String_any w.heap.size w.heap.size (outL P ns P.length) _ hI hB.size).mono ?_; rintro e w3 ⟨rfl, hb3⟩; have hB3 := hB.trans hb3))
          | (go_at_call 74; go_must (refine (Parse_any (outL P ns P.length) _ HA.out (HEN.out _ hB3)).mono ?_; rintro e w4 hd; unfold ParseDoes at hd; rw [HP.out] at hd; obtain ⟨rfl, hb4⟩ := hd)))
        go_ret2
        unfold LinesDoes
        rw [HJ.out, HP.out]
        exact ⟨rfl, hB3.trans (hb4.mono hB3.size)⟩
      | ok l =>
        have HP := Lib.hid hp
        clear hp
        go_wp2_with (first
          | (go_at_call 24; go_must (refine (Tryz.Builder_String_any w.heap.size w.heap.size (outL P ns P.length) _ hI hB.size).mono ?_; rintro e w3 ⟨rfl, hb3⟩; have hB3 := hB.trans hb3))
          | (go_at_call 74; go_must (refine (Parse_any (outL P ns P.length) _ HA.out (HEN.out _ hB3)).mono ?_; rintro e w4 hd; unfold ParseDoes at hd; rw [HP.out] at hd; obtain ⟨v, rfl, ho, hb4⟩ := hd)))
        go_ret2
        unfold LinesDoes
        rw [HJ.out, HP.out]
        exact ⟨v, rfl, own_lower ho hB3.size, hB3.trans (hb4.mono hB3.size)⟩
def progT1 : List UInt8 := [98, 101, 103, 105, 110, 10, 112, 117, 115, 104, 32, 35, 10, 112, 117, 115, 104, 32, 35, 10, 108, 111, 97, 100, 10, 112, 117, 115, 104, 32, 35, 10, 97, 100, 100, 10, 115, 116, 111, 114, 101, 10, 112, 117, 115, 104, 32, 35, 10, 108, 111, 97, 100, 10, 116, 101, 108, 108, 10, 99, 111, 109, 109, 105, 116]
def progT2 : List UInt8 := [98, 101, 103, 105, 110, 10, 112, 117, 115, 104, 32, 35, 10, 108, 111, 97, 100, 10, 115, 101, 116, 32, 48, 10, 103, 101, 116, 32, 48, 10, 112, 117, 115, 104, 32, 35, 10, 108, 101, 115, 115, 10, 122, 101, 114, 111, 32, 114, 105, 99, 104, 10, 112, 117, 115, 104, 32, 48, 10, 116, 101, 108, 108, 10, 106, 117, 109, 112, 32, 111, 117, 116, 10, 114, 105, 99, 104, 58, 10, 112, 117, 115, 104, 32, 35, 10, 103, 101, 116, 32, 48, 10, 112, 117, 115, 104, 32, 35, 10, 115, 117, 98, 10, 115, 116, 111, 114, 101, 10, 112, 117, 115, 104, 32, 49, 10, 116, 101, 108, 108, 10, 111, 117, 116, 58, 10, 99, 111, 109, 109, 105, 116]
def progT3 : List UInt8 := [98, 101, 103, 105, 110, 10, 112, 117, 115, 104, 32, 35, 10, 108, 111, 97, 100, 10, 115, 101, 116, 32, 48, 10, 103, 101, 116, 32, 48, 10, 112, 117, 115, 104, 32, 35, 10, 108, 101, 115, 115, 10, 122, 101, 114, 111, 32, 114, 105, 99, 104, 10, 112, 117, 115, 104, 32, 48, 10, 116, 101, 108, 108, 10, 106, 117, 109, 112, 32, 111, 117, 116, 10, 114, 105, 99, 104, 58, 10, 112, 117, 115, 104, 32, 35, 10, 103, 101, 116, 32, 48, 10, 112, 117, 115, 104, 32, 35, 10, 115, 117, 98, 10, 115, 116, 111, 114, 101, 10, 112, 117, 115, 104, 32, 35, 10, 112, 117, 115, 104, 32, 35, 10, 108, 111, 97, 100, 10, 112, 117, 115, 104, 32, 35, 10, 97, 100, 100, 10, 115, 116, 111, 114, 101, 10, 112, 117, 115, 104, 32, 49, 10, 116, 101, 108, 108, 10, 111, 117, 116, 58, 10, 99, 111, 109, 109, 105, 116]
def progT4 : List UInt8 := [98, 101, 103, 105, 110, 10, 112, 117, 115, 104, 32, 35, 10, 108, 111, 97, 100, 10, 116, 101, 108, 108, 10, 99, 111, 109, 109, 105, 116]
def progT5 : List UInt8 := [98, 101, 103, 105, 110, 10, 112, 117, 115, 104, 32, 35, 10, 115, 101, 116, 32, 48, 10, 112, 117, 115, 104, 32, 48, 10, 115, 101, 116, 32, 49, 10, 110, 101, 120, 116, 58, 10, 103, 101, 116, 32, 48, 10, 112, 117, 115, 104, 32, 35, 10, 108, 101, 115, 115, 10, 122, 101, 114, 111, 32, 111, 117, 116, 10, 103, 101, 116, 32, 49, 10, 103, 101, 116, 32, 48, 10, 108, 111, 97, 100, 10, 97, 100, 100, 10, 115, 101, 116, 32, 49, 10, 103, 101, 116, 32, 48, 10, 112, 117, 115, 104, 32, 49, 10, 97, 100, 100, 10, 115, 101, 116, 32, 48, 10, 106, 117, 109, 112, 32, 110, 101, 120, 116, 10, 111, 117, 116, 58, 10, 103, 101, 116, 32, 49, 10, 116, 101, 108, 108, 10, 99, 111, 109, 109, 105, 116]
/-- the program of a deed -/
def progL (op : Nat) (base n a b x : Int) : List (Int × Int) :=
  match op with
  | 1 => [(16, 0), (1, base + a), (1, base + a), (17, 0), (1, x), (7, 0), (18, 0), (1, base + a), (17, 0), (21, 0), (19, 0)]
  | 2 => [(16, 0), (1, base + a), (17, 0), (6, 0), (5, 0), (1, x), (11, 0), (15, 11), (1, 0), (21, 0), (14, 18), (1, base + a), (5, 0), (1, x), (8, 0), (18, 0), (1, 1), (21, 0), (19, 0)]
  | 3 => [(16, 0), (1, base + a), (17, 0), (6, 0), (5, 0), (1, x), (11, 0), (15, 11), (1, 0), (21, 0), (14, 24), (1, base + a), (5, 0), (1, x), (8, 0), (18, 0), (1, base + b), (1, base + b), (17, 0), (1, x), (7, 0), (18, 0), (1, 1), (21, 0), (19, 0)]
  | 4 => [(16, 0), (1, base + a), (17, 0), (21, 0), (19, 0)]
  | _ => [(16, 0), (1, base), (6, 0), (1, 0), (6, 1), (5, 0), (1, base + n), (11, 0), (15, 19), (5, 1), (5, 0), (17, 0), (7, 0), (6, 1), (5, 0), (1, 1), (7, 0), (6, 0), (14, 5), (5, 1), (21, 0), (19, 0)]
def ProgDoes (l : List (Int × Int)) (w : World) (e : Ending) (w' : World) : Prop :=
  ∃ v, e = .returned (.tuple #[v, .int .i64 0]) ∧ w'.ownsRow w.heap.size 82 2 v l.length (instrCells l) ∧ Below w.heap.size w w'
/-- lines at a text and numbers whose reading is known -/
theorem lines_prog (text : List UInt8) (ns : List Int) (prog : List (Int × Int)) (hM : parseM text ns = .ok prog) (hmk : marksB text = true) (hs : decide (text.length ≤ 2000) = true) (ha : ascB text = true)
    (hns : (ns.length + 1 == (linesL 35 text).length) = true) (hn : decide (ns.length ≤ 20) = true) (h0 : ((linesL 35 text).getD 0 []).isEmpty = false) (nb : Nat) (w : World) (he : Env w)
    {t : TypeId} {fz : Nat × Nat} (hb : w.heap[nb]? = some (.cells (ns.map (Value.int .i64)).toArray t fz)) (hr : InR ns) :
    Calls Tryz.prog 154 #[.string (S text), .slice (some ⟨nb, 0, none⟩) ns.length ns.length] w (ProgDoes prog w) := by
  have h1 := of_decide_eq_true hs
  have h2 := eq_of_beq hns
  have h3 := of_decide_eq_true hn
  have hL := linesL_len 35 text
  have hlen : (joinL text ns).length ≤ 60000 := by
    have := outL_length (P := linesL 35 text) (ns := ns) (M := text.length) (fun x hx => (hL.2 x hx).1) hr (linesL 35 text).length
    have h4 : (linesL 35 text).length * (text.length + 21) ≤ 21 * 2021 := Nat.mul_le_mul (by omega) (by omega)
    unfold joinL
    omega
  refine (lines_any text ns nb w he (by omega) h2 (fun e => ?_) (lt_of_block hb) (fun j hj => ?_) hr hlen ?_).mono fun e w' hd => ?_
  · rw [e] at h0; cases h0
  · have hx : ns.getD j 0 = ns[j] := by rw [List.getD_eq_getElem?_getD, List.getElem?_eq_getElem hj]; rfl
    simp [World.cell?, hb, hj]
  · exact outL_asc (fun x hx c hc => ascB_asc ha c ((hL.2 x hx).2 c hc)) _
  · unfold LinesDoes at hd
    rw [parse_sub hmk hr (by omega), hM] at hd
    exact hd
theorem Below.drewK {B : Nat} {w w' : World} (h : Below B w w') (n : Nat) : Below B w (w'.drewN n) := ⟨h.os, h.tape, h.output, h.size, h.block⟩
theorem Below.drew1 {B : Nat} {w w' : World} (h : Below B w w') : Below B w w'.drew := ⟨h.os, h.tape, h.output, h.size, h.block⟩
theorem inR_nil : InR [] := fun j => by simp
theorem inR_cons {x : Int} {r : List Int} (h1 : -9223372036854775808 ≤ x) (h2 : x ≤ 9223372036854775807) (h : InR r) : InR (x :: r) := fun j => by
  cases j with
  | zero => exact ⟨h1, h2⟩
  | succ j => exact h j
set_option maxHeartbeats 1000000 in
theorem prog1_any (base n op a b x y : Int) (w : World) (he : Env w) (h1 : 0 ≤ base) (h2 : base ≤ 256) (_h3 : 1 ≤ n) (_h4 : n ≤ 64) (h5 : 0 ≤ x) (h6 : x ≤ 2147483648) (h7 : 0 ≤ a) (h8 : a ≤ 64) (_h9 : 0 ≤ b) (_h10 : b ≤ 64) :
    Calls Tryz.prog 153 #[.int .i64 base, .int .i64 n, deedV op a b x y] w (ProgDoes (progL 1 base n a b x) w) := by
  have hE := Lib.hid (fun W (hb : Below w.heap.size w W) => he.below hb)
  have hM := Lib.hid (show parseM progT1 [base + a, base + a, x, base + a] = .ok (progL 1 base n a b x) by kernel_rfl)
  unfold deedV
  go_enter Tryz.func153, Tryz.ntmps153
  go_wp2_with (first | (go_at_call 154; go_must (refine (lines_prog progT1 [base + a, base + a, x, base + a] _ hM.out (by kernel_rfl) (by kernel_rfl) (by kernel_rfl) (by kernel_rfl) (by kernel_rfl) (by kernel_rfl) _ _ (hE.out _ (by repeat (first | exact Below.refl _ _ | refine Below.alloc ?_ (by simp) _ | refine Below.drewK ?_ _ | refine Below.drew1 ?_))) (heap_new _ _ _ (by simp)) (inR_cons (by omega) (by omega) (inR_cons (by omega) (by omega) (inR_cons (by omega) (by omega) (inR_cons (by omega) (by omega) inR_nil))))).mono ?_; rintro e w1 ⟨v, rfl, ho, hb⟩)))
  go_ret2
  exact ⟨v, rfl, own_lower ho (by simp; omega), (show Below w.heap.size w _ by repeat (first | exact Below.refl _ _ | refine Below.alloc ?_ (by simp) _ | refine Below.drewK ?_ _ | refine Below.drew1 ?_)).trans (hb.mono (by simp; omega))⟩
set_option maxHeartbeats 1000000 in
theorem prog2_any (base n op a b x y : Int) (w : World) (he : Env w) (h1 : 0 ≤ base) (h2 : base ≤ 256) (_h3 : 1 ≤ n) (_h4 : n ≤ 64) (h5 : 0 ≤ x) (h6 : x ≤ 2147483648) (h7 : 0 ≤ a) (h8 : a ≤ 64) (_h9 : 0 ≤ b) (_h10 : b ≤ 64) :
    Calls Tryz.prog 156 #[.int .i64 base, .int .i64 n, deedV op a b x y] w (ProgDoes (progL 2 base n a b x) w) := by
  have hE := Lib.hid (fun W (hb : Below w.heap.size w W) => he.below hb)
  have hM := Lib.hid (show parseM progT2 [base + a, x, base + a, x] = .ok (progL 2 base n a b x) by kernel_rfl)
  unfold deedV
  go_enter Tryz.func156, Tryz.ntmps156
  go_wp2_with (first | (go_at_call 154; go_must (refine (lines_prog progT2 [base + a, x, base + a, x] _ hM.out (by kernel_rfl) (by kernel_rfl) (by kernel_rfl) (by kernel_rfl) (by kernel_rfl) (by kernel_rfl) _ _ (hE.out _ (by repeat (first | exact Below.refl _ _ | refine Below.alloc ?_ (by simp) _ | refine Below.drewK ?_ _ | refine Below.drew1 ?_))) (heap_new _ _ _ (by simp)) (inR_cons (by omega) (by omega) (inR_cons (by omega) (by omega) (inR_cons (by omega) (by omega) (inR_cons (by omega) (by omega) inR_nil))))).mono ?_; rintro e w1 ⟨v, rfl, ho, hb⟩)))
  go_ret2
  exact ⟨v, rfl, own_lower ho (by simp; omega), (show Below w.heap.size w _ by repeat (first | exact Below.refl _ _ | refine Below.alloc ?_ (by simp) _ | refine Below.drewK ?_ _ | refine Below.drew1 ?_)).trans (hb.mono (by simp; omega))⟩
set_option maxHeartbeats 1000000 in
theorem prog3_any (base n op a b x y : Int) (w : World) (he : Env w) (h1 : 0 ≤ base) (h2 : base ≤ 256) (_h3 : 1 ≤ n) (_h4 : n ≤ 64) (h5 : 0 ≤ x) (h6 : x ≤ 2147483648) (h7 : 0 ≤ a) (h8 : a ≤ 64) (h9 : 0 ≤ b) (h10 : b ≤ 64) :
    Calls Tryz.prog 158 #[.int .i64 base, .int .i64 n, deedV op a b x y] w (ProgDoes (progL 3 base n a b x) w) := by
  have hE := Lib.hid (fun W (hb : Below w.heap.size w W) => he.below hb)
  have hM := Lib.hid (show parseM progT3 [base + a, x, base + a, x, base + b, base + b, x] = .ok (progL 3 base n a b x) by kernel_rfl)
  unfold deedV
  go_enter Tryz.func158, Tryz.ntmps158
  go_wp2_with fail
  go_quiet (fail)
  go_wp2_with (first | (go_at_call 154; go_must (refine (lines_prog progT3 [base + a, x, base + a, x, base + b, base + b, x] _ hM.out (by kernel_rfl) (by kernel_rfl) (by kernel_rfl) (by kernel_rfl) (by kernel_rfl) (by kernel_rfl) _ _ (hE.out _ (by repeat (first | exact Below.refl _ _ | refine Below.alloc ?_ (by simp) _ | refine Below.drewK ?_ _ | refine Below.drew1 ?_))) (heap_new _ _ _ (by simp)) (inR_cons (by omega) (by omega) (inR_cons (by omega) (by omega) (inR_cons (by omega) (by omega) (inR_cons (by omega) (by omega) (inR_cons (by omega) (by omega) (inR_cons (by omega) (by omega) (inR_cons (by omega) (by omega) inR_nil)))))))).mono ?_; rintro e w1 ⟨v, rfl, ho, hb⟩)))
  go_ret2
  exact ⟨v, rfl, own_lower ho (by simp; omega), (show Below w.heap.size w _ by repeat (first | exact Below.refl _ _ | refine Below.alloc ?_ (by simp) _ | refine Below.drewK ?_ _ | refine Below.drew1 ?_)).trans (hb.mono (by simp; omega))⟩
set_option maxHeartbeats 1000000 in
theorem prog4_any (base n op a b x y : Int) (w : World) (he : Env w) (h1 : 0 ≤ base) (h2 : base ≤ 256) (_h3 : 1 ≤ n) (_h4 : n ≤ 64) (_h5 : 0 ≤ x) (_h6 : x ≤ 2147483648) (h7 : 0 ≤ a) (h8 : a ≤ 64) (_h9 : 0 ≤ b) (_h10 : b ≤ 64) :
    Calls Tryz.prog 160 #[.int .i64 base, .int .i64 n, deedV op a b x y] w (ProgDoes (progL 4 base n a b x) w) := by
  have hE := Lib.hid (fun W (hb : Below w.heap.size w W) => he.below hb)
  have hM := Lib.hid (show parseM progT4 [base + a] = .ok (progL 4 base n a b x) by kernel_rfl)
  unfold deedV
  go_enter Tryz.func160, Tryz.ntmps160
  go_wp2_with (first | (go_at_call 154; go_must (refine (lines_prog progT4 [base + a] _ hM.out (by kernel_rfl) (by kernel_rfl) (by kernel_rfl) (by kernel_rfl) (by kernel_rfl) (by kernel_rfl) _ _ (hE.out _ (by repeat (first | exact Below.refl _ _ | refine Below.alloc ?_ (by simp) _ | refine Below.drewK ?_ _ | refine Below.drew1 ?_))) (heap_new _ _ _ (by simp)) (inR_cons (by omega) (by omega) inR_nil)).mono ?_; rintro e w1 ⟨v, rfl, ho, hb⟩)))
  go_ret2
  exact ⟨v, rfl, own_lower ho (by simp; omega), (show Below w.heap.size w _ by repeat (first | exact Below.refl _ _ | refine Below.alloc ?_ (by simp) _ | refine Below.drewK ?_ _ | refine Below.drew1 ?_)).trans (hb.mono (by simp; omega))⟩
set_option maxHeartbeats 1000000 in
theorem prog5_any (base n op a b x y : Int) (w : World) (he : Env w) (h1 : 0 ≤ base) (h2 : base ≤ 256) (h3 : 1 ≤ n) (h4 : n ≤ 64) (_h5 : 0 ≤ x) (_h6 : x ≤ 2147483648) (_h7 : 0 ≤ a) (_h8 : a ≤ 64) (_h9 : 0 ≤ b) (_h10 : b ≤ 64) :
    Calls Tryz.prog 162 #[.int .i64 base, .int .i64 n, deedV op a b x y] w (ProgDoes (progL 5 base n a b x) w) := by
  have hE := Lib.hid (fun W (hb : Below w.heap.size w W) => he.below hb)
  have hM := Lib.hid (show parseM progT5 [base, base + n] = .ok (progL 5 base n a b x) by kernel_rfl)
  unfold deedV
  go_enter Tryz.func162, Tryz.ntmps162
  go_wp2_with (first | (go_at_call 154; go_must (refine (lines_prog progT5 [base, base + n] _ hM.out (by kernel_rfl) (by kernel_rfl) (by kernel_rfl) (by kernel_rfl) (by kernel_rfl) (by kernel_rfl) _ _ (hE.out _ (by repeat (first | exact Below.refl _ _ | refine Below.alloc ?_ (by simp) _ | refine Below.drewK ?_ _ | refine Below.drew1 ?_))) (heap_new _ _ _ (by simp)) (inR_cons (by omega) (by omega) (inR_cons (by omega) (by omega) inR_nil))).mono ?_; rintro e w1 ⟨v, rfl, ho, hb⟩)))
  go_ret2
  exact ⟨v, rfl, own_lower ho (by simp; omega), (show Below w.heap.size w _ by repeat (first | exact Below.refl _ _ | refine Below.alloc ?_ (by simp) _ | refine Below.drewK ?_ _ | refine Below.drew1 ?_)).trans (hb.mono (by simp; omega))⟩
def codeOk (base n op a b x y : Int) : Bool := decide (roomI n ≠ 0) && ofB n op a b x y && decide (0 ≤ base) && decide (base + n ≤ 256)
def CodeDoes (base n op a b x y : Int) (w : World) (e : Ending) (w' : World) : Prop :=
  if codeOk base n op a b x y then ProgDoes (progL op.toNat base n a b x) w e w'
  else e = .returned (.tuple #[.slice none 0 0, .int .i64 170]) ∧ Below w.heap.size w w'
def progFn : Nat → Nat
  | 1 => 153
  | 2 => 156
  | 3 => 158
  | 4 => 160
  | _ => 162
theorem kindV_form2 (op : Int) (h : 1 ≤ op ∧ op ≤ 5) : ∃ ka kb kx g, kindV op.toNat = .agg #[.bool ka, .bool kb, .bool kx, .func (Fn.func g) #[] #[], .func (Fn.func (progFn op.toNat)) #[] #[]] := by
  obtain h | h | h | h | h : op = 1 ∨ op = 2 ∨ op = 3 ∨ op = 4 ∨ op = 5 := by omega
  all_goals subst h; exact ⟨_, _, _, _, rfl⟩
theorem prog_enters (k : Nat) : ∀ args w, (callFunc (progFn k) args).run Tryz.prog w = .ok (.enter (progFn k) args) w := by
  unfold progFn
  split
  · exact enters_of Tryz.func153 (by kernel_rfl) rfl
  · exact enters_of Tryz.func156 (by kernel_rfl) rfl
  · exact enters_of Tryz.func158 (by kernel_rfl) rfl
  · exact enters_of Tryz.func160 (by kernel_rfl) rfl
  · exact enters_of Tryz.func162 (by kernel_rfl) rfl
theorem progs_any (base n op a b x y : Int) (w : World) (he : Env w) (h : codeOk base n op a b x y = true) :
    Calls Tryz.prog (progFn op.toNat) #[.int .i64 base, .int .i64 n, deedV op a b x y] w (ProgDoes (progL op.toNat base n a b x) w) := by
  simp only [codeOk, Bool.and_eq_true, decide_eq_true_eq] at h
  obtain ⟨⟨⟨hr, ho⟩, hb0⟩, hb1⟩ := h
  have hop := ofB_op ho
  have hn : 1 ≤ n ∧ n ≤ 64 := by unfold roomI at hr; split at hr <;> simp_all
  simp only [ofB, Bool.and_eq_true, decide_eq_true_eq] at ho
  obtain ⟨⟨⟨⟨⟨_, hra⟩, hrb⟩, hx0⟩, hx1⟩, _⟩ := ho
  have ha : 0 ≤ a ∧ a ≤ 64 := by
    unfold rightB at hra
    split at hra <;> simp at hra <;> omega
  have hb : 0 ≤ b ∧ b ≤ 64 := by
    unfold rightB at hrb
    split at hrb <;> simp at hrb <;> omega
  obtain e | e | e | e | e : op = 1 ∨ op = 2 ∨ op = 3 ∨ op = 4 ∨ op = 5 := by omega
  · subst e; exact prog1_any base n 1 a b x y w he hb0 (by omega) hn.1 hn.2 hx0 hx1 ha.1 ha.2 hb.1 hb.2
  · subst e; exact prog2_any base n 2 a b x y w he hb0 (by omega) hn.1 hn.2 hx0 hx1 ha.1 ha.2 hb.1 hb.2
  · subst e; exact prog3_any base n 3 a b x y w he hb0 (by omega) hn.1 hn.2 hx0 hx1 ha.1 ha.2 hb.1 hb.2
  · subst e; exact prog4_any base n 4 a b x y w he hb0 (by omega) hn.1 hn.2 hx0 hx1 ha.1 ha.2 hb.1 hb.2
  · subst e; exact prog5_any base n 5 a b x y w he hb0 (by omega) hn.1 hn.2 hx0 hx1 ha.1 ha.2 hb.1 hb.2
set_option maxHeartbeats 1000000 in
theorem Code_noroom (base n op a b x y : Int) (w : World) (hr0 : roomI n = 0) : Calls Tryz.prog 76 #[.int .i64 base, .int .i64 n, deedV op a b x y] w (CodeDoes base n op a b x y w) := by
  have HD := Lib.hid (show codeOk base n op a b x y = false by simp [codeOk, hr0])
  have HR := Lib.hid hr0
  clear hr0
  unfold deedV
  cases hok : ofB n op a b x y with
  | false =>
    have HO := Lib.hid hok
    have HKV := Lib.hid (show (if ofB n op a b x y then kindV op.toNat else kindV 0) = .agg #[.bool false, .bool false, .bool false, .nilFunc, .nilFunc] by rw [hok]; rfl)
    clear hok
    go_enter Tryz.func76, Tryz.ntmps76
    go_wp2_with (first
      | (go_at_call 98; go_must (refine (of_any n op a b x y _).mono ?_; rintro e w2 ⟨rfl, hb2⟩; rw [HKV.out, HO.out]))
      | (go_at_call 99; go_must (refine (Room_any n _).mono ?_; rintro e w3 ⟨rfl, rfl⟩; rw [HR.out])))
    go_ret2
    unfold CodeDoes
    rw [HD.out]
    refine ⟨rfl, ?_⟩
    have hb0 : Below w.heap.size w (w.alloc (.cells #[.int .i64 op, .int .i64 a, .int .i64 b, .int .i64 x, .int .i64 y] 104)) := (Below.refl _ _).alloc (Nat.le_refl _) _
    have hb3 := hb0.trans (hb2.mono (by simp))
    exact hb3.alloc (by have := hb2.size; simp at this; omega) _
  | true =>
    obtain ⟨ka, kb, kx, g, hkv⟩ := kindV_form2 op (ofB_op hok)
    have HO := Lib.hid hok
    have HKV := Lib.hid (show (if ofB n op a b x y then kindV op.toNat else kindV 0) = .agg #[.bool ka, .bool kb, .bool kx, .func (Fn.func g) #[] #[], .func (Fn.func (progFn op.toNat)) #[] #[]] by rw [hok]; exact hkv)
    clear hok hkv
    go_enter Tryz.func76, Tryz.ntmps76
    go_wp2_with (first
      | (go_at_call 98; go_must (refine (of_any n op a b x y _).mono ?_; rintro e w2 ⟨rfl, hb2⟩; rw [HKV.out, HO.out]))
      | (go_at_call 99; go_must (refine (Room_any n _).mono ?_; rintro e w3 ⟨rfl, rfl⟩; rw [HR.out])))
    go_ret2
    unfold CodeDoes
    rw [HD.out]
    refine ⟨rfl, ?_⟩
    have hb0 : Below w.heap.size w (w.alloc (.cells #[.int .i64 op, .int .i64 a, .int .i64 b, .int .i64 x, .int .i64 y] 104)) := (Below.refl _ _).alloc (Nat.le_refl _) _
    have hb3 := hb0.trans (hb2.mono (by simp))
    exact hb3.alloc (by have := hb2.size; simp at this; omega) _
set_option maxHeartbeats 1000000 in
theorem Code_notok (base n op a b x y : Int) (w : World) (hok : ofB n op a b x y = false) (h1 : 1 ≤ n) (hr : roomI n = n) : Calls Tryz.prog 76 #[.int .i64 base, .int .i64 n, deedV op a b x y] w (CodeDoes base n op a b x y w) := by
  have HD := Lib.hid (show codeOk base n op a b x y = false by simp [codeOk, hok])
  have HR := Lib.hid hr
  clear hr
  unfold deedV
  have hn0 : (n == 0) = false := by simp; omega
  have HO := Lib.hid hok
  have HKV := Lib.hid (show (if ofB n op a b x y then kindV op.toNat else kindV 0) = .agg #[.bool false, .bool false, .bool false, .nilFunc, .nilFunc] by rw [hok]; rfl)
  clear hok
  go_enter Tryz.func76, Tryz.ntmps76
  go_wp2_with (first
    | (go_at_call 98; go_must (refine (of_any n op a b x y _).mono ?_; rintro e w2 ⟨rfl, hb2⟩; rw [HKV.out, HO.out]))
    | (go_at_call 99; go_must (refine (Room_any n _).mono ?_; rintro e w3 ⟨rfl, rfl⟩; rw [HR.out])))
  go_ret2
  unfold CodeDoes
  rw [HD.out]
  refine ⟨rfl, ?_⟩
  have hb0 : Below w.heap.size w (w.alloc (.cells #[.int .i64 op, .int .i64 a, .int .i64 b, .int .i64 x, .int .i64 y] 104)) := (Below.refl _ _).alloc (Nat.le_refl _) _
  have hb3 := hb0.trans (hb2.mono (by simp))
  exact hb3.alloc (by have := hb2.size; simp at this; omega) _
set_option maxHeartbeats 1000000 in
theorem Code_low (base n op a b x y : Int) (w : World) (hok : ofB n op a b x y = true) (h1 : 1 ≤ n) (h2 : n ≤ 64) (hr : roomI n = n) (hb : base < 0) : Calls Tryz.prog 76 #[.int .i64 base, .int .i64 n, deedV op a b x y] w (CodeDoes base n op a b x y w) := by
  have HD := Lib.hid (show codeOk base n op a b x y = false by simp [codeOk]; omega)
  have HR := Lib.hid hr
  clear hr
  unfold deedV
  have hn0 : (n == 0) = false := by simp; omega
  obtain ⟨ka, kb, kx, g, hkv⟩ := kindV_form2 op (ofB_op hok)
  have HO := Lib.hid hok
  have HKV := Lib.hid (show (if ofB n op a b x y then kindV op.toNat else kindV 0) = .agg #[.bool ka, .bool kb, .bool kx, .func (Fn.func g) #[] #[], .func (Fn.func (progFn op.toNat)) #[] #[]] by rw [hok]; exact hkv)
  clear hok hkv
  go_enter Tryz.func76, Tryz.ntmps76
  go_wp2_with (first
    | (go_at_call 98; go_must (refine (of_any n op a b x y _).mono ?_; rintro e w2 ⟨rfl, hb2⟩; rw [HKV.out, HO.out]))
    | (go_at_call 99; go_must (refine (Room_any n _).mono ?_; rintro e w3 ⟨rfl, rfl⟩; rw [HR.out])))
  go_ret2
  unfold CodeDoes
  rw [HD.out]
  refine ⟨rfl, ?_⟩
  have hb0 : Below w.heap.size w (w.alloc (.cells #[.int .i64 op, .int .i64 a, .int .i64 b, .int .i64 x, .int .i64 y] 104)) := (Below.refl _ _).alloc (Nat.le_refl _) _
  have hb3 := hb0.trans (hb2.mono (by simp))
  exact hb3.alloc (by have := hb2.size; simp at this; omega) _
set_option maxHeartbeats 1000000 in
theorem Code_high (base n op a b x y : Int) (w : World) (hok : ofB n op a b x y = true) (h1 : 1 ≤ n) (h2 : n ≤ 64) (hr : roomI n = n) (hb : 256 < base + n) (h0 : 0 ≤ base) (_hlim : base ≤ 9223372036854775807) : Calls Tryz.prog 76 #[.int .i64 base, .int .i64 n, deedV op a b x y] w (CodeDoes base n op a b x y w) := by
  have HD := Lib.hid (show codeOk base n op a b x y = false by simp [codeOk]; omega)
  have HR := Lib.hid hr
  clear hr
  unfold deedV
  have hn0 : (n == 0) = false := by simp; omega
  have hb0 : decide (base < 0) = false := by simp; omega
  have hb1 : 256 - n < base := by omega
  clear hb
  obtain ⟨ka, kb, kx, g, hkv⟩ := kindV_form2 op (ofB_op hok)
  have HO := Lib.hid hok
  have HKV := Lib.hid (show (if ofB n op a b x y then kindV op.toNat else kindV 0) = .agg #[.bool ka, .bool kb, .bool kx, .func (Fn.func g) #[] #[], .func (Fn.func (progFn op.toNat)) #[] #[]] by rw [hok]; exact hkv)
  clear hok hkv
  go_enter Tryz.func76, Tryz.ntmps76
  go_wp2_with (first
    | (go_at_call 98; go_must (refine (of_any n op a b x y _).mono ?_; rintro e w2 ⟨rfl, hb2⟩; rw [HKV.out, HO.out]))
    | (go_at_call 99; go_must (refine (Room_any n _).mono ?_; rintro e w3 ⟨rfl, rfl⟩; rw [HR.out])))
  go_ret2
  unfold CodeDoes
  rw [HD.out]
  refine ⟨rfl, ?_⟩
  have hb0 : Below w.heap.size w (w.alloc (.cells #[.int .i64 op, .int .i64 a, .int .i64 b, .int .i64 x, .int .i64 y] 104)) := (Below.refl _ _).alloc (Nat.le_refl _) _
  have hb3 := hb0.trans (hb2.mono (by simp))
  exact hb3.alloc (by have := hb2.size; simp at this; omega) _
set_option maxHeartbeats 1000000 in
theorem Code_yes (base n op a b x y : Int) (w : World) (he : Env w) (h : codeOk base n op a b x y = true) : Calls Tryz.prog 76 #[.int .i64 base, .int .i64 n, deedV op a b x y] w (CodeDoes base n op a b x y w) := by
  have HD := Lib.hid h
  have hpr := fun W (hE : Env W) => progs_any base n op a b x y W hE h
  have HP := Lib.hid hpr
  have HE := Lib.hid (fun W (hb : Below w.heap.size w W) => he.below hb)
  simp only [codeOk, Bool.and_eq_true, decide_eq_true_eq] at h
  obtain ⟨⟨⟨hr, hok⟩, hbl⟩, hbh⟩ := h
  have hn : roomI n = n ∧ 1 ≤ n ∧ n ≤ 64 := by unfold roomI at hr ⊢; split at hr <;> simp_all
  have HR := Lib.hid hn.1
  have hn1 := hn.2.1
  have hn2 := hn.2.2
  have hn0 : (n == 0) = false := by simp; omega
  have hb0 : decide (base < 0) = false := by simp; omega
  have hb1 : ¬ 256 - n < base := by omega
  clear hr hn hpr he
  obtain ⟨ka, kb, kx, g, hkv⟩ := kindV_form2 op (ofB_op hok)
  have HO := Lib.hid hok
  have HKV := Lib.hid (show (if ofB n op a b x y then kindV op.toNat else kindV 0) = .agg #[.bool ka, .bool kb, .bool kx, .func (Fn.func g) #[] #[], .func (Fn.func (progFn op.toNat)) #[] #[]] by rw [hok]; exact hkv)
  clear hok hkv
  unfold deedV
  go_enter Tryz.func76, Tryz.ntmps76
  go_upto_region 4 with (first
      | (go_at_call 98; go_must (refine (of_any n op a b x y _).mono ?_; rintro e w2 ⟨rfl, hb2⟩; rw [HKV.out, HO.out]))
      | (go_at_call 99; go_must (refine (Room_any n _).mono ?_; rintro e w3 ⟨rfl, rfl⟩; rw [HR.out])))
  refine wp_gen (fun W => W.heap[w.heap.size]? = some (.cells #[.int .i64 op, .int .i64 a, .int .i64 b, .int .i64 x, .int .i64 y] 104) ∧ W.heap[w2.heap.size]? = some (.cells #[.bool ka, .bool kb, .bool kx, .func (Fn.func g) #[] #[], .func (Fn.func (progFn op.toNat)) #[] #[]] 162) ∧ Below w.heap.size w W) ⟨?_, heap_new _ _ _ rfl, ?_⟩ ?_
  · exact (Below.heap_alloc _ _ _ (by have := hb2.size; simp at this; omega)).trans ((hb2.block _ (by simp)).trans (heap_new _ _ _ rfl))
  · have hb0 : Below w.heap.size w (w.alloc (.cells #[.int .i64 op, .int .i64 a, .int .i64 b, .int .i64 x, .int .i64 y] 104)) := (Below.refl _ _).alloc (Nat.le_refl _) _
    exact (hb0.trans (hb2.mono (by simp))).alloc (by have := hb2.size; simp at this; omega) _
  rintro W ⟨q0, q1, hB⟩
  have c0 : W.cell? ⟨w.heap.size, 0, none⟩ = some (.int .i64 op) := cell_of_row _ _ 0 _ _ _ q0
  have c1 : W.cell? ⟨w.heap.size, 1, none⟩ = some (.int .i64 a) := cell_of_row _ _ 1 _ _ _ q0
  have c2 : W.cell? ⟨w.heap.size, 2, none⟩ = some (.int .i64 b) := cell_of_row _ _ 2 _ _ _ q0
  have c3 : W.cell? ⟨w.heap.size, 3, none⟩ = some (.int .i64 x) := cell_of_row _ _ 3 _ _ _ q0
  have c4 : W.cell? ⟨w.heap.size, 4, none⟩ = some (.int .i64 y) := cell_of_row _ _ 4 _ _ _ q0
  have k4 : W.cell? ⟨w2.heap.size, 4, none⟩ = some (.func (Fn.func (progFn op.toNat)) #[] #[]) := cell_of_row _ _ 4 _ _ _ q1
  have ent := prog_enters op.toNat
  have HPW := Lib.hid (HP.out W (HE.out W hB))
  unfold deedV at HPW
  go_wp2_with (go_at_fn (progFn op.toNat); go_must (refine HPW.out.mono ?_; rintro e w4 ⟨v, rfl, ho, hb4⟩))
  go_ret2
  unfold CodeDoes
  rw [HD.out, if_pos rfl]
  exact ⟨v, rfl, own_lower ho hB.size, hB.trans (hb4.mono hB.size)⟩
theorem Code_any (base n op a b x y : Int) (w : World) (he : Env w) (hbase : base ≤ 9223372036854775807) : Calls Tryz.prog 76 #[.int .i64 base, .int .i64 n, deedV op a b x y] w (CodeDoes base n op a b x y w) := by
  by_cases hr0 : roomI n = 0
  · exact Code_noroom base n op a b x y w hr0
  have hn : roomI n = n ∧ 1 ≤ n ∧ n ≤ 64 := by unfold roomI at hr0 ⊢; split at hr0 <;> simp_all
  cases hok : ofB n op a b x y with
  | false => exact Code_notok base n op a b x y w hok hn.2.1 hn.1
  | true =>
    by_cases h0 : base < 0
    · exact Code_low base n op a b x y w hok hn.2.1 hn.2.2 hn.1 h0
    by_cases h1 : 256 < base + n
    · exact Code_high base n op a b x y w hok hn.2.1 hn.2.2 hn.1 h1 (by omega) hbase
    · exact Code_yes base n op a b x y w he (by simp [codeOk, hok, hr0]; omega)
end Go.Proofs.YtoiokbdipcecnaaGreatDoor.Kb
