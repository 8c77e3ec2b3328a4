/-
  The programs of bank's deeds: their texts, what bank.lines makes of them, and bank.Code. Condition: the library's variables (Env).
-/
import Derived.Test.YtcobmefgefkdmaaGreatDoorBankLines
import Derived.Test.YtcobmefgefkdmaaGreatDoorBankDo
import Derived.BigQuiet
namespace Go.Proofs.YtcobmefgefkdmaaGreatDoor
open Go.RowKit
set_option maxRecDepth 100000

def progT1 : List UInt8 := [98, 101, 103, 105, 110, 10, 112, 117, 115, 104, 32, 35, 10, 112, 117, 115, 104, 32, 35, 10, 108, 111, 97, 100, 10, 112, 117, 115, 104, 32, 35, 10, 97, 100, 100, 10, 115, 116, 111, 114, 101, 10, 112, 117, 115, 104, 32, 35, 10, 108, 111, 97, 100, 10, 116, 101, 108, 108, 10, 99, 111, 109, 109, 105, 116]
def progT2 : List UInt8 := [98, 101, 103, 105, 110, 10, 112, 117, 115, 104, 32, 35, 10, 108, 111, 97, 100, 10, 115, 101, 116, 32, 48, 10, 103, 101, 116, 32, 48, 10, 112, 117, 115, 104, 32, 35, 10, 108, 101, 115, 115, 10, 122, 101, 114, 111, 32, 114, 105, 99, 104, 10, 112, 117, 115, 104, 32, 48, 10, 116, 101, 108, 108, 10, 106, 117, 109, 112, 32, 111, 117, 116, 10, 114, 105, 99, 104, 58, 10, 112, 117, 115, 104, 32, 35, 10, 103, 101, 116, 32, 48, 10, 112, 117, 115, 104, 32, 35, 10, 115, 117, 98, 10, 115, 116, 111, 114, 101, 10, 112, 117, 115, 104, 32, 49, 10, 116, 101, 108, 108, 10, 111, 117, 116, 58, 10, 99, 111, 109, 109, 105, 116]
def progT3 : List UInt8 := [98, 101, 103, 105, 110, 10, 112, 117, 115, 104, 32, 35, 10, 108, 111, 97, 100, 10, 115, 101, 116, 32, 48, 10, 103, 101, 116, 32, 48, 10, 112, 117, 115, 104, 32, 35, 10, 108, 101, 115, 115, 10, 122, 101, 114, 111, 32, 114, 105, 99, 104, 10, 112, 117, 115, 104, 32, 48, 10, 116, 101, 108, 108, 10, 106, 117, 109, 112, 32, 111, 117, 116, 10, 114, 105, 99, 104, 58, 10, 112, 117, 115, 104, 32, 35, 10, 103, 101, 116, 32, 48, 10, 112, 117, 115, 104, 32, 35, 10, 115, 117, 98, 10, 115, 116, 111, 114, 101, 10, 112, 117, 115, 104, 32, 35, 10, 112, 117, 115, 104, 32, 35, 10, 108, 111, 97, 100, 10, 112, 117, 115, 104, 32, 35, 10, 97, 100, 100, 10, 115, 116, 111, 114, 101, 10, 112, 117, 115, 104, 32, 49, 10, 116, 101, 108, 108, 10, 111, 117, 116, 58, 10, 99, 111, 109, 109, 105, 116]
def progT4 : List UInt8 := [98, 101, 103, 105, 110, 10, 112, 117, 115, 104, 32, 35, 10, 108, 111, 97, 100, 10, 116, 101, 108, 108, 10, 99, 111, 109, 109, 105, 116]
def progT5 : List UInt8 := [98, 101, 103, 105, 110, 10, 112, 117, 115, 104, 32, 35, 10, 115, 101, 116, 32, 48, 10, 112, 117, 115, 104, 32, 48, 10, 115, 101, 116, 32, 49, 10, 110, 101, 120, 116, 58, 10, 103, 101, 116, 32, 48, 10, 112, 117, 115, 104, 32, 35, 10, 108, 101, 115, 115, 10, 122, 101, 114, 111, 32, 111, 117, 116, 10, 103, 101, 116, 32, 49, 10, 103, 101, 116, 32, 48, 10, 108, 111, 97, 100, 10, 97, 100, 100, 10, 115, 101, 116, 32, 49, 10, 103, 101, 116, 32, 48, 10, 112, 117, 115, 104, 32, 49, 10, 97, 100, 100, 10, 115, 101, 116, 32, 48, 10, 106, 117, 109, 112, 32, 110, 101, 120, 116, 10, 111, 117, 116, 58, 10, 103, 101, 116, 32, 49, 10, 116, 101, 108, 108, 10, 99, 111, 109, 109, 105, 116]
/-- the program of a deed -/
def progL (op : Nat) (base n a b x : Int) : List (Int × Int) :=
  match op with
  | 1 => [(16, 0), (1, base + a), (1, base + a), (17, 0), (1, x), (7, 0), (18, 0), (1, base + a), (17, 0), (21, 0), (19, 0)]
  | 2 => [(16, 0), (1, base + a), (17, 0), (6, 0), (5, 0), (1, x), (11, 0), (15, 11), (1, 0), (21, 0), (14, 18), (1, base + a), (5, 0), (1, x), (8, 0), (18, 0), (1, 1), (21, 0), (19, 0)]
  | 3 => [(16, 0), (1, base + a), (17, 0), (6, 0), (5, 0), (1, x), (11, 0), (15, 11), (1, 0), (21, 0), (14, 24), (1, base + a), (5, 0), (1, x), (8, 0), (18, 0), (1, base + b), (1, base + b), (17, 0), (1, x), (7, 0), (18, 0), (1, 1), (21, 0), (19, 0)]
  | 4 => [(16, 0), (1, base + a), (17, 0), (21, 0), (19, 0)]
  | _ => [(16, 0), (1, base), (6, 0), (1, 0), (6, 1), (5, 0), (1, base + n), (11, 0), (15, 19), (5, 1), (5, 0), (17, 0), (7, 0), (6, 1), (5, 0), (1, 1), (7, 0), (6, 0), (14, 5), (5, 1), (21, 0), (19, 0)]
def ProgDoes (l : List (Int × Int)) (w : World) (e : Ending) (w' : World) : Prop :=
  ∃ v, e = .returned (.tuple #[v, .int .i64 0]) ∧ w'.ownsRow w.heap.size 57 2 v l.length (instrCells l) ∧ Below w.heap.size w w'
/-- lines at a text and numbers whose reading is known -/
theorem lines_prog (text : List UInt8) (ns : List Int) (prog : List (Int × Int)) (hM : parseM text ns = .ok prog) (hmk : marksB text = true) (hs : decide (text.length ≤ 2000) = true) (ha : ascB text = true)
    (hns : (ns.length + 1 == (linesL 35 text).length) = true) (hn : decide (ns.length ≤ 20) = true) (h0 : ((linesL 35 text).getD 0 []).isEmpty = false) (nb : Nat) (w : World) (he : Env w)
    {t : TypeId} {fz : Nat × Nat} (hb : w.heap[nb]? = some (.cells (ns.map (Value.int .i64)).toArray t fz)) (hr : InR ns) :
    Calls Tryz.prog 32 #[.string (S text), .slice (some ⟨nb, 0, none⟩) ns.length ns.length] w (ProgDoes prog w) := by
  have h1 := of_decide_eq_true hs
  have h2 := eq_of_beq hns
  have h3 := of_decide_eq_true hn
  have hL := linesL_len 35 text
  have hlen : (joinL text ns).length ≤ 60000 := by
    have := outL_length (P := linesL 35 text) (ns := ns) (M := text.length) (fun x hx => (hL.2 x hx).1) hr (linesL 35 text).length
    have h4 : (linesL 35 text).length * (text.length + 21) ≤ 21 * 2021 := Nat.mul_le_mul (by omega) (by omega)
    unfold joinL
    omega
  refine (lines_any text ns nb w he (by omega) h2 (fun e => ?_) (lt_of_block hb) (fun j hj => ?_) hr hlen ?_).mono fun e w' hd => ?_
  · rw [e] at h0; cases h0
  · have hx : ns.getD j 0 = ns[j] := by rw [List.getD_eq_getElem?_getD, List.getElem?_eq_getElem hj]; rfl
    simp [World.cell?, hb, hj]
  · exact outL_asc (fun x hx c hc => ascB_asc ha c ((hL.2 x hx).2 c hc)) _
  · unfold LinesDoes at hd
    rw [parse_sub hmk hr (by omega), hM] at hd
    exact hd
theorem Below.drewK {B : Nat} {w w' : World} (h : Below B w w') (n : Nat) : Below B w (w'.drewN n) := ⟨h.os, h.tape, h.output, h.size, h.block⟩
theorem Below.drew1 {B : Nat} {w w' : World} (h : Below B w w') : Below B w w'.drew := ⟨h.os, h.tape, h.output, h.size, h.block⟩
theorem inR_nil : InR [] := fun j => by simp
theorem inR_cons {x : Int} {r : List Int} (h1 : -9223372036854775808 ≤ x) (h2 : x ≤ 9223372036854775807) (h : InR r) : InR (x :: r) := fun j => by
  cases j with
  | zero => exact ⟨h1, h2⟩
  | succ j => exact h j
set_option maxHeartbeats 1000000 in
theorem prog1_any (base n op a b x y : Int) (w : World) (he : Env w) (h1 : 0 ≤ base) (h2 : base ≤ 256) (_h3 : 1 ≤ n) (_h4 : n ≤ 64) (h5 : 0 ≤ x) (h6 : x ≤ 2147483648) (h7 : 0 ≤ a) (h8 : a ≤ 64) (_h9 : 0 ≤ b) (_h10 : b ≤ 64) :
    Calls Tryz.prog 31 #[.int .i64 base, .int .i64 n, deedV op a b x y] w (ProgDoes (progL 1 base n a b x) w) := by
  have hE := Lib.hid (fun W (hb : Below w.heap.size w W) => he.below hb)
  have hM := Lib.hid (show parseM progT1 [base + a, base + a, x, base + a] = .ok (progL 1 base n a b x) by kernel_rfl)
  unfold deedV
  go_enter Tryz.func31, Tryz.ntmps31
  go_wp2_with (first | (go_at_call 32; go_must (refine (lines_prog progT1 [base + a, base + a, x, base + a] _ hM.out (by kernel_rfl) (by kernel_rfl) (by kernel_rfl) (by kernel_rfl) (by kernel_rfl) (by kernel_rfl) _ _ (hE.out _ (by repeat (first | exact Below.refl _ _ | refine Below.alloc ?_ (by simp) _ | refine Below.drewK ?_ _ | refine Below.drew1 ?_))) (heap_new _ _ _ (by simp)) (inR_cons (by omega) (by omega) (inR_cons (by omega) (by omega) (inR_cons (by omega) (by omega) (inR_cons (by omega) (by omega) inR_nil))))).mono ?_; rintro e w1 ⟨v, rfl, ho, hb⟩)))
  go_ret2
  exact ⟨v, rfl, own_lower ho (by simp; omega), (show Below w.heap.size w _ by repeat (first | exact Below.refl _ _ | refine Below.alloc ?_ (by simp) _ | refine Below.drewK ?_ _ | refine Below.drew1 ?_)).trans (hb.mono (by simp; omega))⟩
set_option maxHeartbeats 1000000 in
theorem prog2_any (base n op a b x y : Int) (w : World) (he : Env w) (h1 : 0 ≤ base) (h2 : base ≤ 256) (_h3 : 1 ≤ n) (_h4 : n ≤ 64) (h5 : 0 ≤ x) (h6 : x ≤ 2147483648) (h7 : 0 ≤ a) (h8 : a ≤ 64) (_h9 : 0 ≤ b) (_h10 : b ≤ 64) :
    Calls Tryz.prog 34 #[.int .i64 base, .int .i64 n, deedV op a b x y] w (ProgDoes (progL 2 base n a b x) w) := by
  have hE := Lib.hid (fun W (hb : Below w.heap.size w W) => he.below hb)
  have hM := Lib.hid (show parseM progT2 [base + a, x, base + a, x] = .ok (progL 2 base n a b x) by kernel_rfl)
  unfold deedV
  go_enter Tryz.func34, Tryz.ntmps34
  go_wp2_with (first | (go_at_call 32; go_must (refine (lines_prog progT2 [base + a, x, base + a, x] _ hM.out (by kernel_rfl) (by kernel_rfl) (by kernel_rfl) (by kernel_rfl) (by kernel_rfl) (by kernel_rfl) _ _ (hE.out _ (by repeat (first | exact Below.refl _ _ | refine Below.alloc ?_ (by simp) _ | refine Below.drewK ?_ _ | refine Below.drew1 ?_))) (heap_new _ _ _ (by simp)) (inR_cons (by omega) (by omega) (inR_cons (by omega) (by omega) (inR_cons (by omega) (by omega) (inR_cons (by omega) (by omega) inR_nil))))).mono ?_; rintro e w1 ⟨v, rfl, ho, hb⟩)))
  go_ret2
  exact ⟨v, rfl, own_lower ho (by simp; omega), (show Below w.heap.size w _ by repeat (first | exact Below.refl _ _ | refine Below.alloc ?_ (by simp) _ | refine Below.drewK ?_ _ | refine Below.drew1 ?_)).trans (hb.mono (by simp; omega))⟩
set_option maxHeartbeats 1000000 in
theorem prog3_any (base n op a b x y : Int) (w : World) (he : Env w) (h1 : 0 ≤ base) (h2 : base ≤ 256) (_h3 : 1 ≤ n) (_h4 : n ≤ 64) (h5 : 0 ≤ x) (h6 : x ≤ 2147483648) (h7 : 0 ≤ a) (h8 : a ≤ 64) (h9 : 0 ≤ b) (h10 : b ≤ 64) :
    Calls Tryz.prog 36 #[.int .i64 base, .int .i64 n, deedV op a b x y] w (ProgDoes (progL 3 base n a b x) w) := by
  have hE := Lib.hid (fun W (hb : Below w.heap.size w W) => he.below hb)
  have hM := Lib.hid (show parseM progT3 [base + a, x, base + a, x, base + b, base + b, x] = .ok (progL 3 base n a b x) by kernel_rfl)
  unfold deedV
  go_enter Tryz.func36, Tryz.ntmps36
  go_wp2_with fail
  go_quiet (fail)
  go_wp2_with (first | (go_at_call 32; go_must (refine (lines_prog progT3 [base + a, x, base + a, x, base + b, base + b, x] _ hM.out (by kernel_rfl) (by kernel_rfl) (by kernel_rfl) (by kernel_rfl) (by kernel_rfl) (by kernel_rfl) _ _ (hE.out _ (by repeat (first | exact Below.refl _ _ | refine Below.alloc ?_ (by simp) _ | refine Below.drewK ?_ _ | refine Below.drew1 ?_))) (heap_new _ _ _ (by simp)) (inR_cons (by omega) (by omega) (inR_cons (by omega) (by omega) (inR_cons (by omega) (by omega) (inR_cons (by omega) (by omega) (inR_cons (by omega) (by omega) (inR_cons (by omega) (by omega) (inR_cons (by omega) (by omega) inR_nil)))))))).mono ?_; rintro e w1 ⟨v, rfl, ho, hb⟩)))
  go_ret2
  exact ⟨v, rfl, own_lower ho (by simp; omega), (show Below w.heap.size w _ by repeat (first | exact Below.refl _ _ | refine Below.alloc ?_ (by simp) _ | refine Below.drewK ?_ _ | refine Below.drew1 ?_)).trans (hb.mono (by simp; omega))⟩
set_option maxHeartbeats 1000000 in
theorem prog4_any (base n op a b x y : Int) (w : World) (he : Env w) (h1 : 0 ≤ base) (h2 : base ≤ 256) (_h3 : 1 ≤ n) (_h4 : n ≤ 64) (_h5 : 0 ≤ x) (_h6 : x ≤ 2147483648) (h7 : 0 ≤ a) (h8 : a ≤ 64) (_h9 : 0 ≤ b) (_h10 : b ≤ 64) :
    Calls Tryz.prog 38 #[.int .i64 base, .int .i64 n, deedV op a b x y] w (ProgDoes (progL 4 base n a b x) w) := by
  have hE := Lib.hid (fun W (hb : Below w.heap.size w W) => he.below hb)
  have hM := Lib.hid (show parseM progT4 [base + a] = .ok (progL 4 base n a b x) by kernel_rfl)
  unfold deedV
  go_enter Tryz.func38, Tryz.ntmps38
  go_wp2_with (first | (go_at_call 32; go_must (refine (lines_prog progT4 [base + a] _ hM.out (by kernel_rfl) (by kernel_rfl) (by kernel_rfl) (by kernel_rfl) (by kernel_rfl) (by kernel_rfl) _ _ (hE.out _ (by repeat (first | exact Below.refl _ _ | refine Below.alloc ?_ (by simp) _ | refine Below.drewK ?_ _ | refine Below.drew1 ?_))) (heap_new _ _ _ (by simp)) (inR_cons (by omega) (by omega) inR_nil)).mono ?_; rintro e w1 ⟨v, rfl, ho, hb⟩)))
  go_ret2
  exact ⟨v, rfl, own_lower ho (by simp; omega), (show Below w.heap.size w _ by repeat (first | exact Below.refl _ _ | refine Below.alloc ?_ (by simp) _ | refine Below.drewK ?_ _ | refine Below.drew1 ?_)).trans (hb.mono (by simp; omega))⟩
set_option maxHeartbeats 1000000 in
theorem prog5_any (base n op a b x y : Int) (w : World) (he : Env w) (h1 : 0 ≤ base) (h2 : base ≤ 256) (h3 : 1 ≤ n) (h4 : n ≤ 64) (_h5 : 0 ≤ x) (_h6 : x ≤ 2147483648) (_h7 : 0 ≤ a) (_h8 : a ≤ 64) (_h9 : 0 ≤ b) (_h10 : b ≤ 64) :
    Calls Tryz.prog 40 #[.int .i64 base, .int .i64 n, deedV op a b x y] w (ProgDoes (progL 5 base n a b x) w) := by
  have hE := Lib.hid (fun W (hb : Below w.heap.size w W) => he.below hb)
  have hM := Lib.hid (show parseM progT5 [base, base + n] = .ok (progL 5 base n a b x) by kernel_rfl)
  unfold deedV
  go_enter Tryz.func40, Tryz.ntmps40
  go_wp2_with (first | (go_at_call 32; go_must (refine (lines_prog progT5 [base, base + n] _ hM.out (by kernel_rfl) (by kernel_rfl) (by kernel_rfl) (by kernel_rfl) (by kernel_rfl) (by kernel_rfl) _ _ (hE.out _ (by repeat (first | exact Below.refl _ _ | refine Below.alloc ?_ (by simp) _ | refine Below.drewK ?_ _ | refine Below.drew1 ?_))) (heap_new _ _ _ (by simp)) (inR_cons (by omega) (by omega) (inR_cons (by omega) (by omega) inR_nil))).mono ?_; rintro e w1 ⟨v, rfl, ho, hb⟩)))
  go_ret2
  exact ⟨v, rfl, own_lower ho (by simp; omega), (show Below w.heap.size w _ by repeat (first | exact Below.refl _ _ | refine Below.alloc ?_ (by simp) _ | refine Below.drewK ?_ _ | refine Below.drew1 ?_)).trans (hb.mono (by simp; omega))⟩
end Go.Proofs.YtcobmefgefkdmaaGreatDoor
