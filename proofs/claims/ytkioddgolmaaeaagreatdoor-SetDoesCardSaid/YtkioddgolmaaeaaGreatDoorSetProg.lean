/-
  The program of a set's SetSize: its text, what deque.lines makes of it, and deque.Code there. Condition: the library's variables (Env).
-/
import Derived.Test.YtkioddgolmaaeaaGreatDoorSetLines
import Derived.Test.YtkioddgolmaaeaaGreatDoorSetDo
import Derived.BigQuiet
namespace Go.Proofs.YtkioddgolmaaeaaGreatDoor
open Go.RowKit
set_option maxRecDepth 100000

def ProgDoes (l : List (Int × Int)) (w : World) (e : Ending) (w' : World) : Prop :=
  ∃ v, e = .returned (.tuple #[v, .int .i64 0]) ∧ w'.ownsRow w.heap.size 70 2 v l.length (instrCells l) ∧ Below w.heap.size w w'
/-- lines at a text and numbers whose reading is known -/
theorem lines_prog (text : List UInt8) (ns : List Int) (prog : List (Int × Int)) (hM : parseM text ns = .ok prog) (hmk : marksB text = true) (hs : decide (text.length ≤ 2000) = true) (ha : ascB text = true)
    (hns : (ns.length + 1 == (linesL 35 text).length) = true) (hn : decide (ns.length ≤ 20) = true) (h0 : ((linesL 35 text).getD 0 []).isEmpty = false) (nb C : Nat) (w : World) (he : Env w) (hC : ns.length ≤ C) (hC63 : C ≤ 9223372036854775807) (hnb : nb < w.heap.size)
    (hcs : ∀ j, j < ns.length → w.cell? ⟨nb, j, none⟩ = some (.int .i64 (ns.getD j 0))) (hr : InR ns) :
    Calls Tryz.prog 35 #[.string (S text), .slice (some ⟨nb, 0, none⟩) ns.length C] w (ProgDoes prog w) := by
  have h1 := of_decide_eq_true hs
  have h2 := eq_of_beq hns
  have h3 := of_decide_eq_true hn
  have hL := linesL_len 35 text
  have hlen : (joinL text ns).length ≤ 60000 := by
    have := outL_length (P := linesL 35 text) (ns := ns) (M := text.length) (fun x hx => (hL.2 x hx).1) hr (linesL 35 text).length
    have h4 : (linesL 35 text).length * (text.length + 21) ≤ 21 * 2021 := Nat.mul_le_mul (by omega) (by omega)
    unfold joinL
    omega
  refine (lines_any text ns nb C w he hC hC63 (by omega) h2 (fun e => ?_) hnb hcs hr hlen ?_).mono fun e w' hd => ?_
  · rw [e] at h0; cases h0
  · exact outL_asc (fun x hx c hc => ascB_asc ha c ((hL.2 x hx).2 c hc)) _
  · unfold LinesDoes at hd
    rw [parse_sub hmk hr (by omega), hM] at hd
    exact hd
theorem Below.drew1 {B : Nat} {w w' : World} (h : Below B w w') : Below B w w'.drew := ⟨h.os, h.tape, h.output, h.size, h.block⟩
theorem inR_nil : InR [] := fun j => by simp
theorem inR_cons {x : Int} {r : List Int} (h1 : -9223372036854775808 ≤ x) (h2 : x ≤ 9223372036854775807) (h : InR r) : InR (x :: r) := fun j => by
  cases j with
  | zero => exact ⟨h1, h2⟩
  | succ j => exact h j
def progT5 : List UInt8 := [98, 101, 103, 105, 110, 10, 112, 117, 115, 104, 32, 35, 10, 108, 111, 97, 100, 10, 116, 101, 108, 108, 10, 99, 111, 109, 109, 105, 116]
def progL5 (base : Int) : List (Int × Int) := [(16, 0), (1, base + 2), (17, 0), (21, 0), (19, 0)]
set_option maxHeartbeats 1000000 in
theorem program5_any (base x : Int) (w : World) (h1 : 0 ≤ base) (h2 : base ≤ 256) :
    Calls Tryz.prog 34 #[.int .i64 base, .agg #[.int .i64 5, .int .i64 0, .int .i64 0, .int .i64 x, .int .i64 0]] w fun e w' => ∃ g, e = .returned (.tuple #[.string (S progT5), .slice (some ⟨g, 0, none⟩) 1 1]) ∧ w'.heap[g]? = some (.cells #[.int .i64 (base + 2)] 2) ∧ Below w.heap.size w w' ∧ w.heap.size ≤ g := by
  go_enter Tryz.func34, Tryz.ntmps34
  go_wp2
  go_ret2
  exact ⟨_, rfl, heap_new _ _ _ (by simp), (((Below.refl _ _).alloc (Nat.le_refl _) _).alloc (by simp) _).alloc (by simp; omega) _, by omega⟩
set_option maxHeartbeats 1000000 in
theorem Code5_any (base n : Int) (w : World) (he : Env w) (h1 : 1 ≤ n) (h2 : n ≤ 60) (h3 : 0 ≤ base) (h4 : base + (3 + 2 * n) ≤ 256) :
    Calls Tryz.prog 23 #[.int .i64 base, .int .i64 n, .agg #[.int .i64 5, .int .i64 0, .int .i64 0, .int .i64 0, .int .i64 0]] w (ProgDoes (progL5 base) w) := by
  have HE := Lib.hid (fun W (hb : Below w.heap.size w W) => he.below hb)
  have HM := Lib.hid (show parseM progT5 [base + 2] = .ok (progL5 base) by kernel_rfl)
  have HR := Lib.hid (show roomI n = 3 + 2 * n by unfold roomI; rw [if_pos ⟨h1, h2⟩])
  have hn0 : (3 + 2 * n == 0) = false := by simp; omega
  have g1 : ¬ base < 0 := by omega
  have g2 : ¬ 256 - (3 + 2 * n) < base := by omega
  clear he
  go_enter Tryz.func23, Tryz.ntmps23
  go_wp2_with (first
    | (go_at_call 20; go_must (refine (Room_any n _).mono ?_; rintro e w1 ⟨rfl, rfl⟩; rw [HR.out]))
    | (go_at_call 29; go_must (refine (mayD_any 5 0 0 0 0 _).mono ?_; rintro e w2 ⟨rfl, hb2⟩; rw [show mayD 5 0 0 0 0 = true by decide]; obtain ⟨hc2, _⟩ := bcell hb2))
    | (go_at_call 34; go_must (refine (program5_any base 0 _ h3 (by omega)).mono ?_; rintro e w3 ⟨g, rfl, hg3, hb3, -⟩))
    | (go_at_call 35; go_must (refine (lines_prog progT5 [base + 2] _ HM.out (by kernel_rfl) (by kernel_rfl) (by kernel_rfl) (by kernel_rfl) (by kernel_rfl) (by kernel_rfl) g 1 _ (HE.out _ ((((Below.refl _ _).alloc (Nat.le_refl _) _).trans (hb2.mono (by simp))).trans (hb3.mono (by have := hb2.size; simp at this; omega)))) (by simp) (by decide) (lt_of_block hg3) (fun j hj => by
      have e : j = 0 := by simpa using hj
      subst e
      exact cell_of_row _ _ 0 _ _ _ hg3) (inR_cons (by omega) (by omega) inR_nil)).mono ?_; rintro e w4 ⟨v, rfl, ho4, hb4⟩)))
  go_ret2
  have hB3 : Below w.heap.size w w3 := (((Below.refl _ _).alloc (Nat.le_refl _) _).trans (hb2.mono (by simp))).trans (hb3.mono (by have := hb2.size; simp at this; omega))
  exact ⟨v, rfl, own_lower ho4 hB3.size, hB3.trans (hb4.mono hB3.size)⟩
end Go.Proofs.YtkioddgolmaaeaaGreatDoor
