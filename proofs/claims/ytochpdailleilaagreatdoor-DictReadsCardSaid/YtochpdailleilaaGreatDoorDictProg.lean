/-
  The program of a dict's DictSize: its text, what dict.lines makes of it, and dict.Code there. Condition: the library's variables (Env).
-/
import Derived.Test.YtochpdailleilaaGreatDoorDictLines
import Derived.Test.YtochpdailleilaaGreatDoorDictDo
import Derived.BigQuiet
import Derived.Deep.RegionHeld3
namespace Go.Proofs.YtochpdailleilaaGreatDoor
open Go.RowKit
set_option maxRecDepth 100000

def ProgDoes (l : List (Int × Int)) (w : World) (e : Ending) (w' : World) : Prop :=
  ∃ v, e = .returned (.tuple #[v, .int .i64 0]) ∧ w'.ownsRow w.heap.size 77 2 v l.length (instrCells l) ∧ Below w.heap.size w w'
/-- lines at a text and numbers whose reading is known -/
theorem lines_prog (text : List UInt8) (ns : List Int) (prog : List (Int × Int)) (hM : parseM text ns = .ok prog) (hmk : marksB text = true) (hs : decide (text.length ≤ 2000) = true) (ha : ascB text = true)
    (hns : (ns.length + 1 == (linesL 35 text).length) = true) (hn : decide (ns.length ≤ 20) = true) (h0 : ((linesL 35 text).getD 0 []).isEmpty = false) (nb C : Nat) (w : World) (he : Env w) (hC : ns.length ≤ C) (hC63 : C ≤ 9223372036854775807) (hnb : nb < w.heap.size)
    (hcs : ∀ j, j < ns.length → w.cell? ⟨nb, j, none⟩ = some (.int .i64 (ns.getD j 0))) (hr : InR ns) :
    Calls Tryz.prog 39 #[.string (S text), .slice (some ⟨nb, 0, none⟩) ns.length C] w (ProgDoes prog w) := by
  have h1 := of_decide_eq_true hs
  have h2 := eq_of_beq hns
  have h3 := of_decide_eq_true hn
  have hL := linesL_len 35 text
  have hlen : (joinL text ns).length ≤ 60000 := by
    have := outL_length (P := linesL 35 text) (ns := ns) (M := text.length) (fun x hx => (hL.2 x hx).1) hr (linesL 35 text).length
    have h4 : (linesL 35 text).length * (text.length + 21) ≤ 21 * 2021 := Nat.mul_le_mul (by omega) (by omega)
    unfold joinL
    omega
  refine (lines_any text ns nb C w he hC hC63 (by omega) h2 (fun e => ?_) hnb hcs hr hlen ?_).mono fun e w' hd => ?_
  · rw [e] at h0; cases h0
  · exact outL_asc (fun x hx c hc => ascB_asc ha c ((hL.2 x hx).2 c hc)) _
  · unfold LinesDoes at hd
    rw [parse_sub hmk hr (by omega), hM] at hd
    exact hd
theorem Below.drew1 {B : Nat} {w w' : World} (h : Below B w w') : Below B w w'.drew := ⟨h.os, h.tape, h.output, h.size, h.block⟩
theorem inR_nil : InR [] := fun j => by simp
theorem inR_cons {x : Int} {r : List Int} (h1 : -9223372036854775808 ≤ x) (h2 : x ≤ 9223372036854775807) (h : InR r) : InR (x :: r) := fun j => by
  cases j with
  | zero => exact ⟨h1, h2⟩
  | succ j => exact h j
theorem new2a (w : World) (o p : Obj) : ((w.alloc o).alloc p).drew.heap[w.heap.size]? = some o := (Below.heap_alloc (w.alloc o) p w.heap.size (by simp)).trans (heap_new w _ _ rfl)
theorem new2b (w : World) (o p : Obj) : ((w.alloc o).alloc p).drew.heap[w.heap.size + 1]? = some p := by
  have h := heap_new (w.alloc o) p _ rfl
  rw [show (w.alloc o).heap.size = w.heap.size + 1 by simp] at h
  exact h
theorem own_quint (w : World) (A : Obj) (cs : Array Value) (l : List Int) (hl : cs = (l.map (Value.int .i64)).toArray ∧ l.length = 5) : Own ((w.alloc A).alloc (.cells cs 2)).drew w.heap.size (.slice (some ⟨w.heap.size + 1, 0, none⟩) 5 5) l := by
  obtain ⟨rfl, h5⟩ := hl
  have := (Bal.of_block (B := w.heap.size) (zs := l) (cap := 5) (g := w.heap.size + 1) (by omega) (new2b w A (.cells (l.map (Value.int .i64)).toArray 2)) (by simp [h5]) (by omega) (by decide) (by rw [List.take_of_length_le (by simp)]; simp [i64s])).own
  rw [h5] at this
  exact this
def progT5 : List UInt8 := [98, 101, 103, 105, 110, 10, 112, 117, 115, 104, 32, 35, 10, 108, 111, 97, 100, 10, 116, 101, 108, 108, 10, 99, 111, 109, 109, 105, 116]
def progL5 (base : Int) : List (Int × Int) := [(16, 0), (1, base), (17, 0), (21, 0), (19, 0)]
set_option maxHeartbeats 1000000 in
theorem program5_any (base x y : Int) (N : Nat) (w : World) (h1 : 0 ≤ base) (h2 : base ≤ 256) (hN1 : 1 ≤ N) (hN2 : N ≤ 60) :
    Calls Tryz.prog 38 #[.int .i64 base, .int .i64 N, .agg #[.int .i64 5, .int .i64 0, .int .i64 0, .int .i64 x, .int .i64 y]] w fun e w' => ∃ g, e = .returned (.tuple #[.string (S progT5), .slice (some ⟨g, 0, none⟩) 1 1]) ∧ w'.heap[g]? = some (.cells #[.int .i64 base] 2) ∧ Below w.heap.size w w' ∧ w.heap.size ≤ g := by
  have hw1 : IntKind.i64.wrap (base + 1) = base + 1 := IntWalk.i64_in _ (by omega)
  obtain ⟨hm, hhm⟩ : ∃ hm : Int, hm = (homeN x N : Nat) := ⟨_, rfl⟩
  have HH := Lib.hid hhm
  clear hhm
  go_enter Tryz.func38, Tryz.ntmps38
  go_upto_region 1 with (fail)
  go_region_held3 (fun w' => w'.cell? ⟨w.heap.size, 3, none⟩ = some (.int .i64 x) ∧ w'.cell? ⟨w.heap.size, 0, none⟩ = some (.int .i64 5)) (go_keep) (first | (go_at_call 43; refine (home_any x N hN1 hN2 _).mono ?_; rintro e w3 ⟨rfl, rfl⟩; rw [← HH.out]))
  go_upto_region 3 with (fail)
  refine wp_gen (fun W => Below w.heap.size w W ∧ W.heap[w.heap.size]? = some (.cells #[.int .i64 5, .int .i64 0, .int .i64 0, .int .i64 x, .int .i64 y] 40) ∧ Own W w.heap.size (.slice (some ⟨w.heap.size + 1, 0, none⟩) 5 5) [hm, (N : Int), base + 1, x, (N : Int)]) ⟨by repeat (first | exact Below.refl _ _ | apply below_drewed1 | (refine Below.alloc ?_ (by first | exact Nat.le_refl _ | simp) _)), by exact new2a _ _ _, by exact own_quint _ _ _ _ ⟨rfl, rfl⟩⟩ ?_
  rintro W ⟨hB, hd, hown⟩
  have d0 := cell_of_row _ _ 0 _ _ _ hd
  have d3 := cell_of_row _ _ 3 _ _ _ hd
  have d4 := cell_of_row _ _ 4 _ _ _ hd
  have HB := Lib.hid hB
  have HO := Lib.hid hown
  have hz := hB.size
  clear hB hown hd
  go_wp2
  go_ret2
  exact ⟨_, rfl, heap_new _ _ _ rfl, HB.out.alloc hz _, hz⟩
set_option maxHeartbeats 1000000 in
theorem Code5_any (base : Int) (n : Nat) (w : World) (he : Env w) (h1 : 1 ≤ n) (h2 : n ≤ 60) (h3 : 0 ≤ base) (h4 : base + (1 + 3 * (n : Int)) ≤ 256) :
    Calls Tryz.prog 24 #[.int .i64 base, .int .i64 n, .agg #[.int .i64 5, .int .i64 0, .int .i64 0, .int .i64 0, .int .i64 0]] w (ProgDoes (progL5 base) w) := by
  have HE := Lib.hid (fun W (hb : Below w.heap.size w W) => he.below hb)
  have HM := Lib.hid (show parseM progT5 [base] = .ok (progL5 base) by kernel_rfl)
  have HR := Lib.hid (show roomI n = 1 + 3 * (n : Int) by unfold roomI; rw [if_pos ⟨by omega, by omega⟩])
  have hn0 : (1 + 3 * (n : Int) == 0) = false := by simp; omega
  have g1 : ¬ base < 0 := by omega
  have g2 : ¬ 256 - (1 + 3 * (n : Int)) < base := by omega
  clear he
  go_enter Tryz.func24, Tryz.ntmps24
  go_wp2_with (first
    | (go_at_call 21; go_must (refine (Room_any n _).mono ?_; rintro e w1 ⟨rfl, rfl⟩; rw [HR.out]))
    | (go_at_call 31; go_must (refine (mayD_any 5 0 0 0 0 _).mono ?_; rintro e w2 ⟨rfl, hb2⟩; rw [show mayD 5 0 0 0 0 = true by decide]; obtain ⟨hc2, _⟩ := bcell hb2))
    | (go_at_call 38; go_must (refine (program5_any base 0 0 n _ h3 (by omega) h1 h2).mono ?_; rintro e w3 ⟨g, rfl, hg3, hb3, -⟩))
    | (go_at_call 39; go_must (refine (lines_prog progT5 [base] _ HM.out (by kernel_rfl) (by kernel_rfl) (by kernel_rfl) (by kernel_rfl) (by kernel_rfl) (by kernel_rfl) g 1 _ (HE.out _ ((((Below.refl _ _).alloc (Nat.le_refl _) _).trans (hb2.mono (by simp))).trans (hb3.mono (by have := hb2.size; simp at this; omega)))) (by simp) (by decide) (lt_of_block hg3) (fun j hj => by
      have e : j = 0 := by simpa using hj
      subst e
      exact cell_of_row _ _ 0 _ _ _ hg3) (inR_cons (by omega) (by omega) inR_nil)).mono ?_; rintro e w4 ⟨v, rfl, ho4, hb4⟩)))
  go_ret2
  have hB3 : Below w.heap.size w w3 := (((Below.refl _ _).alloc (Nat.le_refl _) _).trans (hb2.mono (by simp))).trans (hb3.mono (by have := hb2.size; simp at this; omega))
  exact ⟨v, rfl, own_lower ho4 hB3.size, hB3.trans (hb4.mono hB3.size)⟩
end Go.Proofs.YtochpdailleilaaGreatDoor
