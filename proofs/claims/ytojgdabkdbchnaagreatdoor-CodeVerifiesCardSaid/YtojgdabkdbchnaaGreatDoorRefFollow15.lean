/-
  (*quash/quashref15.table).follow: every call over a table whose states are a list. No condition.
-/
import Derived.Test.YtojgdabkdbchnaaGreatDoorRefTab15
namespace Go.Proofs.YtojgdabkdbchnaaGreatDoor
open Go.RowKit
set_option maxRecDepth 100000

theorem add_at (B Bt tb hb H n : Nat) (vt : Value) (L : List VP) (a d be : Int) (w : World) (hn : n ≤ 400) (hH : H = (n + 1) * 33 * 34) (h : TM B Bt tb hb H vt L w) (hp : okP n (a, d, be - 1)) (hL : ∀ q ∈ L, okP n q) (hlen : L.length ≤ 500000) :
    Calls Tryz.prog 22 #[.pointer (some ⟨tb, 0, none⟩), .int .i64 a, .int .i64 d, .int .i64 be] w (Added B Bt tb hb H vt (addB (a, d, be - 1) L) w) := by
  have := add_any B Bt tb hb H n vt L a d (be - 1) w hn hH h hp hL hlen
  rw [show be - 1 + 1 = be by omega] at this
  exact this
theorem addB_ok {n : Nat} {p : VP} {L : List VP} (hL : ∀ q ∈ L, okP n q) (hp : okP n p) : ∀ q ∈ addB p L, okP n q := fun q hq => by
  unfold addB at hq
  split at hq
  · exact hL q hq
  · rcases List.mem_append.1 hq with h | h
    · exact hL q h
    · rw [List.mem_singleton] at h; subst h; exact hp
theorem addB_len (p : VP) (L : List VP) : (addB p L).length ≤ L.length + 1 := by
  unfold addB
  split <;> simp
/-- behind a follow -/
def Followed (B Bt tb hb H : Nat) (L : List VP) (w : World) (e : Ending) (w' : World) : Prop :=
  e = .returned (.tuple #[]) ∧ ∃ vt', TM B Bt tb hb H vt' L w' ∧ Below B w w' ∧ Fr Bt tb hb w w'
/-- the states behind one, by the instruction -/
def sucs (op a k d b : Int) : List VP := (behindS op a k d b).1.map fun x => (x, (behindS op a k d b).2.1, (behindS op a k d b).2.2)
theorem amiss_after {op d b : Int} (h : amissS op d b = 0) : 0 ≤ d - pops op ∧ d - pops op + pushes op ≤ 32 ∧ (op = 20 → 0 ≤ b) := by
  unfold amissS at h
  have h1 : ¬ (d < pops op ∨ 32 < d - pops op + pushes op) := by
    intro e; rw [if_pos e] at h; exact absurd h (by decide)
  rw [if_neg h1] at h
  have h2 : ¬ (op = 16 ∧ 0 ≤ b) := by
    intro e; rw [if_pos e] at h; exact absurd h (by decide)
  rw [if_neg h2] at h
  have h3 : ¬ ((op = 17 ∨ op = 18 ∨ op = 19 ∨ op = 20) ∧ b < 0) := by
    intro e; rw [if_pos e] at h; exact absurd h (by decide)
  refine ⟨by omega, by omega, fun e => by omega⟩
set_option maxHeartbeats 4000000 in
theorem follow_any (B Bt tb hb H n : Nat) (vt : Value) (L : List VP) (op a k d be : Int) (w : World) (hn : n ≤ 400) (hH : H = (n + 1) * 33 * 34) (h : TM B Bt tb hb H vt L w) (hp : okP n (k, d, be - 1)) (hk : k < n) (hm : mayB (takes op) a n = true) (he : amissS op d (be - 1) = 0)
    (hL : ∀ q ∈ L, okP n q) (hlen : L.length ≤ 490000) :
    Calls Tryz.prog 24 #[.pointer (some ⟨tb, 0, none⟩), .agg #[.int .i64 op, .int .i64 a], .int .i64 k, .int .i64 d, .int .i64 be] w (Followed B Bt tb hb H (addAllB (sucs op a k d (be - 1)) L) w) := by
  have hok := behind_ok hp hk hm he
  obtain ⟨h1, h2, h3, h4, h5, h6⟩ := hp
  simp only at h1 h2 h3 h4 h5 h6
  obtain ⟨ha1, ha2, ha3⟩ := amiss_after he
  obtain ⟨hp0, hp1, hq0, hq1⟩ := pops_bd op
  have hB1 : Below w.heap.size w (w.alloc (.cells #[.int .i64 op, .int .i64 a] 42)) := (Below.refl _ _).alloc (Nat.le_refl _) _
  have HM := Lib.hid (h.keep hB1)
  have hle := h.le
  have hbt := h.t1
  have hbb := h.b1
  have HA := Lib.hid (show Below B w (w.alloc (.cells #[.int .i64 op, .int .i64 a] 42)) from hB1.mono (by omega))
  have HF := Lib.hid (show Fr Bt tb hb w (w.alloc (.cells #[.int .i64 op, .int .i64 a] 42)) from fun g hg _ _ => hB1.block g (by omega))
  have HOL := Lib.hid (show ∀ g, vt.ownBlock = some g → g < w.heap.size from fun g hg => by obtain ⟨_, hc⟩ := own_block h.todo hg; exact lt_of_block hc)
  have hlt1 := h.lt.1
  have hlt2 := h.lt.2
  have HL := Lib.hid hL
  have HP := fun w => Lib.hid (refPops_any op w)
  have HQ := fun w => Lib.hid (refPushes_any op w)
  have HH := Lib.hid hH
  clear hL h hB1 hH hm
  -- one add
  have one : ∀ x d' b', behindS op a k d (be - 1) = ([x], d', b') → okP n (x, d', b') → ∀ W, W = w.alloc (.cells #[.int .i64 op, .int .i64 a] 42) → Calls Tryz.prog 22 #[.pointer (some ⟨tb, 0, none⟩), .int .i64 x, .int .i64 d', .int .i64 (b' + 1)] W (Followed B Bt tb hb H (addAllB (sucs op a k d (be - 1)) L) w) := by
    intro x d' b' e hx W hW
    subst hW
    refine (add_any B Bt tb hb H n vt L x d' b' _ hn HH.out HM.out hx HL.out (by omega)).mono fun e' w' ⟨q1, vt', q2, q3, q4, _⟩ => ⟨q1, vt', ?_, HA.out.trans q3, HF.out.trans q4⟩
    rw [sucs, e]
    exact q2
  have HONE := Lib.hid one
  clear one
  by_cases c22 : op = 22
  · have e : behindS op a k d (be - 1) = ([], d - pops op + pushes op, be - 1) := by simp [behindS, *]
    have hS : sucs op a k d (be - 1) = [] := by rw [sucs, e]; rfl
    rw [hS]
    have HM2 := Lib.hid HM.out
    clear HONE hok e he hS
    generalize pops op = P at *
    generalize pushes op = Q at *
    subst c22
    go_enter Tryz.func24, Tryz.ntmps24
    go_wp2_with (first
      | (go_at_call 47; refine (HP _).out.mono ?_; rintro e w1 ⟨rfl, rfl⟩)
      | (go_at_call 48; refine (HQ _).out.mono ?_; rintro e w1 ⟨rfl, rfl⟩))
    go_end0
    exact ⟨rfl, vt, HM2.out, HA.out, HF.out⟩
  by_cases c14 : op = 14
  · have e : behindS op a k d (be - 1) = ([a], d - pops op + pushes op, be - 1) := by simp [behindS, *]
    have hc := HONE.out _ _ _ e (by have := hok a (by rw [e]; simp); rw [e] at this; exact this)
    rw [show (be - 1) + 1 = be by omega] at hc
    have HC := Lib.hid hc
    clear HONE hok hc e he HL HM
    generalize sucs op a k d (be - 1) = S at HC ⊢
    generalize pops op = P at *
    generalize pushes op = Q at *
    subst c14
    clear c22
    go_enter Tryz.func24, Tryz.ntmps24
    go_wp2_with (first
      | (go_at_call 47; refine (HP _).out.mono ?_; rintro e w1 ⟨rfl, rfl⟩)
      | (go_at_call 48; refine (HQ _).out.mono ?_; rintro e w1 ⟨rfl, rfl⟩)
      | (go_at_call 22; go_must (refine (HC.out _ rfl).mono ?_; rintro e w2 ⟨rfl, hv⟩)))
    go_end0
    exact ⟨rfl, hv⟩
  by_cases c15 : op = 15
  · have e : behindS op a k d (be - 1) = ([k + 1, a], d - pops op + pushes op, be - 1) := by simp [behindS, *]
    have o1 : okP n (k + 1, d - pops op + pushes op, be - 1) := by have := hok (k + 1) (by rw [e]; simp); rw [e] at this; exact this
    have o2 : okP n (a, d - pops op + pushes op, be - 1) := by have := hok a (by rw [e]; simp); rw [e] at this; exact this
    have hS : addAllB (sucs op a k d (be - 1)) L = addB (a, d - pops op + pushes op, be - 1) (addB (k + 1, d - pops op + pushes op, be - 1) L) := by rw [sucs, e]; rfl
    have c1 := fun W (hW : W = w.alloc (.cells #[.int .i64 op, .int .i64 a] 42)) => add_at B Bt tb hb H n vt L (k + 1) (d - pops op + pushes op) be W hn HH.out (by subst hW; exact HM.out) o1 HL.out (by omega)
    have c2 := fun W vt1 (hT : TM B Bt tb hb H vt1 (addB (k + 1, d - pops op + pushes op, be - 1) L) W) => add_at B Bt tb hb H n vt1 _ a (d - pops op + pushes op) be W hn HH.out hT o2 (addB_ok HL.out o1) (by have := addB_len (k + 1, d - pops op + pushes op, be - 1) L; omega)
    have C1 := Lib.hid c1
    have C2 := Lib.hid c2
    rw [hS]
    clear HONE hok e he hS c1 c2 o1 o2 HL HM
    generalize pops op = P at *
    generalize pushes op = Q at *
    subst c15
    clear c22 c14
    go_enter Tryz.func24, Tryz.ntmps24
    go_upto_region 10 with (first
      | (go_at_call 47; refine (HP _).out.mono ?_; rintro e w1 ⟨rfl, rfl⟩)
      | (go_at_call 48; refine (HQ _).out.mono ?_; rintro e w1 ⟨rfl, rfl⟩)
      | (go_at_call 22; go_must (refine (C1.out _ rfl).mono ?_; rintro e w2 ⟨rfl, vt1, hT1, hb1, hf1, hg1⟩)))
    have hd2 : w2.heap[w.heap.size]? = some (.cells #[.int .i64 15, .int .i64 a] 42) := (hg1 _ (by simp) (by omega) (by omega) (fun e => by have := HOL.out _ e; omega)).trans (heap_new _ _ _ rfl)
    have cx := cell_of_row _ _ 1 _ _ _ hd2
    go_wp2_with (go_at_call 22; go_must (refine (C2.out _ _ hT1).mono ?_; rintro e w3 ⟨rfl, vt2, hT2, hb2, hf2, -⟩))
    go_end0
    exact ⟨rfl, vt2, hT2, (HA.out.trans hb1).trans hb2, (HF.out.trans hf1).trans hf2⟩
  by_cases c20 : op = 20
  · have e : behindS op a k d (be - 1) = ([a], be - 1, -1) := by simp [behindS, *]
    have hc := HONE.out _ _ _ e (by have := hok a (by rw [e]; simp); rw [e] at this; exact this)
    rw [show (-1 : Int) + 1 = 0 by omega] at hc
    have HC := Lib.hid hc
    clear HONE hok hc e he HL HM
    generalize sucs op a k d (be - 1) = S at HC ⊢
    generalize pops op = P at *
    generalize pushes op = Q at *
    subst c20
    clear c22 c14 c15
    go_enter Tryz.func24, Tryz.ntmps24
    go_wp2_with (first
      | (go_at_call 47; refine (HP _).out.mono ?_; rintro e w1 ⟨rfl, rfl⟩)
      | (go_at_call 48; refine (HQ _).out.mono ?_; rintro e w1 ⟨rfl, rfl⟩)
      | (go_at_call 22; go_must (refine (HC.out _ rfl).mono ?_; rintro e w2 ⟨rfl, hv⟩)))
    go_end0
    exact ⟨rfl, hv⟩
  by_cases c16 : op = 16
  · have e : behindS op a k d (be - 1) = ([k + 1], d - pops op + pushes op, d - pops op + pushes op) := by simp [behindS, *]
    have hc := HONE.out _ _ _ e (by have := hok (k + 1) (by rw [e]; simp); rw [e] at this; exact this)
    rw [show (d - pops op + pushes op) + 1 = d - pops op + pushes op + 1 by omega] at hc
    have HC := Lib.hid hc
    clear HONE hok hc e he HL HM
    generalize sucs op a k d (be - 1) = S at HC ⊢
    generalize pops op = P at *
    generalize pushes op = Q at *
    subst c16
    clear c22 c14 c15 c20
    go_enter Tryz.func24, Tryz.ntmps24
    go_wp2_with (first
      | (go_at_call 47; refine (HP _).out.mono ?_; rintro e w1 ⟨rfl, rfl⟩)
      | (go_at_call 48; refine (HQ _).out.mono ?_; rintro e w1 ⟨rfl, rfl⟩)
      | (go_at_call 22; go_must (refine (HC.out _ rfl).mono ?_; rintro e w2 ⟨rfl, hv⟩)))
    go_end0
    exact ⟨rfl, hv⟩
  by_cases c19 : op = 19
  · have e : behindS op a k d (be - 1) = ([k + 1], d - pops op + pushes op, -1) := by simp [behindS, *]
    have hc := HONE.out _ _ _ e (by have := hok (k + 1) (by rw [e]; simp); rw [e] at this; exact this)
    rw [show (-1 : Int) + 1 = 0 by omega] at hc
    have HC := Lib.hid hc
    clear HONE hok hc e he HL HM
    generalize sucs op a k d (be - 1) = S at HC ⊢
    generalize pops op = P at *
    generalize pushes op = Q at *
    subst c19
    clear c22 c14 c15 c20 c16
    go_enter Tryz.func24, Tryz.ntmps24
    go_wp2_with (first
      | (go_at_call 47; refine (HP _).out.mono ?_; rintro e w1 ⟨rfl, rfl⟩)
      | (go_at_call 48; refine (HQ _).out.mono ?_; rintro e w1 ⟨rfl, rfl⟩)
      | (go_at_call 22; go_must (refine (HC.out _ rfl).mono ?_; rintro e w2 ⟨rfl, hv⟩)))
    go_end0
    exact ⟨rfl, hv⟩
  · have e : behindS op a k d (be - 1) = ([k + 1], d - pops op + pushes op, be - 1) := by simp [behindS, *]
    have hc := HONE.out _ _ _ e (by have := hok (k + 1) (by rw [e]; simp); rw [e] at this; exact this)
    rw [show (be - 1) + 1 = be by omega] at hc
    have HC := Lib.hid hc
    clear HONE hok hc e he HL HM
    generalize sucs op a k d (be - 1) = S at HC ⊢
    generalize pops op = P at *
    generalize pushes op = Q at *
    have f22 : (op == 22) = false := by simpa using c22
    have f14 : (op == 14) = false := by simpa using c14
    have f15 : (op == 15) = false := by simpa using c15
    have f20 : (op == 20) = false := by simpa using c20
    have f16 : (op == 16) = false := by simpa using c16
    have f19 : (op == 19) = false := by simpa using c19
    clear c22 c14 c15 c20 c16 c19
    go_enter Tryz.func24, Tryz.ntmps24
    go_wp2_with (first
      | (go_at_call 47; refine (HP _).out.mono ?_; rintro e w1 ⟨rfl, rfl⟩)
      | (go_at_call 48; refine (HQ _).out.mono ?_; rintro e w1 ⟨rfl, rfl⟩)
      | (go_at_call 22; go_must (refine (HC.out _ rfl).mono ?_; rintro e w2 ⟨rfl, hv⟩)))
    go_end0
    exact ⟨rfl, hv⟩
end Go.Proofs.YtojgdabkdbchnaaGreatDoor
