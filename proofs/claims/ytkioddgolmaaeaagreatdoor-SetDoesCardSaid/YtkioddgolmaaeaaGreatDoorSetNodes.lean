/-
  quash/set.nodes: its closure, over any body that answers a round so or so, by the walk 'goK'. No condition.
-/
import Derived.Test.YtkioddgolmaaeaaGreatDoorSetS
import Derived.Test.YtkioddgolmaaeaaGreatDoorRow64
import Derived.RangeFuncSeq
import Derived.RangeFuncBox
import Derived.RangeFuncLeaves
import Derived.OwnWalkIn
import Derived.TacticsInMore
import Derived.LoopNIn
import Derived.LoopIn
namespace Go.Proofs.YtkioddgolmaaeaaGreatDoor
open Go.RowKit
attribute [local go_sem] Oper.semAt_some
set_option maxRecDepth 100000

/-- what a round answers -/
def stopK (key : Int → Int) (first : Bool) (s k : List Int) (x : Int) : Prop := x ∈ s ∨ (first = true ∧ k ≠ [] ∧ key x ≤ k.getD (k.length - 1) 0)
instance (key : Int → Int) (first : Bool) (s k : List Int) (x : Int) : Decidable (stopK key first s k x) := by unfold stopK; exact inferInstance
theorem goK_step (key link : Int → Int) (n : Int) (first : Bool) (f : Nat) (h : Int) (s k : List Int) (h0 : h ≠ 0) (h1 : 1 ≤ h) (h2 : h ≤ n) :
    goK key link n first (f + 1) h s k = if stopK key first s k h then none else goK key link n first f (link h) (h :: s) (if first then k ++ [key h] else k) := by
  rw [goK, if_neg h0, if_neg (by omega)]
  by_cases hst : stopK key first s k h
  · rw [if_pos hst]
    by_cases a : h ∈ s
    · rw [if_pos a]
    · rcases hst with b | b
      · exact absurd b a
      · rw [if_neg a, if_pos b]
  · rw [if_neg hst, if_neg (fun a => hst (.inl a)), if_neg (fun b => hst (.inr b))]
theorem goK_zero (key link : Int → Int) (n : Int) (first : Bool) (f : Nat) (s k : List Int) : goK key link n first f 0 s k = some (s, k) := by
  cases f <;> simp [goK]
set_option maxHeartbeats 4000000 in
theorem nodes1_any (key link : Int → Int) (first : Bool) (N l Hb Nb Cb b o c L : Nat) (hN : N ≤ 60) (hL : L = 3 + 2 * N) (J : List Int → List Int → World → Prop) (Jx : World → Prop)
    (hJH : ∀ s k W v, J s k W → J s k (W.setCell ⟨Hb, 0, none⟩ v))
    (hF : ∀ s k W, J s k W → W.cell? ⟨Nb, 0, none⟩ = some (.int .i64 N) ∧ W.cell? ⟨Cb, 0, none⟩ = some (.slice (some ⟨b, o, none⟩) L c) ∧ (∀ x : Nat, 1 ≤ x → x ≤ N → W.cell? ⟨b, o + (2 + 2 * x), none⟩ = some (.int .i64 (link x))))
    (h0 : Int) (s0 k0 : List Int)
    (hY1 : ∀ s k W, J s k W → YieldAt Fence.wide 1 Tryz.prog l #[.int .i64 (-1)] W fun e W' => e = .returned (.bool false) ∧ Jx W')
    (hY2 : ∀ s k (x : Nat) W, s.length ≤ s0.length + N → J s k W → 1 ≤ x → x ≤ N → Boxed W Hb 2 (.int .i64 x) → YieldAt Fence.wide 1 Tryz.prog l #[.int .i64 x] W fun e W' =>
      (stopK key first s k x ∧ e = .returned (.bool false) ∧ Jx W') ∨ (¬ stopK key first s k x ∧ e = .returned (.bool true) ∧ J ((x : Int) :: s) (if first then k ++ [key x] else k) W' ∧ Boxed W' Hb 2 (.int .i64 x)))
    (W : World) (hJ0 : J s0 k0 W) (hB0 : Boxed W Hb 2 (.int .i64 h0)) :
    CallsIn Fence.wide 2 Tryz.prog 52 #[.func (.yield l) #[] #[], .pointer (some ⟨Hb, 0, none⟩), .pointer (some ⟨Nb, 0, none⟩), .pointer (some ⟨Cb, 0, none⟩)] W fun e W' => (∃ v, e = .returned v) ∧
      ((goK key link N first (N + 1) h0 s0 k0 = none ∧ Jx W') ∨ (∃ s k, goK key link N first (N + 1) h0 s0 k0 = some (s, k) ∧ s.length ≤ s0.length + (N + 1) ∧ J s k W')) := by
  have HL := Lib.hid hL
  obtain ⟨R, hR⟩ : ∃ R, R = goK key link N first (N + 1) h0 s0 k0 := ⟨_, rfl⟩
  rw [← hR]
  refine callsIn_of_wp Tryz.func52 rfl trivial ?_ rfl
  simp only [Tryz.ntmps52, List.size_toArray, List.length_cons, List.length_nil, Nat.reduceAdd, Nat.reduceSub, Array.replicate_succ, Array.replicate_zero, List.push_toArray, List.append_toArray, List.nil_append, List.cons_append]
  gi_wp2
  gi_loopw [5] (fun u wr => ∃ (i : Nat) (h : Int) (s k : List Int), i ≤ N + 1 ∧ s.length = s0.length + i ∧ u = .int .i64 i ∧ J s k wr ∧ Boxed wr Hb 2 (.int .i64 h) ∧ R = goK key link N first (N + 1 - i) h s k) (fun u _ => N + 1 - (intOf u).toNat)
  case atStart => exact ⟨0, h0, s0, k0, Nat.zero_le _, rfl, rfl, hJ0, hB0, hR⟩
  case round =>
    obtain ⟨i, h, s, k, hi, hsl, rfl, hJ, hB, hg⟩ := hrel
    have HG := Lib.hid hg
    have hc1 := hB.cell
    have hf1 := hB.frozen
    obtain ⟨hc2, hc3, hlk⟩ := hF s k wr hJ
    have HLK := Lib.hid hlk
    clear hg hR hJ0 hB0 hlk
    by_cases hz : h = 0
    · subst hz
      gi_wp2
      go_end0
      refine ⟨⟨_, rfl⟩, .inr ⟨s, k, ?_, by omega, hJ⟩⟩
      rw [HG.out, goK_zero]
    · have hz' : (h != 0) = true := by simpa using hz
      have hz2 : (h == 0) = false := by simpa using hz
      by_cases hlt : i ≤ N
      · by_cases hbad : h < 0 ∨ (N : Int) < h
        · have hRn : R = none := by
            rw [HG.out, show N + 1 - i = (N - i) + 1 by omega, goK, if_neg hz, if_pos hbad]
          obtain ⟨fn, tmps, assign, body, hy, hRd⟩ := hY1 s k wr hJ
          rcases hbad with hb | hb
          · gi_wp2
            refine hRd.mono ?_
            rintro e W3 ⟨rfl, hJx⟩
            gi_wp2
            refine bodyPost_ret (results_none rfl _ _ _) rfl ?_
            exact ⟨⟨_, rfl⟩, .inl ⟨hRn, hJx⟩⟩
          · have hb2 : ¬ h < 0 := by omega
            gi_wp2
            refine hRd.mono ?_
            rintro e W3 ⟨rfl, hJx⟩
            gi_wp2
            refine bodyPost_ret (results_none rfl _ _ _) rfl ?_
            exact ⟨⟨_, rfl⟩, .inl ⟨hRn, hJx⟩⟩
        · have hb1 : ¬ h < 0 := by omega
          have hb2 : ¬ (N : Int) < h := by omega
          obtain ⟨x, rfl⟩ : ∃ x : Nat, h = x := ⟨h.toNat, by omega⟩
          have hx1 : 1 ≤ x := by omega
          have hx2 : x ≤ N := by omega
          have HST := Lib.hid (show R = if stopK key first s k x then none else goK key link N first (N - i) (link x) ((x : Int) :: s) (if first then k ++ [key x] else k) by
            rw [HG.out, show N + 1 - i = (N - i) + 1 by omega, goK_step _ _ _ _ _ _ _ _ hz (by omega) (by omega)])
          obtain ⟨fn, tmps, assign, body, hy, hRd⟩ := hY2 s k x wr (by omega) hJ hx1 hx2 hB
          clear hbad
          gi_wp2
          refine hRd.mono ?_
          rintro e W3 (⟨hst, rfl, hJx⟩ | ⟨hst, rfl, hJ3, hB3⟩)
          · gi_wp2
            refine bodyPost_ret (results_none rfl _ _ _) rfl ?_
            exact ⟨⟨_, rfl⟩, .inl ⟨by rw [HST.out, if_pos hst], hJx⟩⟩
          · have hc1' := hB3.cell
            have hf1' := hB3.frozen
            obtain ⟨hc2', hc3', hlk'⟩ := hF _ _ W3 hJ3
            have hl3 := hlk' x hx1 hx2
            have hb3 : 2 + 2 * (x : Int) < (L : Int) := by rw [HL.out]; omega
            clear hlk'
            gi_wp2
            go_roundw
            case rel => exact ⟨i + 1, link x, _, _, by omega, by simp; omega, by go_num, hJH _ _ _ _ hJ3, hB3.set _, by rw [HST.out, if_neg hst, show N + 1 - (i + 1) = N - i by omega]⟩
            case measure => simp [intOf]; omega
      · obtain rfl : i = N + 1 := by omega
        gi_wp2
        go_end0
        refine ⟨⟨_, rfl⟩, .inr ⟨s, k, ?_, by omega, hJ⟩⟩
        rw [HG.out, Nat.sub_self, goK]
/-- how the body of a round may be left -/
def postK (I : List Int → List Int → World → Prop) (Ix : World → Prop) (key : Int → Int) (first : Bool) (Hb : Nat) (s k : List Int) (x : Int) (W : World) : Exit → Act → World → Prop
  | .normal, _, W' => KeepsOthers W W' ∧ ¬ stopK key first s k x ∧ I (x :: s) (if first then k ++ [key x] else k) W' ∧ Boxed W' Hb 2 (.int .i64 x)
  | .exit id, _, W' => id = 0 ∧ KeepsOthers W W' ∧ stopK key first s k x ∧ Ix W'
  | _, _, _ => False
def postM (Ix : World → Prop) (W : World) : Exit → Act → World → Prop
  | .exit id, _, W' => id = 0 ∧ KeepsOthers W W' ∧ Ix W'
  | _, _, _ => False
theorem boxed_put {W : World} {B l : Nat} {t : TypeId} {v : Value} {o : Obj} (o' : Obj) (h : Boxed W B t v) (hl : W.heap[l]? = some o) (ho : o.isCells = false) : Boxed (W.putObj l o') B t v := by
  refine (World.putObj_heap_other (fun e => ?_)).trans h
  first
    | (subst e; rw [show W.heap[B]? = _ from h] at hl; cases hl; cases ho)
    | (rw [e, show W.heap[l]? = _ from (by rw [← e]; exact h)] at hl; cases hl; cases ho)
/-- THE STATEMENT 'for i := range nodes(cells, n, head)' -/
theorem wpIn_nodes {g : Operand} {p : Nat} (q : Nat) {assign body : Code} {Q : Exit → Act → World → Prop} {a : Act} {w : World}
    (key link : Int → Int) (first : Bool) (N Hb Nb Cb b o c L : Nat) (hN : N ≤ 60) (hL : L = 3 + 2 * N) (hg : a.eval g = .func (.func 52) #[] #[.pointer (some ⟨Hb, 0, none⟩), .pointer (some ⟨Nb, 0, none⟩), .pointer (some ⟨Cb, 0, none⟩)])
    (I : List Int → List Int → World → Prop) (Ix : World → Prop)
    (hIa : ∀ s k W o, I s k W → I s k (W.alloc o))
    (hIp : ∀ s k W l o o', I s k W → w.heap.size ≤ l → W.heap[l]? = some o → o.isCells = false → I s k (W.putObj l o'))
    (hXp : ∀ W l o o', Ix W → w.heap.size ≤ l → W.heap[l]? = some o → o.isCells = false → Ix (W.putObj l o'))
    (hIH : ∀ s k W v, I s k W → I s k (W.setCell ⟨Hb, 0, none⟩ v))
    (hF : ∀ s k W, I s k W → W.cell? ⟨Nb, 0, none⟩ = some (.int .i64 N) ∧ W.cell? ⟨Cb, 0, none⟩ = some (.slice (some ⟨b, o, none⟩) L c) ∧ (∀ x : Nat, 1 ≤ x → x ≤ N → W.cell? ⟨b, o + (2 + 2 * x), none⟩ = some (.int .i64 (link x))))
    (h0 : Int) (s0 k0 : List Int) (hI0 : I s0 k0 w) (hB0 : Boxed w Hb 2 (.int .i64 h0))
    (hassign : ∀ (l : Nat) (x : Int) (W : World) (K : Act → World → Prop), K { tmps := (a.tmps.setIfInBounds p (.int .i64 x)).setIfInBounds q (.int .i64 x), defers := [] } W →
      assign.wpIn (Fence.wide.inRound l) 1 Tryz.prog (Exit.then K (fun _ _ _ => False)) { tmps := a.tmps.setIfInBounds p (.int .i64 x), defers := [] } W)
    (hbody1 : ∀ (l : Nat) s k (W : World), I s k W → body.wpIn (Fence.wide.inRound l) 1 Tryz.prog (postM Ix W) { tmps := (a.tmps.setIfInBounds p (.int .i64 (-1))).setIfInBounds q (.int .i64 (-1)), defers := [] } W)
    (hbody2 : ∀ (l : Nat) s k (x : Nat) (W : World), s.length ≤ s0.length + N → I s k W → 1 ≤ x → x ≤ N → Boxed W Hb 2 (.int .i64 x) → body.wpIn (Fence.wide.inRound l) 1 Tryz.prog (postK I Ix key first Hb s k x W) { tmps := (a.tmps.setIfInBounds p (.int .i64 x)).setIfInBounds q (.int .i64 x), defers := [] } W)
    (hdone : ∀ (D : Nat) s k (W : World), w.heap.size ≤ D → goK key link N first (N + 1) h0 s0 k0 = some (s, k) → s.length ≤ s0.length + (N + 1) → I s k W → W.heap[D]? = some (.deferred (some [])) → Q .normal { a with defers := { target := .collected D, args := #[] } :: a.defers } W)
    (hstop : ∀ (D : Nat) (W : World), w.heap.size ≤ D → goK key link N first (N + 1) h0 s0 k0 = none → Ix W → W.heap[D]? = some (.deferred (some [])) → (Code.exit 0).wpIn Fence.wide 3 Tryz.prog Q { a with defers := { target := .collected D, args := #[] } :: a.defers } W) :
    (Code.rangeFunc g #[p] assign body).wpIn Fence.wide 3 Tryz.prog Q a w := by
  refine wpIn_rangeFunc ?_
  intro fn hfn
  obtain ⟨rec, hrec⟩ : ∃ rec : LoopState → Option Code → Loop, rec = fun st pe => { state := st, pending := pe, fn, tmps := a.tmps, params := #[p], assign, body, defers := w.heap.size } := ⟨_, rfl⟩
  obtain ⟨W1, hW1⟩ : ∃ W1, (w.alloc (.deferred (some []))).alloc (.loop (rec .ready none)) = W1 := ⟨_, rfl⟩
  have hL1 : W1.heap[w.heap.size + 1]? = some (.loop (rec .ready none)) := by
    rw [← hW1]; have := World.alloc_heap_new (w.alloc (.deferred (some []))) (.loop (rec .ready none)); rwa [World.size_alloc] at this
  have hK1 : W1.heap[w.heap.size]? = some (.deferred (some [])) := by
    rw [← hW1]; exact (Below.heap_alloc _ _ _ (by simp)).trans (World.alloc_heap_new w _)
  have hI1 : I s0 k0 W1 := by rw [← hW1]; exact hIa _ _ _ _ (hIa _ _ _ _ hI0)
  have hB1 : Boxed W1 Hb 2 (.int .i64 h0) := by rw [← hW1]; exact (hB0.alloc _).alloc _
  have hlt0 := hB0.lt
  refine ⟨w.heap.size + 1, [{ target := .collected w.heap.size, args := #[] }], W1, { target := .fn (.func 52) #[.pointer (some ⟨Hb, 0, none⟩), .pointer (some ⟨Nb, 0, none⟩), .pointer (some ⟨Cb, 0, none⟩)], args := #[.func (.yield (w.heap.size + 1)) #[] #[]] }, W1, 52,
    #[.func (.yield (w.heap.size + 1)) #[] #[], .pointer (some ⟨Hb, 0, none⟩), .pointer (some ⟨Nb, 0, none⟩), .pointer (some ⟨Cb, 0, none⟩)], W1, ?_, ?_, ?_, ?_, (fun _ => by omega), ?_⟩
  · rw [← hW1, hrec]; exact run_enterLoop_outer _ _ _ _ _
  · simp only [resolve, hg]
    simp [go_sem]
  · intro f' hf'; simp [Target.leads] at hf'; subst hf'; trivial
  · have eg : ∀ args w, (callFunc 52 args).run Tryz.prog w = .ok (.enter 52 args) w := enters_of Tryz.func52 (by kernel_rfl) rfl
    simp [invoke, go_sem, eg]
  · have fin : ∀ (W : World) (jump : Option Code) (W3 : World), W.heap[w.heap.size + 1]? = some (.loop { rec .ready none with state := .busy }) → W.heap[w.heap.size]? = some (.deferred (some [])) → KeepsOthers W W3 →
          (Instr.endRound (w.heap.size + 1) jump).run Tryz.prog W3 = .ok (.bool jump.isNone) (W3.putObj (w.heap.size + 1) (.loop (rec (if jump.isNone then .ready else .done) jump))) ∧
          W3.heap[w.heap.size + 1]? = some (.loop { rec .ready none with state := .busy }) ∧
          (W3.putObj (w.heap.size + 1) (.loop (rec (if jump.isNone then .ready else .done) jump))).heap[w.heap.size + 1]? = some (.loop (rec (if jump.isNone then .ready else .done) jump)) ∧
          (W3.putObj (w.heap.size + 1) (.loop (rec (if jump.isNone then .ready else .done) jump))).heap[w.heap.size]? = some (.deferred (some [])) := fun W jump W3 hl2 hk2 hk3 => by
        have hl3 := hk3.same _ _ hl2 rfl
        have := run_endRound (P := Tryz.prog) jump hl3
        rw [hrec] at this ⊢
        exact ⟨this, by rw [hrec] at hl3; exact hl3, World.putObj_heap_same (Array.getElem?_eq_some_iff.1 hl3).1, (World.putObj_heap_other (by omega)).trans (hk3.same _ _ hk2 rfl)⟩
    refine (nodes1_any key link first N (w.heap.size + 1) Hb Nb Cb b o c L hN hL
      (fun s k W => I s k W ∧ W.heap[w.heap.size + 1]? = some (.loop (rec .ready none)) ∧ W.heap[w.heap.size]? = some (.deferred (some [])))
      (fun W => Ix W ∧ W.heap[w.heap.size + 1]? = some (.loop (rec .done (some (.exit 0)))) ∧ W.heap[w.heap.size]? = some (.deferred (some [])))
      (fun s k W v h => ⟨hIH s k W v h.1, (heap_setCell_other _ ⟨Hb, 0, none⟩ _ _ (by show w.heap.size + 1 ≠ Hb; omega)).trans h.2.1, (heap_setCell_other _ ⟨Hb, 0, none⟩ _ _ (by show w.heap.size ≠ Hb; omega)).trans h.2.2⟩)
      (fun s k W h => hF s k W h.1) h0 s0 k0 ?_ ?_ W1 ⟨hI1, hL1, hK1⟩ hB1).mono ?_
    · rintro s k W ⟨hi, hl, hk⟩
      have hlt : w.heap.size + 1 < W.heap.size := (Array.getElem?_eq_some_iff.1 hl).1
      have hy : (Instr.yield (w.heap.size + 1) #[.int .i64 (-1)]).run Tryz.prog W = .ok (.round (w.heap.size + 1) fn (a.tmps.setIfInBounds p (.int .i64 (-1))) assign body) W := by
        have hy := run_yield (P := Tryz.prog) (args := #[.int .i64 (-1)]) hl (by rw [hrec]; rfl)
        rw [hrec] at hy
        simpa using hy
      refine ⟨fn, _, assign, body, hy, roundIn_of_wpIn hfn ?_⟩
      refine hassign _ (-1) W _ ?_
      refine ⟨_, run_beginRound hl (by rw [hrec]), ?_⟩
      have hl2 : (W.putObj (w.heap.size + 1) (.loop { rec .ready none with state := .busy })).heap[w.heap.size + 1]? = some (.loop { rec .ready none with state := .busy }) := World.putObj_heap_same hlt
      have hk2 : (W.putObj (w.heap.size + 1) (.loop { rec .ready none with state := .busy })).heap[w.heap.size]? = some (.deferred (some [])) := (World.putObj_heap_other (by omega)).trans hk
      refine wpIn_mono (hbody1 _ s k _ (hIp _ _ _ _ _ _ hi (by omega) hl rfl)) ?_
      rintro e a3 W3 hp
      cases e with
      | exit id =>
        obtain ⟨rfl, hk3, hx3⟩ := hp
        obtain ⟨hr, hl3, hl4, hk4⟩ := fin _ (some (.exit 0)) W3 hl2 hk2 hk3
        exact ⟨_, _, hr, rfl, hXp _ _ _ _ hx3 (by omega) hl3 rfl, hl4, hk4⟩
      | normal => exact hp.elim
      | ret => exact hp.elim
      | goto t => exact hp.elim
      | panic ch => exact hp.elim
      | outgrown => exact hp.elim
    · rintro s k x W hsl ⟨hi, hl, hk⟩ hx1 hx2 hbx
      have hlt : w.heap.size + 1 < W.heap.size := (Array.getElem?_eq_some_iff.1 hl).1
      have hy : (Instr.yield (w.heap.size + 1) #[.int .i64 x]).run Tryz.prog W = .ok (.round (w.heap.size + 1) fn (a.tmps.setIfInBounds p (.int .i64 x)) assign body) W := by
        have hy := run_yield (P := Tryz.prog) (args := #[.int .i64 x]) hl (by rw [hrec]; rfl)
        rw [hrec] at hy
        simpa using hy
      refine ⟨fn, _, assign, body, hy, roundIn_of_wpIn hfn ?_⟩
      refine hassign _ x W _ ?_
      refine ⟨_, run_beginRound hl (by rw [hrec]), ?_⟩
      have hl2 : (W.putObj (w.heap.size + 1) (.loop { rec .ready none with state := .busy })).heap[w.heap.size + 1]? = some (.loop { rec .ready none with state := .busy }) := World.putObj_heap_same hlt
      have hk2 : (W.putObj (w.heap.size + 1) (.loop { rec .ready none with state := .busy })).heap[w.heap.size]? = some (.deferred (some [])) := (World.putObj_heap_other (by omega)).trans hk
      refine wpIn_mono (hbody2 _ s k x _ hsl (hIp _ _ _ _ _ _ hi (by omega) hl rfl) hx1 hx2 (boxed_put _ hbx hl rfl)) ?_
      rintro e a3 W3 hp
      cases e with
      | exit id =>
        obtain ⟨rfl, hk3, hst, hx3⟩ := hp
        obtain ⟨hr, hl3, hl4, hk4⟩ := fin _ (some (.exit 0)) W3 hl2 hk2 hk3
        exact ⟨_, _, hr, .inl ⟨hst, rfl, hXp _ _ _ _ hx3 (by omega) hl3 rfl, hl4, hk4⟩⟩
      | normal =>
        obtain ⟨hk3, hst, hi3, hb3⟩ := hp
        obtain ⟨hr, hl3, hl4, hk4⟩ := fin _ none W3 hl2 hk2 hk3
        exact ⟨_, _, hr, .inr ⟨hst, rfl, ⟨hIp _ _ _ _ _ _ hi3 (by omega) hl3 rfl, hl4, hk4⟩, boxed_put _ hb3 hl3 rfl⟩⟩
      | ret => exact hp.elim
      | goto t => exact hp.elim
      | panic ch => exact hp.elim
      | outgrown => exact hp.elim
    · rintro e W2 ⟨⟨v, rfl⟩, (⟨hn, hx, hl, hk⟩ | ⟨s, k, hs, hsl, hi, hl, hk⟩)⟩
      · exact ⟨some (.exit 0), _, by have := run_endLoop (P := Tryz.prog) hl (by rw [hrec]; simp); rw [hrec] at this; exact this, hstop _ _ (Nat.le_refl _) hn (hXp _ _ _ _ hx (by omega) hl rfl) ((World.putObj_heap_other (by omega)).trans hk)⟩
      · exact ⟨none, _, by have := run_endLoop (P := Tryz.prog) hl (by rw [hrec]; simp); rw [hrec] at this; exact this, hdone _ _ _ _ (Nat.le_refl _) hs hsl (hIp _ _ _ _ _ _ hi (by omega) hl rfl) ((World.putObj_heap_other (by omega)).trans hk)⟩
end Go.Proofs.YtkioddgolmaaeaaGreatDoor
