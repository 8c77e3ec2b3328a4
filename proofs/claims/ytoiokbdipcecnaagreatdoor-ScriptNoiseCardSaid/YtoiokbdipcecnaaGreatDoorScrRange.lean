/-
  'for i, t := range lines(text)' IN A FRAME OF Parse'S OWN, over a body that goes on or panics. Condition: at most 1048576 bytes.
  And: quash/script.lines: its closure, over any body that goes on or panics. Condition: the library's variables (Env), at most 1048576 bytes.
-/
import Derived.Test.YtoiokbdipcecnaaGreatDoorScrRd
import Derived.Test.YtoiokbdipcecnaaGreatDoorRoundDraw
import Derived.RangeFuncSeq
import Derived.RangeFuncBox
import Derived.OwnWalkIn
import Derived.TacticsInMore
import Derived.LoopNIn
import Derived.LoopIn
namespace Go.Proofs.YtoiokbdipcecnaaGreatDoor
open Go.RowKit
attribute [local go_sem] Oper.semAt_some
set_option maxRecDepth 100000

theorem linesL_count10 : ∀ l : List UInt8, (linesL 10 l).length ≤ l.length + 1
  | [] => by simp [linesL]
  | b :: r => by
    have ih := linesL_count10 r
    unfold linesL
    split
    · simp; omega
    · split
      · rename_i h t he
        rw [he] at ih
        simp at ih ⊢; omega
      · simp
/-- what a round leaves of the lines' block -/
def KeepS (W W' : World) : Prop := ∀ (g : Nat) (cc : Array Value), W.heap[g]? = some (.cells cc 9) → W'.heap[g]? = some (.cells cc 9)
theorem wpIn_genS {F : Fence} {n : Nat} {P : Program} {c : Code} {Q : Exit → Act → World → Prop} {a : Act} {W0 : World} (G : World → Prop) (hf : G W0) (h : ∀ W, G W → c.wpIn F n P Q a W) : c.wpIn F n P Q a W0 := h W0 hf
set_option maxHeartbeats 4000000 in
theorem lines1_any (t : List UInt8) (ht : t.length ≤ 1048576) (l Tb : Nat) (J : Nat → World → Prop) (Jp : List PanicEntry → World → Prop) (N : Nat) (hN : N = (linesL 10 t).length)
    (hJa : ∀ k W o, J k W → J k (W.alloc o)) (hJe : ∀ k W, J k W → Env W)
    (hY : ∀ (k : Nat) (x : List UInt8) W, (linesL 10 t)[k]? = some x → J k W → YieldAt Fence.wide 1 Tryz.prog l #[.int .i64 ((k : Int) + 1), .string (S x)] W fun e W' =>
      (∃ ch, e = .panicked ch ∧ Jp ch W') ∨ (e = .returned (.bool true) ∧ J (k + 1) W' ∧ KeepS W W'))
    (W : World) (hJ0 : J 0 W) (hT : W.cell? ⟨Tb, 0, none⟩ = some (.string (S t))) :
    CallsIn Fence.wide 2 Tryz.prog 46 #[.func (.yield l) #[] #[], .pointer (some ⟨Tb, 0, none⟩)] W fun e W' => (∃ ch, e = .panicked ch ∧ Jp ch W') ∨ ((∃ v, e = .returned v) ∧ J N W') := by
  obtain ⟨LL, hLL⟩ : ∃ LL, LL = linesL 10 t := ⟨_, rfl⟩
  have hsp := fun W' (hE : Env W') => Split_big t 10 W' ht hE
  rw [← hLL] at hN hY hsp
  rw [← hN] at hsp
  have HSP := Lib.hid hsp
  have HY := Lib.hid hY
  have HJE := Lib.hid hJe
  have HJA := Lib.hid hJa
  have HJ0 := Lib.hid hJ0
  have HN := Lib.hid hN
  have hNb : N ≤ 1048577 := by rw [hN, hLL]; have := (linesL_count10 t); omega
  clear hsp hY hJe hJa hJ0 hN hLL ht
  refine callsIn_of_wp Tryz.func46 rfl trivial ?_ rfl
  simp only [Tryz.ntmps46, List.size_toArray, List.length_cons, List.length_nil, Nat.reduceAdd, Nat.reduceSub, Array.replicate_succ, Array.replicate_zero, List.push_toArray, List.append_toArray, List.nil_append, List.cons_append]
  gi_wp2
  refine ⟨trivial, (callsIn_wide.2 (HSP.out _ (HJE.out _ _ HJ0.out))).mono ?_⟩
  rintro e w1 ⟨rfl, rfl⟩
  gi_wp2
  gi_loopw [8] (fun u wr => ∃ k : Nat, k ≤ N ∧ u = .int .i64 k ∧ J k wr ∧ wr.heap[W.heap.size]? = some (.cells (LL.map fun x => Value.string (S x)).toArray 9)) (fun u _ => N - (intOf u).toNat)
  case atStart => exact ⟨0, Nat.zero_le _, rfl, HJA.out _ _ _ HJ0.out, heap_new _ _ _ rfl⟩
  case round =>
    obtain ⟨k, hk, rfl, hJ, hrow⟩ := hrel
    have HJ := Lib.hid hJ
    have HROW := Lib.hid hrow
    clear hJ
    by_cases hlt : k < N
    · obtain ⟨x, hx⟩ : ∃ x, LL[k]? = some x := ⟨_, List.getElem?_eq_getElem (by rw [← HN.out]; exact hlt)⟩
      have hc0 : wr.cell? ⟨W.heap.size, k, none⟩ = some (.string (S x)) := by
        simp only [World.cell?, hrow]
        simp [hx]
      obtain ⟨fn, tmps, assign, body, hy, hRd⟩ := HY.out k x wr hx HJ.out
      have hi0 : (0 : Int) ≤ (k : Int) := by omega
      have hi1 : (k : Int) < (N : Int) := by omega
      clear hrow hx
      gi_wp2
      refine hRd.mono ?_
      rintro e W3 (⟨ch, rfl, hJp⟩ | ⟨rfl, hJ3, hk3⟩)
      · exact ⟨rfl, .inl ⟨_, rfl, hJp⟩⟩
      · gi_wp2
        go_roundw
        case rel => exact ⟨k + 1, by omega, by go_num, hJ3, hk3 _ _ HROW.out⟩
        case measure => simp [intOf]; omega
    · obtain rfl : k = N := by omega
      gi_wp2
      go_end0
      exact .inr ⟨⟨_, rfl⟩, HJ.out⟩
end Go.Proofs.YtoiokbdipcecnaaGreatDoor
namespace Go.Proofs.YtoiokbdipcecnaaGreatDoor
open Go.RowKit
attribute [local go_sem] Oper.semAt_some
set_option maxRecDepth 100000

/-- how the body of a round is left: it ends (the next state holds), or it panics -/
def postLn (I : Nat → World → Prop) (Ip : List PanicEntry → World → Prop) (k : Nat) (W : World) : Exit → Act → World → Prop
  | .normal, _, W' => KeepsOthers W W' ∧ KeepS W W' ∧ I (k + 1) W'
  | .panic ch, a, W' => a.defers = [] ∧ KeepsOthers W W' ∧ Ip ch W'
  | _, _, _ => False
set_option maxHeartbeats 1000000 in
theorem wpAt_lines {fn : FuncId} {fd : Func} (hfd : Tryz.prog.funcs[fn]? = some fd) {g : Operand} {p p' : Nat} (q q' : Nat) {assign body : Code} {Q : Exit → Act → World → Prop} {a : Act} {w : World}
    (t : List UInt8) (ht : t.length ≤ 1048576) (Tb : Nat) (N : Nat) (hN : N = (linesL 10 t).length)
    (hg : a.eval g = .func (.func 46) #[] #[.pointer (some ⟨Tb, 0, none⟩)]) (hT : w.cell? ⟨Tb, 0, none⟩ = some (.string (S t)))
    (I : Nat → World → Prop) (Ip : List PanicEntry → World → Prop)
    (hIa : ∀ k W o, I k W → I k (W.alloc o))
    (hIp : ∀ k W l o o', I k W → w.heap.size ≤ l → W.heap[l]? = some o → o.isCells = false → I k (W.putObj l o'))
    (hIe : ∀ k W, I k W → Env W) (hI0 : I 0 w)
    (hassign : ∀ (l : Nat) (i : Int) (x : List UInt8) (W : World) (K : Act → World → Prop), K { tmps := (((a.tmps.setIfInBounds p (.int .i64 i)).setIfInBounds p' (.string (S x))).setIfInBounds q (.int .i64 i)).setIfInBounds q' (.string (S x)), defers := [] } W →
      assign.wpIn (Fence.wide.inRound l) 1 Tryz.prog (Exit.then K (fun _ _ _ => False)) { tmps := (a.tmps.setIfInBounds p (.int .i64 i)).setIfInBounds p' (.string (S x)), defers := [] } W)
    (hbody : ∀ (l k : Nat) (x : List UInt8) (W : World), (linesL 10 t)[k]? = some x → I k W → body.wpIn (Fence.wide.inRound l) 1 Tryz.prog (postLn I Ip k W)
      { tmps := (((a.tmps.setIfInBounds p (.int .i64 ((k : Int) + 1))).setIfInBounds p' (.string (S x))).setIfInBounds q (.int .i64 ((k : Int) + 1))).setIfInBounds q' (.string (S x)), defers := [] } W)
    (hdone : ∀ (D : Nat) (W : World), w.heap.size ≤ D → I N W → W.heap[D]? = some (.deferred (some [])) → Q .normal { a with defers := { target := .collected D, args := #[] } :: a.defers } W)
    (hpanic : ∀ (D : Nat) ch (W : World), w.heap.size ≤ D → Ip ch W → W.heap[D]? = some (.deferred (some [])) → Q (.panic ch) { a with defers := { target := .collected D, args := #[] } :: a.defers } W) :
    wpAt fn Tryz.prog (Code.rangeFunc g #[p, p'] assign body) Q a w := by
  refine wpAt_rangeFunc (n := 2) ?_
  obtain ⟨rec, hrec⟩ : ∃ rec : LoopState → Option Code → Loop, rec = fun st pe => { state := st, pending := pe, fn, tmps := a.tmps, params := #[p, p'], assign, body, defers := w.heap.size } := ⟨_, rfl⟩
  obtain ⟨W1, hW1⟩ : ∃ W1, (w.alloc (.deferred (some []))).alloc (.loop (rec .ready none)) = W1 := ⟨_, rfl⟩
  have hL1 : W1.heap[w.heap.size + 1]? = some (.loop (rec .ready none)) := by
    rw [← hW1]; have := World.alloc_heap_new (w.alloc (.deferred (some []))) (.loop (rec .ready none)); rwa [World.size_alloc] at this
  have hK1 : W1.heap[w.heap.size]? = some (.deferred (some [])) := by
    rw [← hW1]; exact (Below.heap_alloc _ _ _ (by simp)).trans (World.alloc_heap_new w _)
  have hI1 : I 0 W1 := by rw [← hW1]; exact hIa _ _ _ (hIa _ _ _ hI0)
  have hT1 : W1.cell? ⟨Tb, 0, none⟩ = some (.string (S t)) := by
    rw [← hW1]; exact Lib.cell?_alloc_some _ (Lib.cell?_alloc_some _ hT)
  refine ⟨w.heap.size + 1, [{ target := .collected w.heap.size, args := #[] }], W1, { target := .fn (.func 46) #[.pointer (some ⟨Tb, 0, none⟩)], args := #[.func (.yield (w.heap.size + 1)) #[] #[]] }, W1, 46,
    #[.func (.yield (w.heap.size + 1)) #[] #[], .pointer (some ⟨Tb, 0, none⟩)], W1, ?_, ?_, ?_, ?_⟩
  · rw [← hW1, hrec]; exact run_enterLoop_outer _ _ _ _ _
  · simp only [resolve, hg]
    simp [go_sem]
  · have eg : ∀ args w, (callFunc 46 args).run Tryz.prog w = .ok (.enter 46 args) w := enters_of Tryz.func46 (by kernel_rfl) rfl
    simp [invoke, go_sem, eg]
  · refine (lines1_any t ht (w.heap.size + 1) Tb
      (fun k W => I k W ∧ W.heap[w.heap.size + 1]? = some (.loop (rec .ready none)) ∧ W.heap[w.heap.size]? = some (.deferred (some [])))
      (fun ch W => Ip ch W ∧ W.heap[w.heap.size]? = some (.deferred (some []))) N hN
      (fun k W o h => ⟨hIa _ _ _ h.1, (Below.heap_alloc _ _ _ (Array.getElem?_eq_some_iff.1 h.2.1).1).trans h.2.1, (Below.heap_alloc _ _ _ (Array.getElem?_eq_some_iff.1 h.2.2).1).trans h.2.2⟩)
      (fun k W h => hIe _ _ h.1) ?_ W1 ⟨hI1, hL1, hK1⟩ hT1).mono ?_
    · rintro k x W hx ⟨hi, hl, hk⟩
      have hlt : w.heap.size + 1 < W.heap.size := (Array.getElem?_eq_some_iff.1 hl).1
      have hy : (Instr.yield (w.heap.size + 1) #[.int .i64 ((k : Int) + 1), .string (S x)]).run Tryz.prog W = .ok (.round (w.heap.size + 1) fn ((a.tmps.setIfInBounds p (.int .i64 ((k : Int) + 1))).setIfInBounds p' (.string (S x))) assign body) W := by
        have hy := run_yield (P := Tryz.prog) (args := #[.int .i64 ((k : Int) + 1), .string (S x)]) hl (by rw [hrec]; rfl)
        rw [hrec] at hy
        simpa using hy
      refine ⟨fn, _, assign, body, hy, roundIn_or_panic trivial hfd ?_⟩
      refine hassign _ _ x W _ ?_
      refine ⟨_, run_beginRound hl (by rw [hrec]), ?_⟩
      have hl2 : (W.putObj (w.heap.size + 1) (.loop { rec .ready none with state := .busy })).heap[w.heap.size + 1]? = some (.loop { rec .ready none with state := .busy }) := World.putObj_heap_same hlt
      have hk2 : (W.putObj (w.heap.size + 1) (.loop { rec .ready none with state := .busy })).heap[w.heap.size]? = some (.deferred (some [])) := (World.putObj_heap_other (by omega)).trans hk
      have hkS : ∀ o', KeepS W (W.putObj (w.heap.size + 1) o') := fun o' gg cc hgc => (World.putObj_heap_other (fun e => by first | (subst e; rw [hl] at hgc; cases hgc) | (rw [← e] at hl; rw [hl] at hgc; cases hgc))).trans hgc
      refine wpIn_mono (hbody _ k x _ hx (hIp _ _ _ _ _ hi (by omega) hl rfl)) ?_
      rintro e a3 W3 hp
      cases e with
      | normal =>
        obtain ⟨hk3, hs3, hi3⟩ := hp
        have hl3 := hk3.same _ _ hl2 rfl
        have hr := run_endRound (P := Tryz.prog) none hl3
        rw [hrec] at hr hl3
        refine ⟨_, _, hr, .inr ⟨rfl, ⟨hIp _ _ _ _ _ hi3 (by omega) hl3 rfl, ?_, (World.putObj_heap_other (by omega)).trans (hk3.same _ _ hk2 rfl)⟩, ?_⟩⟩
        · rw [hrec]; exact World.putObj_heap_same (Array.getElem?_eq_some_iff.1 hl3).1
        · intro gg cc hgc
          have h3 := hs3 _ _ (hkS _ _ _ hgc)
          exact (World.putObj_heap_other (fun e => by first | (subst e; rw [hl3] at h3; cases h3) | (rw [← e] at hl3; rw [hl3] at h3; cases h3))).trans h3
      | panic ch =>
        obtain ⟨hd, hk3, hx3⟩ := hp
        exact ⟨hd, .inl ⟨ch, rfl, hx3, hk3.same _ _ hk2 rfl⟩⟩
      | exit id => exact hp.elim
      | ret => exact hp.elim
      | goto t => exact hp.elim
      | outgrown => exact hp.elim
    · rintro e W2 (⟨ch, rfl, hx, hk⟩ | ⟨⟨v, rfl⟩, hi, hl, hk⟩)
      · exact hpanic _ _ _ (Nat.le_refl _) hx hk
      · exact ⟨none, _, by have := run_endLoop (P := Tryz.prog) hl (by rw [hrec]; simp); rw [hrec] at this; exact this, hdone _ _ (Nat.le_refl _) (hIp _ _ _ _ _ hi (by omega) hl rfl) ((World.putObj_heap_other (by omega)).trans hk)⟩
end Go.Proofs.YtoiokbdipcecnaaGreatDoor
