/-
  A BAND OF GOROUTINES OF WHICH ONE HOLDS: the start: goroutine 0 alone; the end: its outermost function returns. No condition.
-/
import Derived.Test.YtaiinkeendejdaaBandMore
namespace Go.Proofs.Ytaiinkeendejdaa
open Go.RowKit Go.Conc
open Go.ConcN (sumTo upd sumTo_upd upd_ne upd_same WgLive)
open Go.ConcR (KK wgBlock WgAt stA smA rd wr mk DC0)
/-- the band at the start: Z: the blocks to which nothing leads -/
def Bd.start (Z : Nat → Bool) (W : World) : Bd := { n := 1, role := fun _ => .mute, F := fun _ => 0, shun := Z, rung := fun _ => false, wg := fun _ => none, wait := none, ear := true, oldN := W.heap.size, old := W }
section
variable {P : Program} {ty : TypeId} {Post : Value → World → Prop} {W : World} {Z : Nat → Bool}
theorem stands_start (a : Goroutine) (hZ : ∀ x, Z x = true → x < W.heap.size) (he : Even (ZT Z W.heap.size) W) : Stands P ty (Bd.start Z W) 0 (· = 0) #[] #[a] W (fun _ => (9, 0)) := by
  refine ⟨rfl, rfl, rfl, fun e => (by cases e), fun i g hi hg => ?_, fun i p hp => (by cases hp), fun i => Nat.zero_le _, fun x hx => absurd rfl hx, ⟨hZ, fun i s e => (by cases e)⟩, fun i s e => (by cases e), fun i s e => (by cases e), fun i s kn B e => (by cases e), fun i Wg s kn B c kk z e => (by cases e), fun j _ => ⟨rfl, rfl⟩, fun Wg lo hi p e => (by cases e), fun Wg lo hi p Wg' lo' hi' p' e => (by cases e), fun i Wg s kn B c kk z e => (by cases e), he, ?_, fun op hop => (by simp at hop), fun i Wg s kn B c kk z e => (by cases e), ⟨Nat.le_refl _, ⟨rfl, rfl⟩, fun _ _ _ => rfl, fun Wg h => absurd rfl h, fun i Wg s kn B c kk z e => (by cases e)⟩⟩
  · have := (Array.getElem?_eq_some_iff.1 hg).1
    have hlt : i < 1 := this
    exact absurd (by omega) hi
  · exact ⟨past_nil.clean, fun i a ha => by simp [touchAt, Trace.act?] at ha, fun i a ha => by simp [touchAt, Trace.act?] at ha, fun i a ha => by simp [touchAt, Trace.act?] at ha, fun g _ => rfl, by simp⟩
/-- ████ THE START ████ -/
theorem ends_of_at {a : Goroutine} (hZ : ∀ x, Z x = true → x < W.heap.size) (he : Even (ZT Z W.heap.size) W) (hA : At P ty Post (Bd.start Z W) 0 a W) : Ends P Post (solo a W) #[] :=
  hA #[a] W none #[] (fun _ => (9, 0)) (stands_start a hZ he) (Off.refl _ _) rfl
end
/-- the odd blocks of the start -/
def oddZ (W : World) (b : Nat) : Bool := match W.heap[b]? with
  | some o => oddO o
  | none => false
/-- the lone world at the start: the odd blocks look at themselves -/
def startV (W : World) : World := { W with heap := W.heap.mapIdx fun b o => if oddO o then selfV b else o }
section
variable {W : World}
theorem oddZ_low {x : Nat} (h : oddZ W x = true) : x < W.heap.size := by
  unfold oddZ at h
  cases e : W.heap[x]? with
  | none => rw [e] at h; cases h
  | some o => exact (Array.getElem?_eq_some_iff.1 e).1
theorem startV_size : (startV W).heap.size = W.heap.size := by simp [startV]
theorem startV_ne {x : Nat} (h : oddZ W x = false) : (startV W).heap[x]? = W.heap[x]? := by
  unfold oddZ at h
  simp only [startV, Array.getElem?_mapIdx]
  cases e : W.heap[x]? with
  | none => rfl
  | some o =>
    rw [e] at h
    have h : oddO o = false := h
    simp [h]
theorem startV_cells {x : Nat} {c : Array Value} {t : TypeId} {f : Nat × Nat} (h : W.heap[x]? = some (.cells c t f)) : (startV W).heap[x]? = some (.cells c t f) := by
  rw [startV_ne (by unfold oddZ; rw [h]; rfl)]; exact h
theorem sim_start : Sim (oddZ W) (fun _ => 0) (startV W) W := ⟨startV_size, fun x hx _ => startV_ne hx, fun _ hf => absurd rfl hf, rfl, rfl, fun _ => oddZ_low, fun x hx => by
  refine .inr ?_
  unfold oddZ at hx
  cases e : W.heap[x]? with
  | none => rw [e] at hx; cases hx
  | some o =>
    rw [e] at hx
    have hx : oddO o = true := hx
    refine ⟨?_, ?_⟩
    · simp only [startV, Array.getElem?_mapIdx, e, Option.map_some]
      simp [hx]
    · cases o <;> first | rfl | cases hx⟩
theorem even_odd {n : Nat} : Even (ZT (oddZ W) n) W := fun x o hx e => by
  have hx := zt_off hx
  unfold oddZ at hx
  rw [e] at hx
  exact ⟨hx, trivial⟩
theorem even_startV {n : Nat} : Even (ZT (oddZ W) n) (startV W) := fun x o hx e => by
  rw [startV_ne (zt_off hx)] at e
  exact even_odd x o hx e
end
section
variable {P : Program} {ty : TypeId} {Post : Value → World → Prop} {b : Bd} {w : World}
theorem stepG_done {bb : Frame} {a : Act} {todo : List Item} {fn : Func} {v : Value} (hi : P.inits.idxOf? bb.fn = none) (hn : bb.kind = .normal) (hd : a.defers = []) (hf : P.funcs[bb.fn]? = some fn) (hr : (results fn a.tmps).run P w = .ok v w) (he : (results fn a.tmps).events P w #[] = #[]) :
    stepG P true (G { bb.at a todo with mode := .returning } []) w = .ended (.done v) w #[] := by
  simp [G, stepG, unwind, doReturn, Frame.at, hi, hn, hd, hf, hr, he, seen, GStep.after]
/-- ████ THE END: the law's frame returns ████ -/
theorem At.finish {bb : Frame} {a : Act} {todo : List Item} {fn : Func} {r : Tmp} (hear : b.ear = true) (hall : ∀ i, b.role i = .mute) (hi : P.inits.idxOf? bb.fn = none) (hn : bb.kind = .normal) (hd : a.defers = []) (hf : P.funcs[bb.fn]? = some fn) (hres : fn.results = #[.tmp r])
    (hp : ∀ w₁, Off b.shun w w₁ → OldOk b w₁ → Post (a.tmps.getD r undef) w₁) : At P ty Post b 0 (G { bb.at a todo with mode := .returning } []) w :=
  At.end rfl hear hall rfl fun w₁ o k => ⟨_, #[], stepG_done hi hn hd hf (results_tmp hres _ P w₁) (events_results_tmp hres _ _), by simp, hp w₁ o k⟩
end
end Go.Proofs.Ytaiinkeendejdaa
