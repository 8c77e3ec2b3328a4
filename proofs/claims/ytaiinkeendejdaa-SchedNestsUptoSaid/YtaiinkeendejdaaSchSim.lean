/-
  SCHED: the lone world follows the real one: a channel's counters turn. No condition.
-/
import Derived.Test.YtaiinkeendejdaaBandMore
namespace Go.Proofs.Ytaiinkeendejdaa
open Go.RowKit Go.Conc
section
variable {Z : Nat → Bool} {F : Nat → Nat} {v w : World}
theorem Sim.setChan (h : Sim Z F v w) {c : Nat} (hF : F c = 0) (hz : Z c = false) (cap : Nat) (buf : Array Value) (cl : Bool) (s r : Nat) (tm : Bool) : Sim Z F (v.setChan c cap buf cl s r tm) (w.setChan c cap buf cl s r tm) := by
  refine ⟨by rw [size_setChan, size_setChan]; exact h.size, fun x hx hf => ?_, fun x hf => ?_, h.os, h.output, fun x hx => by rw [size_setChan]; exact h.low x hx, fun x hx => ?_⟩
  · simp only [World.setChan, Array.getElem?_setIfInBounds, h.size, h.heap x hx hf]
  · obtain ⟨h0, cs, t, h1, h2⟩ := h.ice x hf
    have hne : c ≠ x := fun e => hf (by rw [← e]; exact hF)
    refine ⟨h0, cs, t, ?_, ?_⟩
    · simp only [World.setChan]; rw [Array.getElem?_setIfInBounds_ne hne]; exact h1
    · simp only [World.setChan]; rw [Array.getElem?_setIfInBounds_ne hne]; exact h2
  · have hne : c ≠ x := fun e => by rw [← e, hz] at hx; cases hx
    unfold Dead
    simp only [World.setChan]
    rw [Array.getElem?_setIfInBounds_ne hne, Array.getElem?_setIfInBounds_ne hne]
    exact h.dead x hx
/-- what is no row, and not odd, is not dead -/
theorem Sim.open_ (h : Sim Z F v w) {x : Nat} {o : Obj} (hx : v.heap[x]? = some o) (ho : isCells o = false) (hod : oddO o = false) : Z x = false := by
  cases hz : Z x with
  | false => rfl
  | true =>
    rcases h.dead x hz with ⟨t, h1, _⟩ | ⟨h1, _⟩
    · rw [hx] at h1; injection h1 with h1; subst h1; cases ho
    · rw [hx] at h1; injection h1 with h1; subst h1; cases hod
theorem setChan_ne {c x : Nat} (hne : x ≠ c) (cap : Nat) (buf : Array Value) (cl : Bool) (s r : Nat) (tm : Bool) : (v.setChan c cap buf cl s r tm).heap[x]? = v.heap[x]? := by
  simp only [World.setChan]; rw [Array.getElem?_setIfInBounds_ne fun e => hne e.symm]
theorem setChan_self {c : Nat} {o : Obj} (h : v.heap[c]? = some o) (cap : Nat) (buf : Array Value) (cl : Bool) (s r : Nat) (tm : Bool) : (v.setChan c cap buf cl s r tm).heap[c]? = some (.chan cap buf cl s r tm) := by
  simp only [World.setChan]
  exact Array.getElem?_setIfInBounds_self_of_lt (Array.getElem?_eq_some_iff.1 h).1
end
end Go.Proofs.Ytaiinkeendejdaa
