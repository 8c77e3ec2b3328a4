/-
  A slice of int64 that reads as a list: 'Sees'. No condition.
-/
import Derived.Test.YtoiokbdipcecnaaGreatDoorEnv
import Derived.Test.YtoiokbdipcecnaaGreatDoorCodeParse
import Derived.BigQuiet
import Derived.Deep.DeepMust
import Derived.Deep.QuietTactic
import Derived.Lib.Hide
namespace Go.Proofs.YtoiokbdipcecnaaGreatDoor
open Go.RowKit
set_option maxRecDepth 100000

/-- the slice at this address reads as this list -/
def Sees (w : World) (ao : Option Addr) (zs : List Int) : Prop := ∃ b o, (zs ≠ [] → ao = some ⟨b, o, none⟩) ∧ ∀ j, j < zs.length → w.cell? ⟨b, o + j, none⟩ = some (.int .i64 (zs.getD j 0))
theorem Sees.nil (w : World) (ao : Option Addr) : Sees w ao [] := ⟨0, 0, fun h => absurd rfl h, fun j hj => absurd hj (by simp)⟩
theorem Sees.cells {w : World} {b o : Nat} {zs : List Int} (h : ∀ j, j < zs.length → w.cell? ⟨b, o + j, none⟩ = some (.int .i64 (zs.getD j 0))) : Sees w (some ⟨b, o, none⟩) zs := ⟨b, o, fun _ => rfl, h⟩
theorem Sees.below {w w' : World} {ao : Option Addr} {zs : List Int} (h : Sees w ao zs) (hb : Below w.heap.size w w') : Sees w' ao zs := by
  obtain ⟨b, o, h1, h2⟩ := h
  exact ⟨b, o, h1, fun j hj => (hb.cell (p := ⟨b, o + j, none⟩) (block_lt_of_cell (h2 j hj))).trans (h2 j hj)⟩
theorem Sees.drewN {w : World} {ao : Option Addr} {zs : List Int} (h : Sees w ao zs) (n : Nat) : Sees (w.drewN n) ao zs := h
theorem Sees.of_own {w : World} {base : Nat} {e : TypeId} {ao : Option Addr} {c : Nat} {zs : List Int} (h : w.ownsRow base e 1 (.slice ao zs.length c) zs.length (zs.map (Value.int .i64))) : Sees w ao zs := by
  cases zs with
  | nil => exact Sees.nil _ _
  | cons z r =>
    obtain ⟨g, cap, hv⟩ := Joins.ownsRow_form h (by simp)
    injection hv with h1 h2 h3
    subst h1
    refine Sees.cells fun j hj => ?_
    have := h.cellAt j (by simpa using hj)
    rw [Nat.zero_add, this]
    rw [List.getElem?_map, List.getElem?_eq_getElem hj, List.getD_eq_getElem?_getD, List.getElem?_eq_getElem hj]
    rfl
theorem Sees.news {w : World} {ad : Addr} {zs : List Int} (h : Sees w (some ad) zs) : ∀ (j : Nat) u, (zs.map (Value.int .i64))[j]? = some u → w.cell? (ad.add j) = some u := by
  intro j u hj
  rw [List.getElem?_map, Option.map_eq_some_iff] at hj
  obtain ⟨z, hj, rfl⟩ := hj
  have hjl := (List.getElem?_eq_some_iff.1 hj).1
  obtain ⟨b, o, h1, h2⟩ := h
  obtain rfl : ad = ⟨b, o, none⟩ := by
    have := h1 (by intro e; subst e; exact absurd hjl (by simp))
    simpa using this
  rw [Addr.add_lit]
  refine (h2 j hjl).trans ?_
  rw [List.getD_eq_getElem?_getD, hj]; rfl
end Go.Proofs.YtoiokbdipcecnaaGreatDoor
