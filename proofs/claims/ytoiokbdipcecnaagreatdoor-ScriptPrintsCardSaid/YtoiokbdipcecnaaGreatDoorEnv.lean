/-
  WHAT THE LIBRARY's VARIABLES HOLD, carried from world to world. No condition.
-/
import Derived.Test.YtoiokbdipcecnaaGreatDoorBase
import Derived.Test.YtoiokbdipcecnaaGreatDoorShelf
import Derived.WideLaws
namespace Go.Proofs.YtoiokbdipcecnaaGreatDoor
open Go.RowKit
open Go.Proofs (Tryz.prog)

/-- The variables of Go's library that the walks read. -/
structure Env (w : World) : Prop where
  len : ∃ m, w.cell? ⟨1, 0, none⟩ = some (.int .i64 m)
  pow : Lib.TabIs Tryz.prog w "internal/strconv.uint64pow10" .u64 Lib.pow10Tab
  syn : ∃ tp p, w.var? Tryz.prog "strconv.ErrSyntax" = some #[.iface tp p]
  rng : ∃ tp p, w.var? Tryz.prog "strconv.ErrRange" = some #[.iface tp p]

theorem var_below {w w' : World} {name : String} {v : Array Value} (hb : Below w.heap.size w w') (h : w.var? Tryz.prog name = some v) : w'.var? Tryz.prog name = some v := by
  unfold World.var? at h ⊢
  cases hg : Tryz.prog.globalNamed name with
  | none => rw [hg] at h; exact h
  | some g =>
    rw [hg] at h
    simp only [Option.bind_some] at h ⊢
    have hlt : g < w.heap.size := by
      by_cases hlt : g < w.heap.size
      · exact hlt
      · rw [Array.getElem?_eq_none (by omega)] at h
        simp at h
    rw [hb.block g hlt]
    exact h
theorem Env.below {w w' : World} (h : Env w) (hb : Below w.heap.size w w') : Env w' := by
  obtain ⟨⟨m, hm⟩, hp, ⟨a, b, hs⟩, ⟨c, d, hr⟩⟩ := h
  exact ⟨⟨m, (hb.cell (p := ⟨_, 0, none⟩) (block_lt_of_cell hm)).trans hm⟩, var_below hb hp, ⟨a, b, var_below hb hs⟩, ⟨c, d, var_below hb hr⟩⟩
end Go.Proofs.YtoiokbdipcecnaaGreatDoor
