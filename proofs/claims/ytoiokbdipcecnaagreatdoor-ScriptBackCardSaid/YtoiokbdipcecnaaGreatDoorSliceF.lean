/-
  A slice cut from a place on. No condition.
-/
import Derived.Test.YtoiokbdipcecnaaGreatDoorEnv
namespace Go.Proofs.YtoiokbdipcecnaaGreatDoor
open Go.RowKit
set_option maxRecDepth 100000
theorem slice_from {P : Program} {t : TypeId} {s : Nat} (ht : P.underlying t = some (.slice (P.elem t))) (hs : ∀ W, (sizeOf (P.elem t)).run P W = .ok s W) (g n c F : Nat) (h1 : F ≤ n) (W : World) :
    (Instr.sliceAt t (.slice (some ⟨g, 0, none⟩) n c) (some (.int .i64 (F : Int))) none none).run P W = .ok (.slice (if c = F then some ⟨g, 0, none⟩ else some ⟨g, F * s, none⟩) (n - F) (c - F)) W := by
  rw [run_sliceAt_slice W t _ _ _ _ ht, run_slice_l W t _ _ _ ht .i64 (F : Int) (by omega) (by omega), hs]
  simp only [Result.andThen, sliced, Int.toNat_natCast]
  by_cases e : c = F
  · rw [if_pos e, if_pos e]
  · rw [if_neg e, if_neg e, Option.map_some, Addr.add_lit, Nat.zero_add]
end Go.Proofs.YtoiokbdipcecnaaGreatDoor
