/-
  quash/bank.kinds: the table of the kinds of deeds; of's closure 'right'. No condition.
-/
import Derived.Test.YtcobmefgefkdmaaGreatDoorEnv
import Derived.Deep.DeepCutAuto
import Derived.Deep.RegionHeld3
import Derived.Deep.DeepMust
namespace Go.Proofs.YtcobmefgefkdmaaGreatDoor
open Go.RowKit
set_option maxRecDepth 100000

/-- a kind: what it names, its deed, its program -/
def kindCells (a b x : Bool) (f g : Value) : List Value := [.bool a, .bool b, .bool x, f, g]
def fn (k : Nat) : Value := .func (Fn.func k) #[] #[]
def kindL : Nat → List Value
  | 1 => kindCells true false true (fn 30) (fn 31)
  | 2 => kindCells true false true (fn 33) (fn 34)
  | 3 => kindCells true true true (fn 35) (fn 36)
  | 4 => kindCells true false false (fn 37) (fn 38)
  | 5 => kindCells false false false (fn 39) (fn 40)
  | _ => kindCells false false false .nilFunc .nilFunc
def kindsArr : Array Value := (kindL 0 ++ kindL 1 ++ kindL 2 ++ kindL 3 ++ kindL 4 ++ kindL 5).toArray
theorem kinds_any (w : World) : Calls Tryz.prog 26 #[] w fun e w' => e = .returned (.slice (some ⟨w.heap.size, 0, none⟩) 6 6) ∧ w' = w.alloc (.cells kindsArr 51) := by
  go_enter Tryz.func26, Tryz.ntmps26
  go_wp2
  go_ret
  exact ⟨rfl, rfl⟩
def rightB (named : Bool) (a n : Int) : Bool := if named then decide (0 ≤ a) && decide (a < n) else decide (a = 0)
theorem right_any (named : Bool) (a n : Int) (b : Nat) (w : World) (h : w.cell? ⟨b, 0, none⟩ = some (.int .i64 n)) :
    Calls Tryz.prog 27 #[.bool named, .int .i64 a, .pointer (some ⟨b, 0, none⟩)] w fun e w' => e = .returned (.bool (rightB named a n)) ∧ w' = w := by
  cases named with
  | false =>
    by_cases h0 : a = 0
    · have HR := Lib.hid (show rightB false a n = true by simp [rightB, h0])
      subst h0
      go_enter Tryz.func27, Tryz.ntmps27
      go_wp2
      go_ret
      exact ⟨by rw [HR.out]; rfl, rfl⟩
    · have HR := Lib.hid (show rightB false a n = false by simp [rightB, h0])
      have hb : (a == 0) = false := by simpa using h0
      go_enter Tryz.func27, Tryz.ntmps27
      go_wp2
      go_ret
      exact ⟨by rw [HR.out]; simp, rfl⟩
  | true =>
    by_cases h0 : 0 ≤ a
    · by_cases h1 : a < n
      · have HR := Lib.hid (show rightB true a n = true by simp [rightB, h0, h1])
        go_enter Tryz.func27, Tryz.ntmps27
        go_wp2
        go_ret
        exact ⟨by rw [HR.out]; simp, rfl⟩
      · have HR := Lib.hid (show rightB true a n = false by simp [rightB, h0, h1])
        go_enter Tryz.func27, Tryz.ntmps27
        go_wp2
        go_ret
        exact ⟨by rw [HR.out]; simp, rfl⟩
    · have HR := Lib.hid (show rightB true a n = false by simp [rightB, h0])
      go_enter Tryz.func27, Tryz.ntmps27
      go_wp2
      go_ret
      exact ⟨by rw [HR.out]; simp, rfl⟩
end Go.Proofs.YtcobmefgefkdmaaGreatDoor
