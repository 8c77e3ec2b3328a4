/-
  The function that Parse defers: over a fault it lays the results; over no panic it does nothing. Condition: where the results lie.
-/
import Derived.Test.YtoiokbdipcecnaaGreatDoorCodeOperand
import Derived.Recover
namespace Go.Proofs.YtoiokbdipcecnaaGreatDoor
open Go.RowKit
set_option maxRecDepth 100000
set_option linter.unusedSimpArgs false

theorem catch_idle (p q r : Addr) (w : World) :
    CallsD Tryz.prog 95 #[.pointer (some p), .pointer (some q), .pointer (some r)] .returning w fun e u' w' => e = .returned (.tuple #[]) ∧ u' = .returning ∧ w' = w := by
  have hnn : ∀ w, (binOp .neq 20 .nilIface .nilIface).run Tryz.prog w = .ok (.bool false) w := fun w => run_neq_nil_nil w _ (by kernel_rfl)
  refine callsD_of_wpS Tryz.func95 rfl fun c₀ cs hu => ?_
  apply wpS_seq
  apply wpS_region
  simp [wpOpsS, go_sem, recoverD, hu, Tryz.ntmps95, Exit.thenS]
  simp only [List.size_toArray, List.length_cons, List.length_nil, Nat.reduceAdd, Nat.reduceSub, Array.replicate_succ, Array.replicate_zero, List.push_toArray, List.append_toArray, List.nil_append, List.cons_append, List.setIfInBounds_toArray, List.set_cons_zero, List.set_cons_succ]
  refine wpS_of_wp ?_
  go_wp2
  cases c₀
  simp_all [bodyPostS, results, Tryz.results95]
/-- what the deferred function leaves over a fault -/
def Caught (B p q r : Nat) (er ln : Int) (w : World) (u : FrameMode) (e : Ending) (u' : FrameMode) (w' : World) : Prop :=
  e = .returned (.tuple #[]) ∧ u' = u ∧ w'.heap[p]? = some (.cells #[.slice none 0 0] 45) ∧ w'.heap[q]? = some (.cells #[.int .i64 ln] 3) ∧ w'.heap[r]? = some (.cells #[.int .i64 er] 30) ∧ Below B w w'
theorem three_set {w : World} {p q r B : Nat} {x0 : Value} {x1 x2 y0 y1 y2 : Value} {t0 t1 t2 : TypeId} {O : Obj} (c0 : w.heap[p]? = some (.cells #[x0] t0)) (c1 : w.heap[q]? = some (.cells #[x1] t1)) (c2 : w.heap[r]? = some (.cells #[x2] t2)) (n1 : p ≠ q) (n2 : p ≠ r) (n3 : q ≠ r) (b1 : B ≤ p) (b2 : B ≤ q) (b3 : B ≤ r) (W : World)
    (hW : W.heap = ((((w.setCell ⟨p, 0, none⟩ y0).setCell ⟨q, 0, none⟩ y1).setCell ⟨r, 0, none⟩ y2).alloc O).heap) (h1 : W.os = w.os) (h2 : W.tape = w.tape) (h3 : W.output = w.output) :
    W.heap[p]? = some (.cells #[y0] t0) ∧ W.heap[q]? = some (.cells #[y1] t1) ∧ W.heap[r]? = some (.cells #[y2] t2) ∧ Below B w W := by
  have hp := lt_of_block c0
  have hq := lt_of_block c1
  have hr := lt_of_block c2
  have k0 : (w.setCell ⟨p, 0, none⟩ y0).heap[p]? = some (.cells #[y0] t0) := by rw [heap_setCell_same w p 0 _ _ _ c0]; rfl
  have k1 : (w.setCell ⟨p, 0, none⟩ y0).heap[q]? = some (.cells #[x1] t1) := (heap_setCell_other _ _ _ _ (fun e => n1 e.symm)).trans c1
  have k2 : (w.setCell ⟨p, 0, none⟩ y0).heap[r]? = some (.cells #[x2] t2) := (heap_setCell_other _ _ _ _ (fun e => n2 e.symm)).trans c2
  have m0 := (heap_setCell_other (w.setCell ⟨p, 0, none⟩ y0) ⟨q, 0, none⟩ p y1 n1).trans k0
  have m1 : ((w.setCell ⟨p, 0, none⟩ y0).setCell ⟨q, 0, none⟩ y1).heap[q]? = some (.cells #[y1] t1) := by rw [heap_setCell_same _ q 0 _ _ _ k1]; rfl
  have m2 := (heap_setCell_other (w.setCell ⟨p, 0, none⟩ y0) ⟨q, 0, none⟩ r y1 (fun e => n3 e.symm)).trans k2
  have j0 := (heap_setCell_other ((w.setCell ⟨p, 0, none⟩ y0).setCell ⟨q, 0, none⟩ y1) ⟨r, 0, none⟩ p y2 n2).trans m0
  have j1 := (heap_setCell_other ((w.setCell ⟨p, 0, none⟩ y0).setCell ⟨q, 0, none⟩ y1) ⟨r, 0, none⟩ q y2 n3).trans m1
  have j2 : (((w.setCell ⟨p, 0, none⟩ y0).setCell ⟨q, 0, none⟩ y1).setCell ⟨r, 0, none⟩ y2).heap[r]? = some (.cells #[y2] t2) := by rw [heap_setCell_same _ r 0 _ _ _ m2]; rfl
  have hb : Below B w ((((w.setCell ⟨p, 0, none⟩ y0).setCell ⟨q, 0, none⟩ y1).setCell ⟨r, 0, none⟩ y2).alloc O) :=
    ((((Below.refl B w).setCell (p := ⟨p, 0, none⟩) b1 _).setCell (p := ⟨q, 0, none⟩) b2 _).setCell (p := ⟨r, 0, none⟩) b3 _).alloc (by simp; omega) _
  rw [hW]
  refine ⟨(Below.heap_alloc _ O p (by simp; omega)).trans j0, (Below.heap_alloc _ O q (by simp; omega)).trans j1, (Below.heap_alloc _ O r (by simp; omega)).trans j2, ⟨h1, h2, h3, ?_, fun k hk => ?_⟩⟩
  · rw [hW]; exact hb.size
  · rw [hW]; exact hb.block k hk
theorem catch_fault (B p q r : Nat) (er ln : Int) (w : World) (x1 x2 : Int) (x0 : Value) (c0 : w.heap[p]? = some (.cells #[x0] 45)) (c1 : w.heap[q]? = some (.cells #[.int .i64 x1] 3)) (c2 : w.heap[r]? = some (.cells #[.int .i64 x2] 30)) (n1 : p ≠ q) (n2 : p ≠ r) (n3 : q ≠ r) (b1 : B ≤ p) (b2 : B ≤ q) (b3 : B ≤ r) :
    CallsD Tryz.prog 95 #[.pointer (some ⟨p, 0, none⟩), .pointer (some ⟨q, 0, none⟩), .pointer (some ⟨r, 0, none⟩)] (.panicking [{ v := .iface 153 (.agg #[.int .i64 er, .int .i64 ln]), recovered := false }]) w
      (Caught B p q r er ln w (.panicking [{ v := .iface 153 (.agg #[.int .i64 er, .int .i64 ln]), recovered := true }])) := by
  have d0 := cell_of_row w p 0 _ _ _ c0; have e0 := frozen_of_row w p 0 _ _ c0
  have d1 := cell_of_row w q 0 _ _ _ c1; have e1 := frozen_of_row w q 0 _ _ c1
  have d2 := cell_of_row w r 0 _ _ _ c2; have e2 := frozen_of_row w r 0 _ _ c2
  have hp := lt_of_block c0
  have hq := lt_of_block c1
  have hr := lt_of_block c2
  have hta : ∀ w, (Instr.typeAssert (.iface 153 (.agg #[.int .i64 er, .int .i64 ln])) 20 153 false).run Tryz.prog w = .ok (.agg #[.int .i64 er, .int .i64 ln]) w := fun w => by kernel_rfl
  have hnn : ∀ w v, (binOp .neq 20 (.iface 153 v) .nilIface).run Tryz.prog w = .ok (.bool true) w := fun w v => run_neq_held_nil w _ _ _ (by kernel_rfl)
  refine callsD_of_wpS Tryz.func95 rfl fun c₀ cs hu => ?_
  apply wpS_seq
  apply wpS_region
  simp [wpOpsS, go_sem, recoverD, hu, Tryz.ntmps95, Exit.thenS]
  simp only [List.size_toArray, List.length_cons, List.length_nil, Nat.reduceAdd, Nat.reduceSub, Array.replicate_succ, Array.replicate_zero, List.push_toArray, List.append_toArray, List.nil_append, List.cons_append, List.setIfInBounds_toArray, List.set_cons_zero, List.set_cons_succ]
  refine wpS_of_wp ?_
  clear hu
  go_wp2
  go_region
  all_goals go_wp2
  cases c₀
  simp only [bodyPostS]
  refine ⟨trivial, _, rfl, .tuple #[], by simp [results, Tryz.results95], rfl, rfl, three_set c0 c1 c2 n1 n2 n3 b1 b2 b3 _ rfl rfl rfl rfl⟩
end Go.Proofs.YtoiokbdipcecnaaGreatDoor
