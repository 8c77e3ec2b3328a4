/-
  quash/code.behind: every instruction in a state. No condition.
-/
import Derived.Test.YtojgdabkdbchnaaGreatDoorCodeAmiss
import Derived.RegionTactic
namespace Go.Proofs.YtojgdabkdbchnaaGreatDoor
open Go.RowKit
set_option maxRecDepth 100000

/-- the places behind an instruction, and the state there -/
def behindS (op a k d b : Int) : List Int × Int × Int :=
  let n := d - pops op + pushes op
  if op = 22 then ([], n, b)
  else if op = 14 then ([a], n, b)
  else if op = 15 then ([k + 1, a], n, b)
  else if op = 20 then ([a], b, -1)
  else if op = 16 then ([k + 1], n, n)
  else if op = 19 then ([k + 1], n, -1)
  else ([k + 1], n, b)
theorem below_drewed {B : Nat} {w w' : World} (h : Below B w w') : Below B w w'.drew := ⟨h.os, h.tape, h.output, h.size, h.block⟩
def ints (l : List Int) : Array Value := (l.map (Value.int .i64)).toArray
def BehindDoes (l : List Int) (d b : Int) (w : World) (e : Ending) (w' : World) : Prop :=
  ∃ ao : Option Addr, e = .returned (.tuple #[.slice ao l.length l.length, .agg #[.int .i64 d, .int .i64 b]]) ∧ (l ≠ [] → ∃ g, ao = some ⟨g, 0, none⟩ ∧ w.heap.size ≤ g ∧ w'.heap[g]? = some (.cells (ints l) 3)) ∧ Below w.heap.size w w'
theorem behind_leave {a : Act} {W : World} {p : Nat} {v y0 y1 : Value} (h : W.heap[p]? = some (.cells #[y0, y1] 51)) (h6 : a.tmps[6]? = some v) (h7 : a.tmps[7]? = some (.pointer (some ⟨p, 0, none⟩))) :
    (results Tryz.f20 a.tmps).run Tryz.prog W = .ok (.tuple #[v, .agg #[y0, y1]]) W := by
  have c0 : W.cell? ⟨p, 0, none⟩ = some y0 := cell_of_row _ _ 0 _ _ _ h
  have c1 : W.cell? ⟨p, 1, none⟩ = some y1 := cell_of_row _ _ 1 _ _ _ h
  simp [results, Tryz.results20, go_sem, h6, h7, c0, c1]
theorem two_put {W : World} {p : Nat} {x0 x1 y0 y1 : Value} {t : TypeId} {O : Obj} (h : W.heap[p]? = some (.cells #[x0, x1] t)) :
    (((W.setCell ⟨p, 0, none⟩ y0).setCell ⟨p, 1, none⟩ y1).alloc O).drew.heap[p]? = some (.cells #[y0, y1] t) := by
  have k0 := heap_setCell_same W p 0 _ _ y0 h
  have k1 := heap_setCell_same _ p 1 _ _ y1 k0
  exact (Below.heap_alloc _ _ _ (lt_of_block k1)).trans k1
theorem two_put2 {W : World} {p : Nat} {x0 x1 y0 y1 : Value} {t : TypeId} {O O2 : Obj} (h : W.heap[p]? = some (.cells #[x0, x1] t)) :
    ((((W.setCell ⟨p, 0, none⟩ y0).setCell ⟨p, 1, none⟩ y1).alloc O).alloc O2).drew.heap[p]? = some (.cells #[y0, y1] t) := by
  have k0 := heap_setCell_same W p 0 _ _ y0 h
  have k1 := heap_setCell_same _ p 1 _ _ y1 k0
  exact (Below.heap_alloc _ _ _ (by have := lt_of_block k1; simp at this ⊢; omega)).trans ((Below.heap_alloc _ _ _ (lt_of_block k1)).trans k1)
theorem last_new {W : World} {p : Nat} {y0 y1 : Value} {O C : Obj} : ((((W.setCell ⟨p, 0, none⟩ y0).setCell ⟨p, 1, none⟩ y1).alloc O).alloc C).drew.heap[W.heap.size + 1]? = some C := heap_new _ _ _ (by simp)
set_option maxHeartbeats 4000000 in
theorem behind_halt (a k d b : Int) (w : World) (h0 : 0 ≤ d) (h1 : d ≤ 32) :
    Calls Tryz.prog 20 #[.agg #[.int .i64 22, .int .i64 a], .int .i64 k, .agg #[.int .i64 d, .int .i64 b]] w (BehindDoes (behindS 22 a k d b).1 (behindS 22 a k d b).2.1 (behindS 22 a k d b).2.2 w) := by
  obtain ⟨hp0, hp1, hq0, hq1⟩ := pops_bd 22
  have hab := about_any 22
  unfold rowAgg at hab
  have HAB := Lib.hid hab
  clear hab
  have HB := Lib.hid (show behindS 22 a k d b = ([], d - pops 22 + pushes 22, b) by simp [behindS])
  generalize isOp 22 = io at HAB
  generalize word 22 = wo at HAB
  generalize takes 22 = tk at HAB
  generalize pops 22 = p at *
  generalize pushes 22 = q at *
  go_enter Tryz.func20, Tryz.ntmps20
  go_upto_region 2 with (go_at_call 25; go_must (refine (HAB.out _).mono ?_; rintro e w1 ⟨rfl, hb1⟩))
  have hz1 : w.heap.size + 1 + 1 < w1.heap.size := by have := hb1.size; simp at this; omega
  refine wp_gen (fun W => W.heap[w.heap.size]? = some (.cells #[.int .i64 22, .int .i64 a] 42) ∧ W.heap[w.heap.size+1]? = some (.cells #[.int .i64 d, .int .i64 b] 51) ∧ W.heap[w.heap.size+1+1]? = some (.cells #[.int .i64 0, .int .i64 0] 51) ∧ W.heap[w1.heap.size]? = some (.cells #[.string wo, .int .i64 tk, .int .i64 p, .int .i64 q] 74) ∧ Below w.heap.size w W) ⟨?_, ?_, ?_, heap_new _ _ _ rfl, ?_⟩ ?_
  · exact (Below.heap_alloc _ _ _ (by omega)).trans ((hb1.block _ (by simp; omega)).trans ((Below.heap_alloc _ _ _ (by simp; omega)).trans ((Below.heap_alloc _ _ _ (by simp)).trans (heap_new _ _ _ rfl))))
  · exact (Below.heap_alloc _ _ _ (by omega)).trans ((hb1.block _ (by simp)).trans ((Below.heap_alloc _ _ _ (by simp)).trans (heap_new _ _ _ (by simp))))
  · exact (Below.heap_alloc _ _ _ (by omega)).trans ((hb1.block _ (by simp)).trans (heap_new _ _ _ (by simp)))
  · exact (((((Below.refl _ _).alloc (Nat.le_refl _) _).alloc (by simp) _).alloc (by simp; omega) _).trans (hb1.mono (by simp; omega))).alloc (by omega) _
  rintro W ⟨q0, q1, q2, q3, hB⟩
  have c0 : W.cell? ⟨w.heap.size, 0, none⟩ = some (.int .i64 22) := cell_of_row _ _ 0 _ _ _ q0
  have c1 : W.cell? ⟨w.heap.size, 1, none⟩ = some (.int .i64 a) := cell_of_row _ _ 1 _ _ _ q0
  have d0 : W.cell? ⟨w.heap.size+1, 0, none⟩ = some (.int .i64 d) := cell_of_row _ _ 0 _ _ _ q1
  have d1 : W.cell? ⟨w.heap.size+1, 1, none⟩ = some (.int .i64 b) := cell_of_row _ _ 1 _ _ _ q1
  have r2 : W.cell? ⟨w1.heap.size, 2, none⟩ = some (.int .i64 p) := cell_of_row _ _ 2 _ _ _ q3
  have r3 : W.cell? ⟨w1.heap.size, 3, none⟩ = some (.int .i64 q) := cell_of_row _ _ 3 _ _ _ q3
  have Q2 := Lib.hid q2
  have hzW := lt_of_block q3
  have s0 : W.cell? ⟨w.heap.size+1+1, 0, none⟩ = some (.int .i64 0) := cell_of_row _ _ 0 _ _ _ q2
  have s1 : W.cell? ⟨w.heap.size+1+1, 1, none⟩ = some (.int .i64 0) := cell_of_row _ _ 1 _ _ _ q2
  have s2 : W.frozen? ⟨w.heap.size+1+1, 0, none⟩ = false := by simp [World.frozen?, q2]
  have s3 : W.frozen? ⟨w.heap.size+1+1, 1, none⟩ = false := by simp [World.frozen?, q2]
  have hzA : w.heap.size < W.heap.size := by omega
  have hzB : w.heap.size + 1 < W.heap.size := by omega
  have hzC : w.heap.size + 1 + 1 < W.heap.size := by omega
  clear q0 q1 q2 q3 hb1
  go_upto_region 5 with fail
  go_region
  all_goals
    go_wp2
    refine bodyPost_ret_by (behind_leave (p := w.heap.size+1+1) (v := .slice none 0 0) (y0 := .int .i64 (d - p + q)) (y1 := .int .i64 b) (two_put Q2.out) rfl rfl) rfl ?_
    unfold BehindDoes
    rw [HB.out]
    refine ⟨none, rfl, fun h => absurd rfl h, ?_⟩
    exact below_drewed (((hB.setCell (p := ⟨w.heap.size+1+1, 0, none⟩) (by show w.heap.size ≤ w.heap.size + 1 + 1; omega) _).setCell (p := ⟨w.heap.size+1+1, 1, none⟩) (by show w.heap.size ≤ w.heap.size + 1 + 1; omega) _).alloc (by simp; omega) _)
set_option maxHeartbeats 4000000 in
theorem behind_jump (a k d b : Int) (w : World) (h0 : 0 ≤ d) (h1 : d ≤ 32) :
    Calls Tryz.prog 20 #[.agg #[.int .i64 14, .int .i64 a], .int .i64 k, .agg #[.int .i64 d, .int .i64 b]] w (BehindDoes (behindS 14 a k d b).1 (behindS 14 a k d b).2.1 (behindS 14 a k d b).2.2 w) := by
  obtain ⟨hp0, hp1, hq0, hq1⟩ := pops_bd 14
  have hab := about_any 14
  unfold rowAgg at hab
  have HAB := Lib.hid hab
  clear hab
  have HB := Lib.hid (show behindS 14 a k d b = ([a], d - pops 14 + pushes 14, b) by simp [behindS])
  generalize isOp 14 = io at HAB
  generalize word 14 = wo at HAB
  generalize takes 14 = tk at HAB
  generalize pops 14 = p at *
  generalize pushes 14 = q at *
  go_enter Tryz.func20, Tryz.ntmps20
  go_upto_region 2 with (go_at_call 25; go_must (refine (HAB.out _).mono ?_; rintro e w1 ⟨rfl, hb1⟩))
  have hz1 : w.heap.size + 1 + 1 < w1.heap.size := by have := hb1.size; simp at this; omega
  refine wp_gen (fun W => W.heap[w.heap.size]? = some (.cells #[.int .i64 14, .int .i64 a] 42) ∧ W.heap[w.heap.size+1]? = some (.cells #[.int .i64 d, .int .i64 b] 51) ∧ W.heap[w.heap.size+1+1]? = some (.cells #[.int .i64 0, .int .i64 0] 51) ∧ W.heap[w1.heap.size]? = some (.cells #[.string wo, .int .i64 tk, .int .i64 p, .int .i64 q] 74) ∧ Below w.heap.size w W) ⟨?_, ?_, ?_, heap_new _ _ _ rfl, ?_⟩ ?_
  · exact (Below.heap_alloc _ _ _ (by omega)).trans ((hb1.block _ (by simp; omega)).trans ((Below.heap_alloc _ _ _ (by simp; omega)).trans ((Below.heap_alloc _ _ _ (by simp)).trans (heap_new _ _ _ rfl))))
  · exact (Below.heap_alloc _ _ _ (by omega)).trans ((hb1.block _ (by simp)).trans ((Below.heap_alloc _ _ _ (by simp)).trans (heap_new _ _ _ (by simp))))
  · exact (Below.heap_alloc _ _ _ (by omega)).trans ((hb1.block _ (by simp)).trans (heap_new _ _ _ (by simp)))
  · exact (((((Below.refl _ _).alloc (Nat.le_refl _) _).alloc (by simp) _).alloc (by simp; omega) _).trans (hb1.mono (by simp; omega))).alloc (by omega) _
  rintro W ⟨q0, q1, q2, q3, hB⟩
  have c0 : W.cell? ⟨w.heap.size, 0, none⟩ = some (.int .i64 14) := cell_of_row _ _ 0 _ _ _ q0
  have c1 : W.cell? ⟨w.heap.size, 1, none⟩ = some (.int .i64 a) := cell_of_row _ _ 1 _ _ _ q0
  have d0 : W.cell? ⟨w.heap.size+1, 0, none⟩ = some (.int .i64 d) := cell_of_row _ _ 0 _ _ _ q1
  have d1 : W.cell? ⟨w.heap.size+1, 1, none⟩ = some (.int .i64 b) := cell_of_row _ _ 1 _ _ _ q1
  have r2 : W.cell? ⟨w1.heap.size, 2, none⟩ = some (.int .i64 p) := cell_of_row _ _ 2 _ _ _ q3
  have r3 : W.cell? ⟨w1.heap.size, 3, none⟩ = some (.int .i64 q) := cell_of_row _ _ 3 _ _ _ q3
  have Q2 := Lib.hid q2
  have hzW := lt_of_block q3
  have s0 : W.cell? ⟨w.heap.size+1+1, 0, none⟩ = some (.int .i64 0) := cell_of_row _ _ 0 _ _ _ q2
  have s1 : W.cell? ⟨w.heap.size+1+1, 1, none⟩ = some (.int .i64 0) := cell_of_row _ _ 1 _ _ _ q2
  have s2 : W.frozen? ⟨w.heap.size+1+1, 0, none⟩ = false := by simp [World.frozen?, q2]
  have s3 : W.frozen? ⟨w.heap.size+1+1, 1, none⟩ = false := by simp [World.frozen?, q2]
  have hzA : w.heap.size < W.heap.size := by omega
  have hzB : w.heap.size + 1 < W.heap.size := by omega
  have hzC : w.heap.size + 1 + 1 < W.heap.size := by omega
  clear q0 q1 q2 q3 hb1
  go_upto_region 7 with fail
  go_region
  all_goals
    go_wp2
    refine bodyPost_ret_by (behind_leave (p := w.heap.size+1+1) (v := .slice (some ⟨W.heap.size + 1, 0, none⟩) 1 1) (y0 := .int .i64 (d - p + q)) (y1 := .int .i64 b) (by first | exact two_put2 Q2.out | exact two_put Q2.out) rfl rfl) rfl ?_
    unfold BehindDoes
    rw [HB.out]
    refine ⟨some ⟨W.heap.size + 1, 0, none⟩, rfl, fun _ => ⟨_, rfl, by omega, ?_⟩, ?_⟩
    · exact last_new
    · exact below_drewed ((((hB.setCell (p := ⟨w.heap.size+1+1, 0, none⟩) (by show w.heap.size ≤ w.heap.size + 1 + 1; omega) _).setCell (p := ⟨w.heap.size+1+1, 1, none⟩) (by show w.heap.size ≤ w.heap.size + 1 + 1; omega) _).alloc (by simp; omega) _).alloc (by simp; omega) _)
set_option maxHeartbeats 4000000 in
theorem behind_zero (a k d b : Int) (w : World) (h0 : 0 ≤ d) (h1 : d ≤ 32) (h2 : 0 ≤ k) (h3 : k ≤ 1000) :
    Calls Tryz.prog 20 #[.agg #[.int .i64 15, .int .i64 a], .int .i64 k, .agg #[.int .i64 d, .int .i64 b]] w (BehindDoes (behindS 15 a k d b).1 (behindS 15 a k d b).2.1 (behindS 15 a k d b).2.2 w) := by
  obtain ⟨hp0, hp1, hq0, hq1⟩ := pops_bd 15
  have hab := about_any 15
  unfold rowAgg at hab
  have HAB := Lib.hid hab
  clear hab
  have HB := Lib.hid (show behindS 15 a k d b = ([k + 1, a], d - pops 15 + pushes 15, b) by simp [behindS])
  generalize isOp 15 = io at HAB
  generalize word 15 = wo at HAB
  generalize takes 15 = tk at HAB
  generalize pops 15 = p at *
  generalize pushes 15 = q at *
  go_enter Tryz.func20, Tryz.ntmps20
  go_upto_region 2 with (go_at_call 25; go_must (refine (HAB.out _).mono ?_; rintro e w1 ⟨rfl, hb1⟩))
  have hz1 : w.heap.size + 1 + 1 < w1.heap.size := by have := hb1.size; simp at this; omega
  refine wp_gen (fun W => W.heap[w.heap.size]? = some (.cells #[.int .i64 15, .int .i64 a] 42) ∧ W.heap[w.heap.size+1]? = some (.cells #[.int .i64 d, .int .i64 b] 51) ∧ W.heap[w.heap.size+1+1]? = some (.cells #[.int .i64 0, .int .i64 0] 51) ∧ W.heap[w1.heap.size]? = some (.cells #[.string wo, .int .i64 tk, .int .i64 p, .int .i64 q] 74) ∧ Below w.heap.size w W) ⟨?_, ?_, ?_, heap_new _ _ _ rfl, ?_⟩ ?_
  · exact (Below.heap_alloc _ _ _ (by omega)).trans ((hb1.block _ (by simp; omega)).trans ((Below.heap_alloc _ _ _ (by simp; omega)).trans ((Below.heap_alloc _ _ _ (by simp)).trans (heap_new _ _ _ rfl))))
  · exact (Below.heap_alloc _ _ _ (by omega)).trans ((hb1.block _ (by simp)).trans ((Below.heap_alloc _ _ _ (by simp)).trans (heap_new _ _ _ (by simp))))
  · exact (Below.heap_alloc _ _ _ (by omega)).trans ((hb1.block _ (by simp)).trans (heap_new _ _ _ (by simp)))
  · exact (((((Below.refl _ _).alloc (Nat.le_refl _) _).alloc (by simp) _).alloc (by simp; omega) _).trans (hb1.mono (by simp; omega))).alloc (by omega) _
  rintro W ⟨q0, q1, q2, q3, hB⟩
  have c0 : W.cell? ⟨w.heap.size, 0, none⟩ = some (.int .i64 15) := cell_of_row _ _ 0 _ _ _ q0
  have c1 : W.cell? ⟨w.heap.size, 1, none⟩ = some (.int .i64 a) := cell_of_row _ _ 1 _ _ _ q0
  have d0 : W.cell? ⟨w.heap.size+1, 0, none⟩ = some (.int .i64 d) := cell_of_row _ _ 0 _ _ _ q1
  have d1 : W.cell? ⟨w.heap.size+1, 1, none⟩ = some (.int .i64 b) := cell_of_row _ _ 1 _ _ _ q1
  have r2 : W.cell? ⟨w1.heap.size, 2, none⟩ = some (.int .i64 p) := cell_of_row _ _ 2 _ _ _ q3
  have r3 : W.cell? ⟨w1.heap.size, 3, none⟩ = some (.int .i64 q) := cell_of_row _ _ 3 _ _ _ q3
  have Q2 := Lib.hid q2
  have hzW := lt_of_block q3
  have s0 : W.cell? ⟨w.heap.size+1+1, 0, none⟩ = some (.int .i64 0) := cell_of_row _ _ 0 _ _ _ q2
  have s1 : W.cell? ⟨w.heap.size+1+1, 1, none⟩ = some (.int .i64 0) := cell_of_row _ _ 1 _ _ _ q2
  have s2 : W.frozen? ⟨w.heap.size+1+1, 0, none⟩ = false := by simp [World.frozen?, q2]
  have s3 : W.frozen? ⟨w.heap.size+1+1, 1, none⟩ = false := by simp [World.frozen?, q2]
  have hzA : w.heap.size < W.heap.size := by omega
  have hzB : w.heap.size + 1 < W.heap.size := by omega
  have hzC : w.heap.size + 1 + 1 < W.heap.size := by omega
  clear q0 q1 q2 q3 hb1
  go_upto_region 9 with fail
  go_region
  all_goals
    go_wp2
    refine bodyPost_ret_by (behind_leave (p := w.heap.size+1+1) (v := .slice (some ⟨W.heap.size + 1, 0, none⟩) 2 2) (y0 := .int .i64 (d - p + q)) (y1 := .int .i64 b) (by first | exact two_put2 Q2.out | exact two_put Q2.out) rfl rfl) rfl ?_
    unfold BehindDoes
    rw [HB.out]
    refine ⟨some ⟨W.heap.size + 1, 0, none⟩, rfl, fun _ => ⟨_, rfl, by omega, ?_⟩, ?_⟩
    · exact last_new
    · exact below_drewed ((((hB.setCell (p := ⟨w.heap.size+1+1, 0, none⟩) (by show w.heap.size ≤ w.heap.size + 1 + 1; omega) _).setCell (p := ⟨w.heap.size+1+1, 1, none⟩) (by show w.heap.size ≤ w.heap.size + 1 + 1; omega) _).alloc (by simp; omega) _).alloc (by simp; omega) _)
set_option maxHeartbeats 4000000 in
theorem behind_abort (a k d b : Int) (w : World) (h0 : 0 ≤ d) (h1 : d ≤ 32) :
    Calls Tryz.prog 20 #[.agg #[.int .i64 20, .int .i64 a], .int .i64 k, .agg #[.int .i64 d, .int .i64 b]] w (BehindDoes (behindS 20 a k d b).1 (behindS 20 a k d b).2.1 (behindS 20 a k d b).2.2 w) := by
  obtain ⟨hp0, hp1, hq0, hq1⟩ := pops_bd 20
  have hab := about_any 20
  unfold rowAgg at hab
  have HAB := Lib.hid hab
  clear hab
  have HB := Lib.hid (show behindS 20 a k d b = ([a], b, -1) by simp [behindS])
  generalize isOp 20 = io at HAB
  generalize word 20 = wo at HAB
  generalize takes 20 = tk at HAB
  generalize pops 20 = p at *
  generalize pushes 20 = q at *
  go_enter Tryz.func20, Tryz.ntmps20
  go_upto_region 2 with (go_at_call 25; go_must (refine (HAB.out _).mono ?_; rintro e w1 ⟨rfl, hb1⟩))
  have hz1 : w.heap.size + 1 + 1 < w1.heap.size := by have := hb1.size; simp at this; omega
  refine wp_gen (fun W => W.heap[w.heap.size]? = some (.cells #[.int .i64 20, .int .i64 a] 42) ∧ W.heap[w.heap.size+1]? = some (.cells #[.int .i64 d, .int .i64 b] 51) ∧ W.heap[w.heap.size+1+1]? = some (.cells #[.int .i64 0, .int .i64 0] 51) ∧ W.heap[w1.heap.size]? = some (.cells #[.string wo, .int .i64 tk, .int .i64 p, .int .i64 q] 74) ∧ Below w.heap.size w W) ⟨?_, ?_, ?_, heap_new _ _ _ rfl, ?_⟩ ?_
  · exact (Below.heap_alloc _ _ _ (by omega)).trans ((hb1.block _ (by simp; omega)).trans ((Below.heap_alloc _ _ _ (by simp; omega)).trans ((Below.heap_alloc _ _ _ (by simp)).trans (heap_new _ _ _ rfl))))
  · exact (Below.heap_alloc _ _ _ (by omega)).trans ((hb1.block _ (by simp)).trans ((Below.heap_alloc _ _ _ (by simp)).trans (heap_new _ _ _ (by simp))))
  · exact (Below.heap_alloc _ _ _ (by omega)).trans ((hb1.block _ (by simp)).trans (heap_new _ _ _ (by simp)))
  · exact (((((Below.refl _ _).alloc (Nat.le_refl _) _).alloc (by simp) _).alloc (by simp; omega) _).trans (hb1.mono (by simp; omega))).alloc (by omega) _
  rintro W ⟨q0, q1, q2, q3, hB⟩
  have c0 : W.cell? ⟨w.heap.size, 0, none⟩ = some (.int .i64 20) := cell_of_row _ _ 0 _ _ _ q0
  have c1 : W.cell? ⟨w.heap.size, 1, none⟩ = some (.int .i64 a) := cell_of_row _ _ 1 _ _ _ q0
  have d0 : W.cell? ⟨w.heap.size+1, 0, none⟩ = some (.int .i64 d) := cell_of_row _ _ 0 _ _ _ q1
  have d1 : W.cell? ⟨w.heap.size+1, 1, none⟩ = some (.int .i64 b) := cell_of_row _ _ 1 _ _ _ q1
  have r2 : W.cell? ⟨w1.heap.size, 2, none⟩ = some (.int .i64 p) := cell_of_row _ _ 2 _ _ _ q3
  have r3 : W.cell? ⟨w1.heap.size, 3, none⟩ = some (.int .i64 q) := cell_of_row _ _ 3 _ _ _ q3
  have Q2 := Lib.hid q2
  have hzW := lt_of_block q3
  have s0 : W.cell? ⟨w.heap.size+1+1, 0, none⟩ = some (.int .i64 0) := cell_of_row _ _ 0 _ _ _ q2
  have s1 : W.cell? ⟨w.heap.size+1+1, 1, none⟩ = some (.int .i64 0) := cell_of_row _ _ 1 _ _ _ q2
  have s2 : W.frozen? ⟨w.heap.size+1+1, 0, none⟩ = false := by simp [World.frozen?, q2]
  have s3 : W.frozen? ⟨w.heap.size+1+1, 1, none⟩ = false := by simp [World.frozen?, q2]
  have hzA : w.heap.size < W.heap.size := by omega
  have hzB : w.heap.size + 1 < W.heap.size := by omega
  have hzC : w.heap.size + 1 + 1 < W.heap.size := by omega
  clear q0 q1 q2 q3 hb1
  go_upto_region 11 with fail
  go_region
  all_goals
    go_wp2
    refine bodyPost_ret_by (behind_leave (p := w.heap.size+1+1) (v := .slice (some ⟨W.heap.size + 1, 0, none⟩) 1 1) (y0 := .int .i64 b) (y1 := .int .i64 (-1)) (by first | exact two_put2 Q2.out | exact two_put Q2.out) rfl rfl) rfl ?_
    unfold BehindDoes
    rw [HB.out]
    refine ⟨some ⟨W.heap.size + 1, 0, none⟩, rfl, fun _ => ⟨_, rfl, by omega, ?_⟩, ?_⟩
    · exact last_new
    · exact below_drewed ((((hB.setCell (p := ⟨w.heap.size+1+1, 0, none⟩) (by show w.heap.size ≤ w.heap.size + 1 + 1; omega) _).setCell (p := ⟨w.heap.size+1+1, 1, none⟩) (by show w.heap.size ≤ w.heap.size + 1 + 1; omega) _).alloc (by simp; omega) _).alloc (by simp; omega) _)
set_option maxHeartbeats 4000000 in
theorem behind_begin (a k d b : Int) (w : World) (h0 : 0 ≤ d) (h1 : d ≤ 32) (h2 : 0 ≤ k) (h3 : k ≤ 1000) :
    Calls Tryz.prog 20 #[.agg #[.int .i64 16, .int .i64 a], .int .i64 k, .agg #[.int .i64 d, .int .i64 b]] w (BehindDoes (behindS 16 a k d b).1 (behindS 16 a k d b).2.1 (behindS 16 a k d b).2.2 w) := by
  obtain ⟨hp0, hp1, hq0, hq1⟩ := pops_bd 16
  have hab := about_any 16
  unfold rowAgg at hab
  have HAB := Lib.hid hab
  clear hab
  have HB := Lib.hid (show behindS 16 a k d b = ([k + 1], d - pops 16 + pushes 16, d - pops 16 + pushes 16) by simp [behindS])
  generalize isOp 16 = io at HAB
  generalize word 16 = wo at HAB
  generalize takes 16 = tk at HAB
  generalize pops 16 = p at *
  generalize pushes 16 = q at *
  go_enter Tryz.func20, Tryz.ntmps20
  go_upto_region 2 with (go_at_call 25; go_must (refine (HAB.out _).mono ?_; rintro e w1 ⟨rfl, hb1⟩))
  have hz1 : w.heap.size + 1 + 1 < w1.heap.size := by have := hb1.size; simp at this; omega
  refine wp_gen (fun W => W.heap[w.heap.size]? = some (.cells #[.int .i64 16, .int .i64 a] 42) ∧ W.heap[w.heap.size+1]? = some (.cells #[.int .i64 d, .int .i64 b] 51) ∧ W.heap[w.heap.size+1+1]? = some (.cells #[.int .i64 0, .int .i64 0] 51) ∧ W.heap[w1.heap.size]? = some (.cells #[.string wo, .int .i64 tk, .int .i64 p, .int .i64 q] 74) ∧ Below w.heap.size w W) ⟨?_, ?_, ?_, heap_new _ _ _ rfl, ?_⟩ ?_
  · exact (Below.heap_alloc _ _ _ (by omega)).trans ((hb1.block _ (by simp; omega)).trans ((Below.heap_alloc _ _ _ (by simp; omega)).trans ((Below.heap_alloc _ _ _ (by simp)).trans (heap_new _ _ _ rfl))))
  · exact (Below.heap_alloc _ _ _ (by omega)).trans ((hb1.block _ (by simp)).trans ((Below.heap_alloc _ _ _ (by simp)).trans (heap_new _ _ _ (by simp))))
  · exact (Below.heap_alloc _ _ _ (by omega)).trans ((hb1.block _ (by simp)).trans (heap_new _ _ _ (by simp)))
  · exact (((((Below.refl _ _).alloc (Nat.le_refl _) _).alloc (by simp) _).alloc (by simp; omega) _).trans (hb1.mono (by simp; omega))).alloc (by omega) _
  rintro W ⟨q0, q1, q2, q3, hB⟩
  have c0 : W.cell? ⟨w.heap.size, 0, none⟩ = some (.int .i64 16) := cell_of_row _ _ 0 _ _ _ q0
  have c1 : W.cell? ⟨w.heap.size, 1, none⟩ = some (.int .i64 a) := cell_of_row _ _ 1 _ _ _ q0
  have d0 : W.cell? ⟨w.heap.size+1, 0, none⟩ = some (.int .i64 d) := cell_of_row _ _ 0 _ _ _ q1
  have d1 : W.cell? ⟨w.heap.size+1, 1, none⟩ = some (.int .i64 b) := cell_of_row _ _ 1 _ _ _ q1
  have r2 : W.cell? ⟨w1.heap.size, 2, none⟩ = some (.int .i64 p) := cell_of_row _ _ 2 _ _ _ q3
  have r3 : W.cell? ⟨w1.heap.size, 3, none⟩ = some (.int .i64 q) := cell_of_row _ _ 3 _ _ _ q3
  have Q2 := Lib.hid q2
  have hzW := lt_of_block q3
  have s0 : W.cell? ⟨w.heap.size+1+1, 0, none⟩ = some (.int .i64 0) := cell_of_row _ _ 0 _ _ _ q2
  have s1 : W.cell? ⟨w.heap.size+1+1, 1, none⟩ = some (.int .i64 0) := cell_of_row _ _ 1 _ _ _ q2
  have s2 : W.frozen? ⟨w.heap.size+1+1, 0, none⟩ = false := by simp [World.frozen?, q2]
  have s3 : W.frozen? ⟨w.heap.size+1+1, 1, none⟩ = false := by simp [World.frozen?, q2]
  have hzA : w.heap.size < W.heap.size := by omega
  have hzB : w.heap.size + 1 < W.heap.size := by omega
  have hzC : w.heap.size + 1 + 1 < W.heap.size := by omega
  clear q0 q1 q2 q3 hb1
  go_upto_region 16 with fail
  go_region
  all_goals
    go_wp2
    refine bodyPost_ret_by (behind_leave (p := w.heap.size+1+1) (v := .slice (some ⟨W.heap.size + 1, 0, none⟩) 1 1) (y0 := .int .i64 (d - p + q)) (y1 := .int .i64 (d - p + q)) (by first | exact two_put2 Q2.out | exact two_put Q2.out) rfl rfl) rfl ?_
    unfold BehindDoes
    rw [HB.out]
    refine ⟨some ⟨W.heap.size + 1, 0, none⟩, rfl, fun _ => ⟨_, rfl, by omega, ?_⟩, ?_⟩
    · exact last_new
    · exact below_drewed ((((hB.setCell (p := ⟨w.heap.size+1+1, 0, none⟩) (by show w.heap.size ≤ w.heap.size + 1 + 1; omega) _).setCell (p := ⟨w.heap.size+1+1, 1, none⟩) (by show w.heap.size ≤ w.heap.size + 1 + 1; omega) _).alloc (by simp; omega) _).alloc (by simp; omega) _)
set_option maxHeartbeats 4000000 in
theorem behind_commit (a k d b : Int) (w : World) (h0 : 0 ≤ d) (h1 : d ≤ 32) (h2 : 0 ≤ k) (h3 : k ≤ 1000) :
    Calls Tryz.prog 20 #[.agg #[.int .i64 19, .int .i64 a], .int .i64 k, .agg #[.int .i64 d, .int .i64 b]] w (BehindDoes (behindS 19 a k d b).1 (behindS 19 a k d b).2.1 (behindS 19 a k d b).2.2 w) := by
  obtain ⟨hp0, hp1, hq0, hq1⟩ := pops_bd 19
  have hab := about_any 19
  unfold rowAgg at hab
  have HAB := Lib.hid hab
  clear hab
  have HB := Lib.hid (show behindS 19 a k d b = ([k + 1], d - pops 19 + pushes 19, -1) by simp [behindS])
  generalize isOp 19 = io at HAB
  generalize word 19 = wo at HAB
  generalize takes 19 = tk at HAB
  generalize pops 19 = p at *
  generalize pushes 19 = q at *
  go_enter Tryz.func20, Tryz.ntmps20
  go_upto_region 2 with (go_at_call 25; go_must (refine (HAB.out _).mono ?_; rintro e w1 ⟨rfl, hb1⟩))
  have hz1 : w.heap.size + 1 + 1 < w1.heap.size := by have := hb1.size; simp at this; omega
  refine wp_gen (fun W => W.heap[w.heap.size]? = some (.cells #[.int .i64 19, .int .i64 a] 42) ∧ W.heap[w.heap.size+1]? = some (.cells #[.int .i64 d, .int .i64 b] 51) ∧ W.heap[w.heap.size+1+1]? = some (.cells #[.int .i64 0, .int .i64 0] 51) ∧ W.heap[w1.heap.size]? = some (.cells #[.string wo, .int .i64 tk, .int .i64 p, .int .i64 q] 74) ∧ Below w.heap.size w W) ⟨?_, ?_, ?_, heap_new _ _ _ rfl, ?_⟩ ?_
  · exact (Below.heap_alloc _ _ _ (by omega)).trans ((hb1.block _ (by simp; omega)).trans ((Below.heap_alloc _ _ _ (by simp; omega)).trans ((Below.heap_alloc _ _ _ (by simp)).trans (heap_new _ _ _ rfl))))
  · exact (Below.heap_alloc _ _ _ (by omega)).trans ((hb1.block _ (by simp)).trans ((Below.heap_alloc _ _ _ (by simp)).trans (heap_new _ _ _ (by simp))))
  · exact (Below.heap_alloc _ _ _ (by omega)).trans ((hb1.block _ (by simp)).trans (heap_new _ _ _ (by simp)))
  · exact (((((Below.refl _ _).alloc (Nat.le_refl _) _).alloc (by simp) _).alloc (by simp; omega) _).trans (hb1.mono (by simp; omega))).alloc (by omega) _
  rintro W ⟨q0, q1, q2, q3, hB⟩
  have c0 : W.cell? ⟨w.heap.size, 0, none⟩ = some (.int .i64 19) := cell_of_row _ _ 0 _ _ _ q0
  have c1 : W.cell? ⟨w.heap.size, 1, none⟩ = some (.int .i64 a) := cell_of_row _ _ 1 _ _ _ q0
  have d0 : W.cell? ⟨w.heap.size+1, 0, none⟩ = some (.int .i64 d) := cell_of_row _ _ 0 _ _ _ q1
  have d1 : W.cell? ⟨w.heap.size+1, 1, none⟩ = some (.int .i64 b) := cell_of_row _ _ 1 _ _ _ q1
  have r2 : W.cell? ⟨w1.heap.size, 2, none⟩ = some (.int .i64 p) := cell_of_row _ _ 2 _ _ _ q3
  have r3 : W.cell? ⟨w1.heap.size, 3, none⟩ = some (.int .i64 q) := cell_of_row _ _ 3 _ _ _ q3
  have Q2 := Lib.hid q2
  have hzW := lt_of_block q3
  have s0 : W.cell? ⟨w.heap.size+1+1, 0, none⟩ = some (.int .i64 0) := cell_of_row _ _ 0 _ _ _ q2
  have s1 : W.cell? ⟨w.heap.size+1+1, 1, none⟩ = some (.int .i64 0) := cell_of_row _ _ 1 _ _ _ q2
  have s2 : W.frozen? ⟨w.heap.size+1+1, 0, none⟩ = false := by simp [World.frozen?, q2]
  have s3 : W.frozen? ⟨w.heap.size+1+1, 1, none⟩ = false := by simp [World.frozen?, q2]
  have hzA : w.heap.size < W.heap.size := by omega
  have hzB : w.heap.size + 1 < W.heap.size := by omega
  have hzC : w.heap.size + 1 + 1 < W.heap.size := by omega
  clear q0 q1 q2 q3 hb1
  go_upto_region 16 with fail
  go_region
  all_goals
    go_wp2
    refine bodyPost_ret_by (behind_leave (p := w.heap.size+1+1) (v := .slice (some ⟨W.heap.size + 1, 0, none⟩) 1 1) (y0 := .int .i64 (d - p + q)) (y1 := .int .i64 (-1)) (by first | exact two_put2 Q2.out | exact two_put Q2.out) rfl rfl) rfl ?_
    unfold BehindDoes
    rw [HB.out]
    refine ⟨some ⟨W.heap.size + 1, 0, none⟩, rfl, fun _ => ⟨_, rfl, by omega, ?_⟩, ?_⟩
    · exact last_new
    · exact below_drewed ((((hB.setCell (p := ⟨w.heap.size+1+1, 0, none⟩) (by show w.heap.size ≤ w.heap.size + 1 + 1; omega) _).setCell (p := ⟨w.heap.size+1+1, 1, none⟩) (by show w.heap.size ≤ w.heap.size + 1 + 1; omega) _).alloc (by simp; omega) _).alloc (by simp; omega) _)
set_option maxHeartbeats 4000000 in
theorem behind_plain (op a k d b : Int) (w : World) (h0 : 0 ≤ d) (h1 : d ≤ 32) (h2 : 0 ≤ k) (h3 : k ≤ 1000) (e22 : (op == 22) = false) (e14 : (op == 14) = false) (e15 : (op == 15) = false) (e20 : (op == 20) = false) (e16 : (op == 16) = false) (e19 : (op == 19) = false) :
    Calls Tryz.prog 20 #[.agg #[.int .i64 op, .int .i64 a], .int .i64 k, .agg #[.int .i64 d, .int .i64 b]] w (BehindDoes (behindS op a k d b).1 (behindS op a k d b).2.1 (behindS op a k d b).2.2 w) := by
  obtain ⟨hp0, hp1, hq0, hq1⟩ := pops_bd op
  have hab := about_any op
  unfold rowAgg at hab
  have HAB := Lib.hid hab
  clear hab
  have HB := Lib.hid (show behindS op a k d b = ([k + 1], d - pops op + pushes op, b) by simp at e22 e14 e15 e20 e16 e19; simp [behindS, e22, e14, e15, e20, e16, e19])
  generalize isOp op = io at HAB
  generalize word op = wo at HAB
  generalize takes op = tk at HAB
  generalize pops op = p at *
  generalize pushes op = q at *
  go_enter Tryz.func20, Tryz.ntmps20
  go_upto_region 2 with (go_at_call 25; go_must (refine (HAB.out _).mono ?_; rintro e w1 ⟨rfl, hb1⟩))
  have hz1 : w.heap.size + 1 + 1 < w1.heap.size := by have := hb1.size; simp at this; omega
  refine wp_gen (fun W => W.heap[w.heap.size]? = some (.cells #[.int .i64 op, .int .i64 a] 42) ∧ W.heap[w.heap.size+1]? = some (.cells #[.int .i64 d, .int .i64 b] 51) ∧ W.heap[w.heap.size+1+1]? = some (.cells #[.int .i64 0, .int .i64 0] 51) ∧ W.heap[w1.heap.size]? = some (.cells #[.string wo, .int .i64 tk, .int .i64 p, .int .i64 q] 74) ∧ Below w.heap.size w W) ⟨?_, ?_, ?_, heap_new _ _ _ rfl, ?_⟩ ?_
  · exact (Below.heap_alloc _ _ _ (by omega)).trans ((hb1.block _ (by simp; omega)).trans ((Below.heap_alloc _ _ _ (by simp; omega)).trans ((Below.heap_alloc _ _ _ (by simp)).trans (heap_new _ _ _ rfl))))
  · exact (Below.heap_alloc _ _ _ (by omega)).trans ((hb1.block _ (by simp)).trans ((Below.heap_alloc _ _ _ (by simp)).trans (heap_new _ _ _ (by simp))))
  · exact (Below.heap_alloc _ _ _ (by omega)).trans ((hb1.block _ (by simp)).trans (heap_new _ _ _ (by simp)))
  · exact (((((Below.refl _ _).alloc (Nat.le_refl _) _).alloc (by simp) _).alloc (by simp; omega) _).trans (hb1.mono (by simp; omega))).alloc (by omega) _
  rintro W ⟨q0, q1, q2, q3, hB⟩
  have c0 : W.cell? ⟨w.heap.size, 0, none⟩ = some (.int .i64 op) := cell_of_row _ _ 0 _ _ _ q0
  have c1 : W.cell? ⟨w.heap.size, 1, none⟩ = some (.int .i64 a) := cell_of_row _ _ 1 _ _ _ q0
  have d0 : W.cell? ⟨w.heap.size+1, 0, none⟩ = some (.int .i64 d) := cell_of_row _ _ 0 _ _ _ q1
  have d1 : W.cell? ⟨w.heap.size+1, 1, none⟩ = some (.int .i64 b) := cell_of_row _ _ 1 _ _ _ q1
  have r2 : W.cell? ⟨w1.heap.size, 2, none⟩ = some (.int .i64 p) := cell_of_row _ _ 2 _ _ _ q3
  have r3 : W.cell? ⟨w1.heap.size, 3, none⟩ = some (.int .i64 q) := cell_of_row _ _ 3 _ _ _ q3
  have Q2 := Lib.hid q2
  have hzW := lt_of_block q3
  have s0 : W.cell? ⟨w.heap.size+1+1, 0, none⟩ = some (.int .i64 0) := cell_of_row _ _ 0 _ _ _ q2
  have s1 : W.cell? ⟨w.heap.size+1+1, 1, none⟩ = some (.int .i64 0) := cell_of_row _ _ 1 _ _ _ q2
  have s2 : W.frozen? ⟨w.heap.size+1+1, 0, none⟩ = false := by simp [World.frozen?, q2]
  have s3 : W.frozen? ⟨w.heap.size+1+1, 1, none⟩ = false := by simp [World.frozen?, q2]
  have hzA : w.heap.size < W.heap.size := by omega
  have hzB : w.heap.size + 1 < W.heap.size := by omega
  have hzC : w.heap.size + 1 + 1 < W.heap.size := by omega
  clear q0 q1 q2 q3 hb1
  go_upto_region 16 with fail
  go_region
  all_goals
    go_wp2
    refine bodyPost_ret_by (behind_leave (p := w.heap.size+1+1) (v := .slice (some ⟨W.heap.size + 1, 0, none⟩) 1 1) (y0 := .int .i64 (d - p + q)) (y1 := .int .i64 b) (by first | exact two_put2 Q2.out | exact two_put Q2.out) rfl rfl) rfl ?_
    unfold BehindDoes
    rw [HB.out]
    refine ⟨some ⟨W.heap.size + 1, 0, none⟩, rfl, fun _ => ⟨_, rfl, by omega, ?_⟩, ?_⟩
    · exact last_new
    · exact below_drewed ((((hB.setCell (p := ⟨w.heap.size+1+1, 0, none⟩) (by show w.heap.size ≤ w.heap.size + 1 + 1; omega) _).setCell (p := ⟨w.heap.size+1+1, 1, none⟩) (by show w.heap.size ≤ w.heap.size + 1 + 1; omega) _).alloc (by simp; omega) _).alloc (by simp; omega) _)
theorem behind_any (op a k d b : Int) (w : World) (h0 : 0 ≤ d) (h1 : d ≤ 32) (h2 : 0 ≤ k) (h3 : k ≤ 1000) :
    Calls Tryz.prog 20 #[.agg #[.int .i64 op, .int .i64 a], .int .i64 k, .agg #[.int .i64 d, .int .i64 b]] w (BehindDoes (behindS op a k d b).1 (behindS op a k d b).2.1 (behindS op a k d b).2.2 w) := by
  by_cases e22 : op = 22
  · subst e22; exact behind_halt a k d b w h0 h1
  by_cases e14 : op = 14
  · subst e14; exact behind_jump a k d b w h0 h1
  by_cases e15 : op = 15
  · subst e15; exact behind_zero a k d b w h0 h1 h2 h3
  by_cases e20 : op = 20
  · subst e20; exact behind_abort a k d b w h0 h1
  by_cases e16 : op = 16
  · subst e16; exact behind_begin a k d b w h0 h1 h2 h3
  by_cases e19 : op = 19
  · subst e19; exact behind_commit a k d b w h0 h1 h2 h3
  exact behind_plain op a k d b w h0 h1 h2 h3 (by simpa using e22) (by simpa using e14) (by simpa using e15) (by simpa using e20) (by simpa using e16) (by simpa using e19)
end Go.Proofs.YtojgdabkdbchnaaGreatDoor
