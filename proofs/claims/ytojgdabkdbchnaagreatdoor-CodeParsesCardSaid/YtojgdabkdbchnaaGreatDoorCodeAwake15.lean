/-
  quash/quashlaw15.awake answers true. Condition: the library's variables (Env).
-/
import Derived.Test.YtojgdabkdbchnaaGreatDoorCodeLent
import Derived.Test.YtojgdabkdbchnaaGreatDoorCodePrint
import Derived.Test.YtojgdabkdbchnaaGreatDoorVerifyWalk
import Derived.Test.YtojgdabkdbchnaaGreatDoorText
namespace Go.Proofs.YtojgdabkdbchnaaGreatDoor
open Go.RowKit
set_option maxRecDepth 100000

def awakeT : List UInt8 := [32, 97, 58, 10, 112, 117, 115, 104, 32, 51, 32, 59, 32, 116, 104, 114, 101, 101, 10, 10, 106, 117, 109, 112, 32, 97]
theorem ownP_some {w : World} {B : Nat} {v : Value} {l : List (Int × Int)} {n : Nat} (h : OwnP w B v l) (hl : l.length = n) (h1 : 0 < n) : ∃ g c, v = .slice (some ⟨g, 0, none⟩) n c ∧ ∀ j x, l[j]? = some x → w.cell? ⟨g, j * 2, none⟩ = some (.int .i64 x.1) ∧ w.cell? ⟨g, j * 2 + 1, none⟩ = some (.int .i64 x.2) := by
  subst hl
  obtain ⟨g, c, hv⟩ := Joins.ownsRow_form h h1
  subst hv
  refine ⟨g, c, rfl, fun k x hx => ?_⟩
  have hk : k < l.length := (List.getElem?_eq_some_iff.1 hx).1
  exact ⟨(h.cellAt (k * 2) (by omega)).trans (instrCells_at l k _ hx).1, (h.cellAt (k * 2 + 1) (by omega)).trans (instrCells_at l k _ hx).2⟩
theorem awake15_parse (w : World) (he : Env w) :
    Calls Tryz.prog 15 #[.string { data := #[32, 97, 58, 10, 112, 117, 115, 104, 32, 51, 32, 59, 32, 116, 104, 114, 101, 101, 10, 10, 106, 117, 109, 112, 32, 97] }] w fun e w' =>
      ∃ g c, e = .returned (.tuple #[.slice (some ⟨g, 0, none⟩) 2 c, .int .i64 0, .int .i64 0]) ∧ (w'.cell? ⟨g, 0, none⟩ = some (.int .i64 1) ∧ w'.cell? ⟨g, 1, none⟩ = some (.int .i64 3) ∧ w'.cell? ⟨g, 2, none⟩ = some (.int .i64 14) ∧ w'.cell? ⟨g, 3, none⟩ = some (.int .i64 0)) ∧ Below w.heap.size w w' := by
  refine (Parse_any awakeT w (ascB_asc (by kernel_rfl)) he).mono fun e w' hd => ?_
  unfold ParseDoes at hd
  rw [show parseL awakeT = .ok [(1, 3), (14, 0)] by kernel_rfl] at hd
  obtain ⟨v, rfl, ho, hb⟩ := hd
  obtain ⟨g, c, rfl, hc⟩ := ownP_some ho rfl (by decide)
  exact ⟨g, c, rfl, ⟨(hc 0 _ rfl).1, (hc 0 _ rfl).2, (hc 1 _ rfl).1, (hc 1 _ rfl).2⟩, hb⟩
theorem awake15_print (g : Nat) (t : TypeId) (w : World) (he : Env w) (h : w.heap[g]? = some (.cells #[.int .i64 1, .int .i64 (-5), .int .i64 14, .int .i64 0] t)) :
    Calls Tryz.prog 12 #[.slice (some ⟨g, 0, none⟩) 2 2] w fun e w' => e = .returned (.tuple #[.string { data := #[112, 117, 115, 104, 32, 45, 53, 10, 106, 117, 109, 112, 32, 48, 10] }, .int .i64 0]) ∧ Below w.heap.size w w' := by
  have h' := Print_ok (some ⟨g, 0, none⟩) 2 [(1, -5), (14, 0)] w he (seesP_arr h) (by kernel_rfl) (fun x hx => by
    simp only [List.mem_cons, List.not_mem_nil, or_false] at hx
    rcases hx with rfl | rfl <;> exact ⟨by decide, by decide⟩)
  rw [show S (printL [(1, -5), (14, 0)]) = { data := #[112, 117, 115, 104, 32, 45, 53, 10, 106, 117, 109, 112, 32, 48, 10] } by kernel_rfl] at h'
  exact h'
theorem awake15_verify (g : Nat) (t : TypeId) (w : World) (h : w.heap[g]? = some (.cells #[.int .i64 1, .int .i64 0, .int .i64 15, .int .i64 3, .int .i64 1, .int .i64 1, .int .i64 22, .int .i64 0] t)) :
    Calls Tryz.prog 9 #[.slice (some ⟨g, 0, none⟩) 4 4] w fun e w' => e = .returned (.tuple #[.int .i64 157, .int .i64 3]) ∧ Below w.heap.size w w' := by
  have h' := Verify_any (some ⟨g, 0, none⟩) 4 [(1, 0), (15, 3), (1, 1), (22, 0)] w (seesP_arr h) (by decide)
  rw [show verifyL [(1, 0), (15, 3), (1, 1), (22, 0)] = (157, 3) by kernel_rfl] at h'
  exact h'
theorem awake15_check (g : Nat) (t : TypeId) (w : World) (h : w.heap[g]? = some (.cells #[.int .i64 5, .int .i64 8] t)) :
    Calls Tryz.prog 18 #[.slice (some ⟨g, 0, none⟩) 1 1] w fun e w' => e = .returned (.tuple #[.int .i64 152, .int .i64 0]) ∧ Below w.heap.size w w' := by
  have h' := Check_all (some ⟨g, 0, none⟩) 1 1 [(5, 8)] w rfl (seesP_arr h) (by decide)
  rw [show checkL [(5, 8)] = (152, 0) by kernel_rfl] at h'
  exact h'
set_option maxHeartbeats 2000000 in
theorem awake15_any (w : World) (he : Env w) : Calls Tryz.prog 7 #[] w fun e w' => e = .returned (.bool true) ∧ Below w.heap.size w w' := by
  have HE := Lib.hid (fun W (hb : Below w.heap.size w W) => he.below hb)
  have HE0 := Lib.hid he
  clear he
  go_enter Tryz.func7, Tryz.ntmps7
  go_upto_region 7 with (first
    | (go_at_call 15; go_must (refine (awake15_parse _ HE0.out).mono ?_; rintro e w1 ⟨g1, c1, rfl, hc1, hb1⟩; have hz1 := hb1.size))
    | (go_at_call 12; go_must (refine (awake15_print _ _ _ (HE.out _ (hb1.alloc hz1 _)) (heap_new _ _ _ rfl)).mono ?_; rintro e w2 ⟨rfl, hb2⟩; have k2 : Below w1.heap.size w1 w2 := ((Below.refl _ _).alloc (Nat.le_refl _) _).trans (hb2.mono (by simp)); have hz2 := k2.size))
    | (go_at_call 9; go_must (refine (awake15_verify _ _ _ (heap_new _ _ _ rfl)).mono ?_; rintro e w3 ⟨rfl, hb3⟩; have k3 : Below w1.heap.size w1 w3 := (k2.alloc hz2 _).trans (hb3.mono (by simp; omega)); have hz3 := k3.size))
    | (go_at_call 18; go_must (refine (awake15_check _ _ _ (heap_new _ _ _ rfl)).mono ?_; rintro e w4 ⟨rfl, hb4⟩; have k4 : Below w1.heap.size w1 w4 := (k3.alloc hz3 _).trans (hb4.mono (by simp; omega)))))
  obtain ⟨q0, q1, q2, q3⟩ := hc1
  have c0 := (k4.cell (p := ⟨g1, 0, none⟩) (block_lt_of_cell q0)).trans q0
  have c1' := (k4.cell (p := ⟨g1, 1, none⟩) (block_lt_of_cell q1)).trans q1
  have c2 := (k4.cell (p := ⟨g1, 2, none⟩) (block_lt_of_cell q2)).trans q2
  have c3 := (k4.cell (p := ⟨g1, 3, none⟩) (block_lt_of_cell q3)).trans q3
  have hB4 := hb1.trans (k4.mono hz1)
  clear q0 q1 q2 q3 k2 k3 k4 hb1 hb2 hb3 hb4 hz2 hz3
  go_wp2
  go_ret
  exact ⟨rfl, hB4⟩
end Go.Proofs.YtojgdabkdbchnaaGreatDoor
