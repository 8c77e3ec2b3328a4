/-
  SCHED: pick's last statement, a mark is appended, and pick returns. No condition.
-/
import Derived.Test.YtaiinkeendejdaaSchMark
import Derived.Test.YtaiinkeendejdaaSchMarks
import Derived.BigRegion
import Derived.WalkKit
namespace Go.Proofs.Ytaiinkeendejdaa
open Go.RowKit Go.Conc
set_option maxRecDepth 100000
/-- what the last statement leaves -/
structure Marked (v w' : World) (rb B : Nat) (mv : Value) (ms' : List Mk) : Prop where
  row : ∃ mv', w'.cell? ⟨rb, 1, none⟩ = some mv' ∧ OwnM w' B mv' ms' ∧ ∀ g, mv'.ownBlock = some g → mv.ownBlock = some g ∨ v.heap.size ≤ g
  list : w'.cell? ⟨rb, 0, none⟩ = v.cell? ⟨rb, 0, none⟩
  warm : w'.frozen? ⟨rb, 1, none⟩ = false
  size : v.heap.size ≤ w'.heap.size
  same : ∀ x, x < v.heap.size → x ≠ rb → some x ≠ mv.ownBlock → w'.heap[x]? = v.heap[x]?
theorem cell_other {w : World} {rb : Nat} {nv : Value} : (w.setCell ⟨rb, 1, none⟩ nv).cell? ⟨rb, 0, none⟩ = w.cell? ⟨rb, 0, none⟩ := World.cell?_setCell_other _ _ _ _ (by simp)
theorem marks_end {v w' W0 : World} {rb B : Nat} {mv nv u : Value} {ms' : List Mk} (hsz : v.heap.size ≤ W0.heap.size) (h0 : ∀ x, x < v.heap.size → W0.heap[x]? = v.heap[x]?) (hgrow : W0.grownBy w' mv.ownBlock) (hown : OwnM w' B nv ms') (hrbB : rb < B) (hB : B ≤ v.heap.size) (hnew : nv.ownBlock = mv.ownBlock ∨ nv.ownBlock = some W0.heap.size) (hne : some rb ≠ mv.ownBlock) (hfz : v.frozen? ⟨rb, 1, none⟩ = false) (hc : w'.cell? ⟨rb, 1, none⟩ = some u) :
    Marked v (w'.setCell ⟨rb, 1, none⟩ nv) rb B mv ms' := by
  have hb : w'.heap[rb]? = v.heap[rb]? := (hgrow.block rb (Nat.lt_of_lt_of_le (Nat.lt_of_lt_of_le hrbB hB) hsz) hne).trans (h0 rb (Nat.lt_of_lt_of_le hrbB hB))
  exact ⟨⟨nv, World.cell?_setCell_same _ _ _ hc, hown.at (fun g hg => Below.heap_setCell _ _ _ _ (fun e => by have := (hown.block hg).1; simp only at e; omega)), fun g hg => hnew.elim (fun e => .inl (e.symm.trans hg)) fun e => .inr (by have := Option.some.inj (e.symm.trans hg); omega)⟩, cell_other.trans (World.cell?_of_block (a := ⟨rb, 0, none⟩) hb), (frozen_setCell _ _ _ _).trans ((World.frozen?_of_block (a := ⟨rb, 1, none⟩) hb).trans hfz),
    by simp only [World.size_setCell]; exact Nat.le_trans hsz hgrow.size, fun x h1 h2 h3 => (Below.heap_setCell _ _ _ _ h2).trans ((hgrow.block x (Nat.lt_of_lt_of_le h1 hsz) h3).trans (h0 x h1))⟩
set_option maxHeartbeats 2000000 in
theorem last_wp {rb k B : Nat} {a : Int} {x2 x3 x4 x6 x7 x8 x9 x10 x11 x12 x13 x14 x15 x16 x17 x18 x19 x20 x21 x22 x23 x24 x25 x26 x27 x28 x29 x30 x31 x32 x33 x34 x35 x36 x37 x38 x39 x40 x41 x42 x43 x44 x45 x46 x47 x48 x49 x50 x51 x52 : Value} {v : World} {mv : Value} {ms : List Mk} (hm : v.cell? ⟨rb, 1, none⟩ = some mv) (hfz : v.frozen? ⟨rb, 1, none⟩ = false) (hown : OwnM v B mv ms) (hB : B ≤ v.heap.size) (hrbB : rb < B) (hlen : ms.length < 1000000) (hk : k < 1000000) :
    lastPick.wp Try.prog (fun e a' w' => e = .normal ∧ a'.defers = [] ∧ Marked v w' rb B mv (ms ++ [((ms.length : Int) + 1, (k : Int) + 1, a)])) ⟨#[.pointer (some ⟨rb, 0, none⟩), .int .i64 (k : Nat), x2, x3, x4, .int .i64 a, x6, x7, x8, x9, x10, x11, x12, x13, x14, x15, x16, x17, x18, x19, x20, x21, x22, x23, x24, x25, x26, x27, x28, x29, x30, x31, x32, x33, x34, x35, x36, x37, x38, x39, x40, x41, x42, x43, x44, x45, x46, x47, x48, x49, x50, x51, x52], []⟩ v := by
  simp only [lastPick, bodyPick, Try.f33, Option.getD_some]
  have hrb : rb < v.heap.size := Nat.lt_of_lt_of_le hrbB hB
  have hw1 : IntKind.i64.wrap ((k : Int) + 1) = (k : Int) + 1 := by rw [IntKind.wrap_i64]; omega
  have hw2 : IntKind.i64.wrap ((ms.length : Int) + 1) = (ms.length : Int) + 1 := by rw [IntKind.wrap_i64]; omega
  obtain ⟨ao, c, rfl, hsees, hn⟩ := hown.slice
  have hne : some rb ≠ (Value.slice ao ms.length c).ownBlock := fun e => by have := (hown.block e.symm).1; omega
  go_region_law (refine step_appendM (B := B) (v := .slice ao ms.length c) (xs := ms) (zs := [((ms.length : Int) + 1, (k : Int) + 1, a)]) (hown.at (fun g hg => Below.heap_alloc _ _ _ (hown.block hg).2)) (by simp <;> omega) rfl (.tmp 38) (.tmp 49) rfl (by simp [Act.eval]) ⟨v.heap.size, 0, none⟩ 1 (by simp [Act.eval]) (seesM_one (heap_alloc_new _ _)) (by simp <;> omega) ?_; intro v' w' hown' hgrow hat; obtain ⟨g', c', rfl⟩ : ∃ g' c', v' = .slice (some ⟨g', 0, none⟩) (ms.length + 1) c' := (by rcases hown'.form with ⟨_, e⟩ | ⟨g', c', e⟩; (exfalso; simp at e); (exact ⟨g', c', by simpa using e⟩)); have hblk : w'.heap[rb]? = v.heap[rb]? := ((hgrow.block rb (by simp <;> omega) (fun e => (by have := (hown.block e.symm).1; omega))).trans (Below.heap_alloc _ _ _ hrb)); have hcell' : w'.cell? ⟨rb, 1, none⟩ = some (.slice ao ms.length c) := ((World.cell?_of_block (a := ⟨rb, 1, none⟩) hblk).trans hm); have hfz' : w'.frozen? ⟨rb, 1, none⟩ = false := ((World.frozen?_of_block (a := ⟨rb, 1, none⟩) hblk).trans hfz))
  all_goals exact ⟨rfl, rfl, marks_end (by simp) (by intro x hx; exact Below.heap_alloc _ _ _ hx) hgrow hown' hrbB hB hat hne hfz hcell'⟩
end Go.Proofs.Ytaiinkeendejdaa
