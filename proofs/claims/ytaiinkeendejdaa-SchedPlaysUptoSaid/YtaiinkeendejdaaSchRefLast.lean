/-
  quash/quashref04: the document's player: pick, next. No condition.
-/
import Derived.Test.YtaiinkeendejdaaSchPlay
import Derived.Test.YtaiinkeendejdaaSchLast
import Derived.BigQuiet
import Derived.StillTailTactics
namespace Go.Proofs.Ytaiinkeendejdaa
open Go.RowKit
open Go.ConcN (upd upd_ne upd_same)
set_option maxRecDepth 100000
noncomputable def bodyRP : Code := (Try.f25).body.getD .skip
noncomputable def lastRP : Code := match bodyRP with | .seq _ (.seq _ (.seq _ (.seq _ c))) => c | _ => .skip
/-- what pick's last statement leaves -/
structure Marked3 (v w' : World) (rb B : Nat) (mv : Value) (ms' : List Mk) : Prop where
  row : ∃ mv', w'.cell? ⟨rb, 3, none⟩ = some mv' ∧ OwnM w' B mv' ms'
  list : ∀ i, i ≠ 3 → w'.cell? ⟨rb, i, none⟩ = v.cell? ⟨rb, i, none⟩
  warm : ∀ i, w'.frozen? ⟨rb, i, none⟩ = v.frozen? ⟨rb, i, none⟩
  size : v.heap.size ≤ w'.heap.size
  same : ∀ x, x < v.heap.size → x ≠ rb → some x ≠ mv.ownBlock → w'.heap[x]? = v.heap[x]?
  sys : w'.os = v.os ∧ w'.tape = v.tape ∧ w'.output = v.output
theorem marks_end3 {v w' W0 : World} {rb B : Nat} {mv nv u : Value} {ms' : List Mk} (hgrow : W0.grownBy w' mv.ownBlock) (hsz : v.heap.size ≤ W0.heap.size) (h0 : ∀ x, x < v.heap.size → W0.heap[x]? = v.heap[x]?) (hs0 : W0.os = v.os ∧ W0.tape = v.tape ∧ W0.output = v.output) (hown : OwnM w' B nv ms') (hrbB : rb < B) (hB : B ≤ v.heap.size) (hne : some rb ≠ mv.ownBlock) (hc : w'.cell? ⟨rb, 3, none⟩ = some u) :
    Marked3 v (w'.setCell ⟨rb, 3, none⟩ nv) rb B mv ms' := by
  have hb : w'.heap[rb]? = v.heap[rb]? := (hgrow.block rb (Nat.lt_of_lt_of_le (Nat.lt_of_lt_of_le hrbB hB) hsz) hne).trans (h0 rb (Nat.lt_of_lt_of_le hrbB hB))
  exact ⟨⟨nv, World.cell?_setCell_same _ _ _ hc, hown.at (fun g hg => Below.heap_setCell _ _ _ _ (fun e => by have := (hown.block hg).1; simp only at e; omega))⟩,
    fun i hi => (World.cell?_setCell_other _ _ _ _ (fun h => hi (congrArg Addr.off h).symm)).trans (World.cell?_of_block (a := ⟨rb, i, none⟩) hb), fun i => (frozen_setCell _ _ _ _).trans (World.frozen?_of_block (a := ⟨rb, i, none⟩) hb),
    by simp only [World.size_setCell]; exact Nat.le_trans hsz hgrow.size, fun x h1 h2 h3 => (Below.heap_setCell _ _ _ _ h2).trans ((hgrow.block x (Nat.lt_of_lt_of_le h1 hsz) h3).trans (h0 x h1)), hgrow.os.trans hs0.1, hgrow.tape.trans hs0.2.1, hgrow.output.trans hs0.2.2⟩
set_option maxHeartbeats 2000000 in
theorem refLast_wp {rp k B : Nat} {a : Int} {x2 x3 x4 x6 x7 x8 x9 x10 x11 x12 x13 x14 x15 x16 x17 x18 x19 x20 x21 x22 x23 x24 x25 x26 x27 x28 x29 x30 x31 x32 x33 x34 x35 x36 x37 x38 x39 x40 x41 x42 x43 x44 x45 x46 x47 x48 x49 x50 x51 x52 x53 x54 x55 x56 x57 x58 x59 x60 x61 x62 x63 x64 x65 x66 x67 x68 x69 x70 x71 x72 x73 x74 x75 x76 x77 x78 x79 x80 x81 x82 x83 x84 x85 x86 x87 x88 x89 : Value} {v : World} {mv : Value} {ms : List Mk} (hm : v.cell? ⟨rp, 3, none⟩ = some mv) (hfz : v.frozen? ⟨rp, 3, none⟩ = false) (hown : OwnM v B mv ms) (hB : B ≤ v.heap.size) (hrbB : rp < B) (hlen : ms.length < 1000000) :
    lastRP.wp Try.prog (fun e a' w' => e = .normal ∧ a'.defers = [] ∧ Marked3 v w' rp B mv (ms ++ [((ms.length : Int) + 1, (k : Int) + 1, a)])) ⟨#[.pointer (some ⟨rp, 0, none⟩), .int .i64 ((k : Int) + 1), x2, x3, x4, .int .i64 a, x6, x7, x8, x9, x10, x11, x12, x13, x14, x15, x16, x17, x18, x19, x20, x21, x22, x23, x24, x25, x26, x27, x28, x29, x30, x31, x32, x33, x34, x35, x36, x37, x38, x39, x40, x41, x42, x43, x44, x45, x46, x47, x48, x49, x50, x51, x52, x53, x54, x55, x56, x57, x58, x59, x60, x61, x62, x63, x64, x65, x66, x67, x68, x69, x70, x71, x72, x73, x74, x75, x76, x77, x78, x79, x80, x81, x82, x83, x84, x85, x86, x87, x88, x89], []⟩ v := by
  simp only [lastRP, bodyRP, Try.f25, Option.getD_some]
  have hrb : rp < v.heap.size := Nat.lt_of_lt_of_le hrbB hB
  have hw2 : IntKind.i64.wrap ((ms.length : Int) + 1) = (ms.length : Int) + 1 := by rw [IntKind.wrap_i64]; omega
  obtain ⟨ao, c, rfl, hsees, hn⟩ := hown.slice
  have hne : some rp ≠ (Value.slice ao ms.length c).ownBlock := fun e => by have := (hown.block e.symm).1; omega
  go_region_law (refine step_appendM (B := B) (v := .slice ao ms.length c) (xs := ms) (zs := [((ms.length : Int) + 1, (k : Int) + 1, a)]) (hown.at (fun g hg => Below.heap_alloc _ _ _ (hown.block hg).2)) (by simp <;> omega) rfl (.tmp 76) (.tmp 86) rfl (by simp [Act.eval]) ⟨v.heap.size, 0, none⟩ 1 (by simp [Act.eval]) (seesM_one (heap_alloc_new _ _)) (by simp <;> omega) ?_; intro v' w' hown' hgrow hat; obtain ⟨g', c', rfl⟩ : ∃ g' c', v' = .slice (some ⟨g', 0, none⟩) (ms.length + 1) c' := (by rcases hown'.form with ⟨_, e⟩ | ⟨g', c', e⟩; (exfalso; simp at e); (exact ⟨g', c', by simpa using e⟩)); have hblk : w'.heap[rp]? = v.heap[rp]? := ((hgrow.block rp (by simp <;> omega) (fun e => (by have := (hown.block e.symm).1; omega))).trans (Below.heap_alloc _ _ _ hrb)); have hcell' : w'.cell? ⟨rp, 3, none⟩ = some (.slice ao ms.length c) := ((World.cell?_of_block (a := ⟨rp, 3, none⟩) hblk).trans hm); have hfz' : w'.frozen? ⟨rp, 3, none⟩ = false := ((World.frozen?_of_block (a := ⟨rp, 3, none⟩) hblk).trans hfz))
  all_goals exact ⟨rfl, rfl, marks_end3 hgrow (by simp) (by intro x hx; exact Below.heap_alloc _ _ _ hx) ⟨rfl, rfl, rfl⟩ hown' hrbB hB hne hcell'⟩
end Go.Proofs.Ytaiinkeendejdaa
