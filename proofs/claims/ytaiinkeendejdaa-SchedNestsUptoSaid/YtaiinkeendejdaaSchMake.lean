/-
  SCHED: Run's two statements that make a thread, alone. No condition.
  And: SCHED: rows of threads in memory; Run's two statements that make a thread, alone. No condition.
-/
import Derived.Test.YtaiinkeendejdaaSchMarks
import Derived.Test.YtaiinkeendejdaaSchClose
import Derived.BigRegion
import Derived.WalkKit
namespace Go.Proofs.Ytaiinkeendejdaa
open Go.RowKit Go.Conc
set_option maxRecDepth 100000
def thCells (l : List Nat) : List Value := l.map fun x => .pointer (some ⟨x, 0, none⟩)
theorem infoT : (Try.prog.info? 69).map (fun i => (i.zero, i.size, i.bytes)) = some (some (.pointer none), 1, 8) := by kernel_rfl
/-- a row of threads of the call's own -/
def OwnT (w : World) (B : Nat) (v : Value) (l : List Nat) : Prop := w.ownsRow B 69 1 v l.length (thCells l)
theorem thCells_one : ∀ {l : List Nat}, ∀ v ∈ thCells l, v.oneCell' = true := by
  intro l v hv
  obtain ⟨x, _, rfl⟩ := List.mem_map.1 hv
  rfl
section
variable {w : World} {B : Nat} {l : List Nat} {v : Value}
theorem OwnT.nil (w : World) (B : Nat) : OwnT w B (.slice none 0 0) [] := World.ownsRow_nil _ _ _ _
theorem OwnT.at {w' : World} (h : OwnT w B v l) (hk : ∀ g, v.ownBlock = some g → w'.heap[g]? = w.heap[g]?) : OwnT w' B v l := by
  obtain ⟨h1, h2⟩ := h
  refine ⟨h1, ?_⟩
  rcases h2 with h2 | ⟨g, cap, cur, hv, hg, hh, r⟩
  · exact Or.inl h2
  · exact Or.inr ⟨g, cap, cur, hv, hg, by rw [hk g (by rw [hv]; rfl)]; exact hh, r⟩
theorem OwnT.block (h : OwnT w B v l) {g : Nat} (hg : v.ownBlock = some g) : B ≤ g ∧ g < w.heap.size := by
  rcases h.2 with ⟨hv, _⟩ | ⟨g', cap, cur, hv, h3, hh, _⟩
  · rw [hv] at hg; cases hg
  · rw [hv] at hg
    have e1 : g' = g := by simpa [Value.ownBlock] using hg
    subst e1
    exact ⟨h3, (Array.getElem?_eq_some_iff.1 hh).1⟩
theorem OwnT.form (h : OwnT w B v l) : (v = .slice none 0 0 ∧ l = []) ∨ ∃ g cap, v = .slice (some ⟨g, 0, none⟩) l.length cap ∧ B ≤ g := by
  obtain ⟨_, h1 | ⟨g, cap, cur, hv, hg, _⟩⟩ := h
  · exact Or.inl ⟨h1.1, List.eq_nil_of_length_eq_zero h1.2⟩
  · exact Or.inr ⟨g, cap, hv, hg⟩
theorem OwnT.cell {g cap n k x : Nat} (h : OwnT w B (.slice (some ⟨g, 0, none⟩) n cap) l) (hx : l[k]? = some x) : w.cell? ⟨g, k, none⟩ = some (.pointer (some ⟨x, 0, none⟩)) := by
  have hl : l.length = n := by
    rcases h.form with ⟨e, _⟩ | ⟨g', cap', e, _⟩
    · cases e
    · injection e with _ e2 _; exact e2.symm
  subst hl
  have hk := (List.getElem?_eq_some_iff.1 hx).1
  have := World.ownsRow.cellAt h k (by omega)
  rw [this]
  simp [thCells, hx]
end
/-- append of one thread as a step of a region that draws its order -/
theorem step_appendT {ops : Array Oper} {o : Oper} {a : Act} {w : World} {K : Act → World → Prop} {Q : Exit → Act → World → Prop} {E : Prop} {B t : Nat} {v : Value} {xs : List Nat} (hown : OwnT w B v xs) (hB : B ≤ w.heap.size)
    (hg : o.guard = none) (s x : Operand) (hop : o.op = Op.call { callee := Callee.builtin Builtin.append, args := #[s, x], argTypes := #[66, 66] })
    (ev : a.eval s = v) (g c : Nat) (hx : a.eval x = .slice (some ⟨g, 0, none⟩) 1 c) (hs : w.cell? ⟨g, 0, none⟩ = some (.pointer (some ⟨t, 0, none⟩))) (hb : xs.length < 1000000)
    (hK : ∀ v' w', OwnT w' B v' (xs ++ [t]) → w.grownBy w' v.ownBlock → (v'.ownBlock = v.ownBlock ∨ v'.ownBlock = some w.heap.size) → K (a.put o.dst v') w') :
    if Region.wanted o (yielded ops a.tmps) = true then Oper.wp Try.prog o a w K Q else E := by
  have hw : Region.wanted o (yielded ops a.tmps) = true := by simp [Region.wanted, hg]
  rw [if_pos hw]
  obtain ⟨i0, hi, hz0, hz1, hz2⟩ := info_parts infoT
  have hnews : ∀ (j : Nat) u, (thCells [t])[j]? = some u → w.cell? ((⟨g, 0, none⟩ : Addr).add j) = some u := fun j u hj => by
    match j, hj with
    | 0, hj =>
      simp [thCells] at hj
      subst hj
      simpa [Addr.add] using hs
    | j + 1, hj => simp [thCells] at hj
  obtain ⟨v', w', hrun, r1, r2, _, r3⟩ := run_append_own_at (P := Try.prog) w B 66 o.type 69 i0 (.pointer none) 1 8 Try.underlying66 hi hz0 hz1 hz2 rfl (by decide) v xs.length (thCells xs) hown ⟨g, 0, none⟩ 1 c (thCells [t]) rfl hnews thCells_one (by unfold maxLen; omega) (by omega) hB
  unfold Oper.wp
  simp [execOp, hop, resolve, invoke, builtin, ev, hx, hrun, Result.andThen]
  refine hK v' w' ?_ r2 r3
  unfold OwnT
  rw [List.length_append, show thCells (xs ++ [t]) = thCells xs ++ thCells [t] by simp [thCells]]
  exact r1
end Go.Proofs.Ytaiinkeendejdaa
namespace Go.Proofs.Ytaiinkeendejdaa
open Go.RowKit Go.Conc
set_option maxRecDepth 100000
noncomputable def loopHire : Code := match bodyRun with | .seq _ (.seq _ (.seq _ (.seq _ (.seq _ (.seq _ (.seq (.seq _ (.block _ (.loop c))) _)))))) => c | _ => .skip
noncomputable def bodyHire : Code := match loopHire with | .seq _ (.seq _ (.seq (.block _ c) _)) => c | _ => .skip
noncomputable def makeHire : Code := match bodyHire with | .seq c _ => c | _ => .skip
noncomputable def rowHire : Code := match bodyHire with | .seq _ (.seq c _) => c | _ => .skip
/-- four new blocks: two channels, the thread, the variable that holds it -/
structure Made (v w' : World) (c d th tv : Nat) : Prop where
  size : w'.heap.size = v.heap.size + 4
  same : ∀ x, x < v.heap.size → w'.heap[x]? = v.heap[x]?
  new : (v.heap.size ≤ c ∧ c < v.heap.size + 4) ∧ (v.heap.size ≤ d ∧ d < v.heap.size + 4) ∧ (v.heap.size ≤ th ∧ th < v.heap.size + 4) ∧ (v.heap.size ≤ tv ∧ tv < v.heap.size + 4)
  ne : c ≠ d ∧ th ≠ tv
  hc : w'.heap[c]? = some (.chan 0 #[] false 0 0 false)
  hd : w'.heap[d]? = some (.chan 0 #[] false 0 0 false)
  hth : w'.heap[th]? = some (.cells #[.chan (some c), .chan (some d), .bool false] 71)
  htv : w'.heap[tv]? = some (.cells #[.pointer (some ⟨th, 0, none⟩)] 69)
theorem alloc4 (v : World) (o0 o1 o2 o3 : Obj) : ((((v.alloc o0).alloc o1).alloc o2).alloc o3).heap.size = v.heap.size + 4 ∧ (∀ x, x < v.heap.size → ((((v.alloc o0).alloc o1).alloc o2).alloc o3).heap[x]? = v.heap[x]?) ∧
    ((((v.alloc o0).alloc o1).alloc o2).alloc o3).heap[v.heap.size]? = some o0 ∧ ((((v.alloc o0).alloc o1).alloc o2).alloc o3).heap[v.heap.size + 1]? = some o1 ∧ ((((v.alloc o0).alloc o1).alloc o2).alloc o3).heap[v.heap.size + 1 + 1]? = some o2 ∧ ((((v.alloc o0).alloc o1).alloc o2).alloc o3).heap[v.heap.size + 1 + 1 + 1]? = some o3 := by
  have e : ((((v.alloc o0).alloc o1).alloc o2).alloc o3).heap = (((v.heap.push o0).push o1).push o2).push o3 := rfl
  rw [e]
  simp only [Array.size_push, Array.getElem?_push]
  refine ⟨trivial, fun x hx => ?_, ?_, ?_, ?_, ?_⟩
  · rw [if_neg (by omega), if_neg (by omega), if_neg (by omega), if_neg (by omega)]
  · rw [if_neg (by omega), if_neg (by omega), if_neg (by omega), if_pos trivial]
  · rw [if_neg (by omega), if_neg (by omega), if_pos trivial]
  · rw [if_neg (by omega), if_pos trivial]
  · rw [if_pos trivial]
theorem mk0 (w : World) : (Instr.makeChan 54 (.int .i64 0)).run Try.prog w = .ok (.chan (some w.heap.size)) (w.alloc (.chan 0 #[] false 0 0 false)) := by
  have h := Go.Conc.run_makeChan (P := Try.prog) (w := w) (t := 54) (ht := Try.underlying54) (hi := rfl) .i64 0 (by decide) (by decide)
  exact h
set_option maxHeartbeats 2000000 in
theorem make_wp {x0 x1 x2 x3 x4 x5 x6 x7 x8 x9 x10 x11 x12 x13 x14 x15 x16 x17 x18 x19 x20 x21 x22 x23 x24 x25 x26 x27 x28 x29 x30 x31 x32 x33 x34 x35 x36 x37 x38 x39 x40 x41 x42 x43 x44 x45 x46 x47 x48 x49 x50 x51 x52 x53 x54 x55 x56 x57 x58 x59 x60 x61 x62 x63 x64 x65 x66 x67 x68 x69 x70 x71 x72 x73 x74 x75 x76 x77 x78 x79 x80 x81 x82 x83 x84 x85 x86 : Value} {v : World} : makeHire.wp Try.prog (fun e a' w' => e = .normal ∧ a'.defers = [] ∧ ∃ c d th tv, a'.tmps = #[x0, x1, x2, x3, x4, x5, x6, x7, x8, x9, x10, x11, x12, x13, .pointer (some ⟨tv, 0, none⟩), x15, x16, x17, x18, x19, x20, x21, x22, x23, x24, x25, x26, x27, x28, x29, x30, x31, x32, x33, x34, .chan (some c), .chan (some d), .agg #[.chan (some c), .chan (some d), .bool false], .pointer (some ⟨th, 0, none⟩), x39, x40, x41, x42, x43, x44, x45, x46, x47, x48, x49, x50, x51, x52, x53, x54, x55, x56, x57, x58, x59, x60, x61, x62, x63, x64, x65, x66, x67, x68, x69, x70, x71, x72, x73, x74, x75, x76, x77, x78, x79, x80, x81, x82, x83, x84, x85, x86] ∧ Made v w' c d th tv) ⟨#[x0, x1, x2, x3, x4, x5, x6, x7, x8, x9, x10, x11, x12, x13, x14, x15, x16, x17, x18, x19, x20, x21, x22, x23, x24, x25, x26, x27, x28, x29, x30, x31, x32, x33, x34, x35, x36, x37, x38, x39, x40, x41, x42, x43, x44, x45, x46, x47, x48, x49, x50, x51, x52, x53, x54, x55, x56, x57, x58, x59, x60, x61, x62, x63, x64, x65, x66, x67, x68, x69, x70, x71, x72, x73, x74, x75, x76, x77, x78, x79, x80, x81, x82, x83, x84, x85, x86], []⟩ v := by
  simp only [makeHire, bodyHire, loopHire, bodyRun, Try.f19, Option.getD_some]
  have hmk := mk0
  go_region
  all_goals
    refine ⟨rfl, rfl, _, _, _, _, rfl, ?_⟩
    constructor
    case size => exact (alloc4 v _ _ _ _).1
    case same => exact (alloc4 v _ _ _ _).2.1
    case new => omega
    case ne => omega
    all_goals first | exact (alloc4 v _ _ _ _).2.2.1 | exact (alloc4 v _ _ _ _).2.2.2.1 | exact (alloc4 v _ _ _ _).2.2.2.2.1 | exact (alloc4 v _ _ _ _).2.2.2.2.2
/-- behind the append -/
structure Rowed (v w' : World) (rb B : Nat) (lv : Value) (l' : List Nat) : Prop where
  row : ∃ lv', w'.cell? ⟨rb, 0, none⟩ = some lv' ∧ OwnT w' B lv' l' ∧ ∀ g, lv'.ownBlock = some g → lv.ownBlock = some g ∨ v.heap.size ≤ g
  marks : w'.cell? ⟨rb, 1, none⟩ = v.cell? ⟨rb, 1, none⟩
  warm0 : w'.frozen? ⟨rb, 0, none⟩ = false
  warm1 : w'.frozen? ⟨rb, 1, none⟩ = v.frozen? ⟨rb, 1, none⟩
  size : v.heap.size ≤ w'.heap.size
  same : ∀ x, x < v.heap.size → x ≠ rb → some x ≠ lv.ownBlock → w'.heap[x]? = v.heap[x]?
theorem rows_end {v w' W0 : World} {rb B : Nat} {lv nv u : Value} {l' : List Nat} (hsz : v.heap.size ≤ W0.heap.size) (h0 : ∀ x, x < v.heap.size → W0.heap[x]? = v.heap[x]?) (hgrow : W0.grownBy w' lv.ownBlock) (hown : OwnT w' B nv l') (hrbB : rb < B) (hB : B ≤ v.heap.size) (hnew : nv.ownBlock = lv.ownBlock ∨ nv.ownBlock = some W0.heap.size) (hne : some rb ≠ lv.ownBlock) (hfz : v.frozen? ⟨rb, 0, none⟩ = false) (hc : w'.cell? ⟨rb, 0, none⟩ = some u) :
    Rowed v (w'.setCell ⟨rb, 0, none⟩ nv) rb B lv l' := by
  have hb : w'.heap[rb]? = v.heap[rb]? := (hgrow.block rb (Nat.lt_of_lt_of_le (Nat.lt_of_lt_of_le hrbB hB) hsz) hne).trans (h0 rb (Nat.lt_of_lt_of_le hrbB hB))
  exact ⟨⟨nv, World.cell?_setCell_same _ _ _ hc, hown.at (fun g hg => Below.heap_setCell _ _ _ _ (fun e => by have := (hown.block hg).1; simp only at e; omega)), fun g hg => hnew.elim (fun e => .inl (e.symm.trans hg)) fun e => .inr (by have := Option.some.inj (e.symm.trans hg); omega)⟩, (World.cell?_setCell_other _ _ _ _ (by simp)).trans (World.cell?_of_block (a := ⟨rb, 1, none⟩) hb), (frozen_setCell _ _ _ _).trans ((World.frozen?_of_block (a := ⟨rb, 0, none⟩) hb).trans hfz), (frozen_setCell _ _ _ _).trans (World.frozen?_of_block (a := ⟨rb, 1, none⟩) hb),
    by simp only [World.size_setCell]; exact Nat.le_trans hsz hgrow.size, fun x h1 h2 h3 => (Below.heap_setCell _ _ _ _ h2).trans ((hgrow.block x (Nat.lt_of_lt_of_le h1 hsz) h3).trans (h0 x h1))⟩
/-- at a normal end alone -/
def onN (R : Act → World → Prop) : Exit → Act → World → Prop
  | .normal, a, w => R a w
  | _, _, _ => False
theorem onN_mono {R R' : Act → World → Prop} (h : ∀ a w, R a w → R' a w) : ∀ e a w, onN R e a w → e = .normal ∧ R' a w := fun e a w hq => by
  cases e <;> first | exact ⟨rfl, h a w hq⟩ | exact hq.elim
theorem cell_alloc_new (v : World) (x : Value) (t : TypeId) : (v.alloc (.cells #[x] t)).cell? ⟨v.heap.size, 0, none⟩ = some x := by
  have := heap_alloc_new v (.cells #[x] t)
  unfold World.cell?
  simp only [this]
  rfl
set_option maxHeartbeats 4000000 in
theorem row_wp {rb tv th B : Nat} {x0 x1 x2 x3 x4 x5 x6 x7 x8 x9 x10 x11 x12 x15 x16 x17 x18 x19 x20 x21 x22 x23 x24 x25 x26 x27 x28 x29 x30 x31 x32 x33 x34 x35 x36 x37 x38 x39 x40 x41 x42 x43 x44 x45 x46 x47 x48 x49 x50 x51 x52 x53 x54 x55 x56 x57 x58 x59 x60 x61 x62 x63 x64 x65 x66 x67 x68 x69 x70 x71 x72 x73 x74 x75 x76 x77 x78 x79 x80 x81 x82 x83 x84 x85 x86 : Value} {v : World} {lv : Value} {l : List Nat} (hm : v.cell? ⟨rb, 0, none⟩ = some lv) (hfz : v.frozen? ⟨rb, 0, none⟩ = false) (hown : OwnT v B lv l) (hB : B ≤ v.heap.size) (hrbB : rb < B) (hlen : l.length < 1000000) (htv : v.cell? ⟨tv, 0, none⟩ = some (.pointer (some ⟨th, 0, none⟩))) :
    rowHire.wp Try.prog (onN fun a' w' => a'.defers = [] ∧ ∃ y39 y40 y41 y42 y43 y44 y45 y46 y47 y48, a'.tmps = #[x0, x1, x2, x3, x4, x5, x6, x7, x8, x9, x10, x11, x12, .pointer (some ⟨rb, 0, none⟩), .pointer (some ⟨tv, 0, none⟩), x15, x16, x17, x18, x19, x20, x21, x22, x23, x24, x25, x26, x27, x28, x29, x30, x31, x32, x33, x34, x35, x36, x37, x38, y39, y40, y41, y42, y43, y44, y45, y46, y47, y48, x49, x50, x51, x52, x53, x54, x55, x56, x57, x58, x59, x60, x61, x62, x63, x64, x65, x66, x67, x68, x69, x70, x71, x72, x73, x74, x75, x76, x77, x78, x79, x80, x81, x82, x83, x84, x85, x86] ∧ Rowed v w' rb B lv (l ++ [th])) ⟨#[x0, x1, x2, x3, x4, x5, x6, x7, x8, x9, x10, x11, x12, .pointer (some ⟨rb, 0, none⟩), .pointer (some ⟨tv, 0, none⟩), x15, x16, x17, x18, x19, x20, x21, x22, x23, x24, x25, x26, x27, x28, x29, x30, x31, x32, x33, x34, x35, x36, x37, x38, x39, x40, x41, x42, x43, x44, x45, x46, x47, x48, x49, x50, x51, x52, x53, x54, x55, x56, x57, x58, x59, x60, x61, x62, x63, x64, x65, x66, x67, x68, x69, x70, x71, x72, x73, x74, x75, x76, x77, x78, x79, x80, x81, x82, x83, x84, x85, x86], []⟩ v := by
  simp only [rowHire, bodyHire, loopHire, bodyRun, Try.f19, Option.getD_some]
  have hrb : rb < v.heap.size := Nat.lt_of_lt_of_le hrbB hB
  have hne : some rb ≠ lv.ownBlock := fun e => by have := (hown.block e.symm).1; omega
  obtain ⟨ao, n, c, rfl⟩ : ∃ ao n c, lv = .slice ao n c := by
    rcases hown.form with ⟨rfl, _⟩ | ⟨g, cap, rfl, _⟩
    · exact ⟨none, 0, 0, rfl⟩
    · exact ⟨some ⟨g, 0, none⟩, _, cap, rfl⟩
  go_region_law (refine step_appendT (B := B) (t := th) (v := .slice ao n c) (xs := l) (hown.at (fun g hg => Below.heap_alloc _ _ _ (hown.block hg).2)) (by simp <;> omega) rfl (.tmp 43) (.tmp 45) rfl (by simp [Act.eval]) v.heap.size 1 (by simp [Act.eval]) (cell_alloc_new _ _ _) hlen ?_; intro v' w' hown' hgrow hat; obtain ⟨g', c', rfl⟩ : ∃ g' c', v' = .slice (some ⟨g', 0, none⟩) (l.length + 1) c' := (by rcases hown'.form with ⟨_, e⟩ | ⟨g', c', e, _⟩; (exfalso; simp at e); (exact ⟨g', c', by simpa using e⟩)); have hblk : w'.heap[rb]? = v.heap[rb]? := ((hgrow.block rb (by simp <;> omega) hne).trans (Below.heap_alloc _ _ _ hrb)); have hcell' : w'.cell? ⟨rb, 0, none⟩ = some (.slice ao n c) := ((World.cell?_of_block (a := ⟨rb, 0, none⟩) hblk).trans hm); have hfz' : w'.frozen? ⟨rb, 0, none⟩ = false := ((World.frozen?_of_block (a := ⟨rb, 0, none⟩) hblk).trans hfz))
  all_goals exact ⟨rfl, _, _, _, _, _, _, _, _, _, _, rfl, rows_end (by simp) (by intro x hx; exact Below.heap_alloc _ _ _ hx) hgrow hown' hrbB hB hat hne hfz hcell'⟩
end Go.Proofs.Ytaiinkeendejdaa

