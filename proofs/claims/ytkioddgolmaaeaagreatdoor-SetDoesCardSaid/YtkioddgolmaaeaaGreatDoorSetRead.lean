/-
  quash/set.keysOf, quash/set.Read: every call over a slice that reads as a list. No condition.
-/
import Derived.Test.YtkioddgolmaaeaaGreatDoorSetNodes
import Derived.Test.YtkioddgolmaaeaaGreatDoorSetSmall
namespace Go.Proofs.YtkioddgolmaaeaaGreatDoor
open Go.RowKit
attribute [local go_sem] Oper.semAt_some
set_option maxRecDepth 100000

theorem wpIn_gen {F : Fence} {n : Nat} {P : Program} {c : Code} {Q : Exit → Act → World → Prop} {a : Act} {W0 : World} (G : World → Prop) (hf : G W0) (h : ∀ W, G W → c.wpIn F n P Q a W) : c.wpIn F n P Q a W0 := h W0 hf
section
variable {F : Fence} {n : Nat} {P : Program} {Q : Exit → Act → World → Prop}
theorem stepR_scope {b : Frame} {a : Act} {k : List Item} {cs : List Frame} {w : World} {c : Code} : step P (lone (b.atR a (.code (.scope c) :: k)) cs w) = .next (lone (b.atR a (.code c :: .inScope c :: k)) cs w) :=
  step_lone_go (by simp [stepG, stepG.exec, Frame.atR])
theorem stepR_inScope {b : Frame} {a : Act} {k : List Item} {cs : List Frame} {w : World} {c : Code} : step P (lone (b.atR a (.inScope c :: k)) cs w) = .next (lone (b.atR a k) cs w) :=
  step_lone_go (by simp [stepG, stepG.exec, Frame.atR])
/-- a scope that no goto crosses, inside a fence -/
theorem wpIn_scope_straight {a : Act} {w : World} {c : Code} (h : c.wpIn F n P (Exit.noGoto Q) a w) : (Code.scope c).wpIn F n P Q a w := by
  intro b k cs hro hb hr
  have h0 : (lone (b.atR a (.code (.scope c) :: k)) cs w).fenced P F := fenced_calm hb hr rfl
  obtain ⟨e, a₁, w₁, hq, harr⟩ := h b (.inScope c :: k) cs hro hb hr
  cases e with
  | normal => exact ⟨.normal, a₁, w₁, hq, .head h0 stepR_scope (StepsIn.trans harr (.one (fenced_calm hb hr rfl) stepR_inScope))⟩
  | exit id =>
    have hx : exitTo id (.inScope c :: k) = exitTo id k := by simp [exitTo]
    exact ⟨.exit id, a₁, w₁, hq, fun k' hk => .head h0 stepR_scope (harr.1 k' (by rw [hx]; exact hk)),
      fun hr' hk => let ⟨k₁, h1, h2⟩ := harr.2 hr' (by rw [hx]; exact hk); ⟨k₁, h1, .head h0 stepR_scope h2⟩⟩
  | goto l => exact hq.elim
  | ret => exact ⟨_, a₁, w₁, hq, .of_steps (.one h0 stepR_scope) harr⟩
  | panic ch => exact ⟨_, a₁, w₁, hq, .of_steps (.one h0 stepR_scope) harr⟩
  | outgrown => exact ⟨_, a₁, w₁, hq, .of_steps (.one h0 stepR_scope) harr⟩
end
/-- make, inside a fence, by an equation on its run -/
theorem wpListIn_makeV {F : Fence} {n : Nat} {P : Program} {ops : Array Oper} {Q : Exit → Act → World → Prop} {a : Act} {w : World} {rest : List Oper} {o : Oper} (hg : o.guard = none) (t : TypeId) (l c : Operand) (hop : o.op = Op.makeSlice t l c) (x y v : Value) (w' : World)
    (hx : a.eval l = x) (hy : a.eval c = y) (hrun : (Instr.makeSlice t x y).run P w = .ok v w') (h : wpListIn F n P ops Q rest (a.put o.dst v) w') : wpListIn F n P ops Q (o :: rest) a w := by
  subst hx hy
  refine wpListIn_plain hg fun K hK' => ?_
  unfold Oper.wpIn
  refine ⟨?_, ?_⟩
  · simp [Oper.about, hop]
  · rw [Oper.semAt_plain F _ _ (by rw [hop]; intro c hc'; cases hc')]
    simp [execOp, hop, hrun, Result.andThen]
    exact hK' _ _ h
/-- the walk halts here -/
def Held (p : Prop) : Prop := p
theorem held {p : Prop} (h : Held p) : p := h
/-- append of one number onto a row of the call's own, inside a fence -/
theorem wpListIn_append64 {F : Fence} {n : Nat} {w : World} {B : Nat} {v : Value} {xs : List Int} (hown : Own w B v xs) (hB : B ≤ w.heap.size) (y : Int) (nb : Nat) (hc : w.cell? ⟨nb, 0, none⟩ = some (.int .i64 y)) (hb : (xs.length + 1) * 8 ≤ 140737488355328)
    {ops : Array Oper} {Q : Exit → Act → World → Prop} {a : Act} {rest : List Oper} {o : Oper} (hgd : o.guard = none) (s x : Operand) (hop : o.op = Op.call { callee := Callee.builtin Builtin.append, args := #[s, x], argTypes := #[23, 23] })
    (ev : a.eval s = v) (hx : a.eval x = .slice (some ⟨nb, 0, none⟩) 1 1)
    (hK : ∀ v' w', Own w' B v' (xs ++ [y]) → w.grownBy w' v.ownBlock → wpListIn F n Tryz.prog ops Q rest (a.put o.dst v') w') : wpListIn F n Tryz.prog ops Q (o :: rest) a w := by
  obtain ⟨i0, hi, hz0, hz1, hz2⟩ := info_parts info64
  refine wpListIn_append_own _ hgd s x 23 hop B 2 i0 (.int .i64 0) 1 8 Tryz.underlying23 hi hz0 hz1 hz2 rfl (by decide) v xs.length (i64s xs) ev hown ⟨nb, 0, none⟩ 1 1 [.int .i64 y] hx rfl (fun j u hj => ?_) (by simp [Value.oneCell']) (by unfold maxLen; omega) hb hB
    (fun v' w' h1 h2 _ => hK v' w' (by unfold Own; rw [List.length_append, i64s_app]; exact h1) h2)
  match j, hj with
  | 0, hj => rw [Addr.add_lit]; simpa using hc.trans hj
theorem infoInt : (Tryz.prog.info? 3).map (fun i => (i.zero, i.size, i.bytes)) = some (some (.int .i64 0), 1, 8) := by kernel_rfl
theorem makeInts (m : Nat) (h : m ≤ 100000) (w : World) : (Instr.makeSlice 57 (.int .i64 m) (.int .i64 m)).run Tryz.prog w = .ok (.slice (some ⟨w.heap.size, 0, none⟩) m m) (w.alloc (.cells (madeCells #[.int .i64 0] m) 3)) := by
  obtain ⟨i0, hi, hz0, hz1, hz2⟩ := info_parts infoInt
  have h := run_makeSlice (w := w) (P := Tryz.prog) 57 3 i0 (.int .i64 0) Tryz.underlying57 hi hz0 .i64 .i64 m m (by omega) (Int.le_refl _) (by rw [hz1]; simp; omega) (by rw [hz2]; omega) (by omega)
  rw [h, hz1]
  simp [Value.cells]
/-- how often each node was seen -/
def countV (N : Nat) (s : List Int) : Array Value := ((List.range (N + 1)).map fun (i : Nat) => Value.int .i64 (if (i : Int) ∈ s then 1 else 0)).toArray
theorem countV_nil (N : Nat) : madeCells #[.int .i64 0] (N + 1) = countV N [] := by
  apply Array.toList_inj.1
  rw [toList_madeCells_one]
  simp [countV, List.map_const']
theorem countV_at (N : Nat) (s : List Int) (x : Nat) (h : x ≤ N) : (countV N s)[x]? = some (.int .i64 (if (x : Int) ∈ s then 1 else 0)) := by
  have : x < (List.range (N + 1)).length := by simp; omega
  simp [countV, List.getElem?_eq_getElem this]
theorem countV_set (N : Nat) (s : List Int) (x : Nat) (_h : x ≤ N) : (countV N s).setIfInBounds x (.int .i64 1) = countV N ((x : Int) :: s) := by
  apply Array.ext_getElem?
  intro i
  by_cases hi : i ≤ N
  · rw [countV_at _ _ _ hi, Array.getElem?_setIfInBounds]
    by_cases e : x = i
    · subst e
      have : x < (countV N s).size := by simp [countV]; omega
      simp [this]
    · have : ¬ (i : Int) = (x : Int) := by omega
      rw [if_neg e, countV_at _ _ _ hi]
      simp [this]
  · rw [Array.getElem?_eq_none (by simp [countV]; omega), Array.getElem?_eq_none (by simp [countV]; omega)]
theorem nodes_any (ao : Option Addr) (m c : Nat) (n h : Int) (w : World) : Calls Tryz.prog 39 #[.slice ao m c, .int .i64 n, .int .i64 h] w fun e w' =>
    e = .returned (.func (.func 52) #[] #[.pointer (some ⟨w.heap.size + 1 + 1, 0, none⟩), .pointer (some ⟨w.heap.size + 1, 0, none⟩), .pointer (some ⟨w.heap.size, 0, none⟩)]) ∧
    w' = (((w.alloc (.cells #[.slice ao m c] 23)).alloc (.cells #[.int .i64 n] 3)).alloc (.cells #[.int .i64 h] 2)) := by
  go_enter Tryz.func39, Tryz.ntmps39
  go_wp2
  go_ret
  exact ⟨by simp, rfl⟩
/-- between two rounds of keysOf's inner loop -/
structure InK (w0 : World) (sl : Value) (N kb Lb Nb Cb Hb : Nat) (li : Int) (s k : List Int) (W : World) : Prop where
  cb0 : Boxed W w0.heap.size 23 sl
  seen : W.heap[w0.heap.size + 1]? = some (.cells (countV N s) 3)
  seenb : Boxed W (w0.heap.size + 2) 57 (.slice (some ⟨w0.heap.size + 1, 0, none⟩) (N + 1) (N + 1))
  many : Boxed W (w0.heap.size + 3) 3 (.int .i64 s.length)
  keys : ∃ ao c, Boxed W (w0.heap.size + 4) 23 (.slice ao k.length c) ∧ Own W kb (.slice ao k.length c) k ∧ (Value.slice ao k.length c).ownBlock ≠ some Hb
  lb : Boxed W Lb 3 (.int .i64 li)
  nb : Boxed W Nb 3 (.int .i64 N)
  cb : Boxed W Cb 23 sl
  below : Below w0.heap.size w0 W
  len : k.length ≤ s.length
/-- behind a break -/
structure InX (w0 : World) (sl : Value) (W : World) : Prop where
  cb0 : Boxed W w0.heap.size 23 sl
  many : Boxed W (w0.heap.size + 3) 3 (.int .i64 (-1))
  keys : ∃ ao n c, Boxed W (w0.heap.size + 4) 23 (.slice ao n c)
  below : Below w0.heap.size w0 W
theorem boxed_row {W W' : World} {row : Option Nat} {B Hb : Nat} {t : TypeId} {v : Value} (h : Boxed W B t v) (hg : W.grownBy W' row) (hne : B ≠ Hb) (hr : ∀ j, row = some j → (j = Hb ∨ ∃ o, W.heap[j]? = some o ∧ o.isCells = false)) : Boxed W' B t v :=
  h.kept hg (fun e => by
    rcases hr B e.symm with h1 | ⟨o, h1, h2⟩
    · exact hne h1
    · rw [show W.heap[B]? = _ from h] at h1; cases h1; cases h2)
theorem InK.grown {w0 : World} {sl : Value} {N kb Lb Nb Cb Hb : Nat} {li : Int} {s k : List Int} {W W' : World} {row : Option Nat} (h : InK w0 sl N kb Lb Nb Cb Hb li s k W) (hH : w0.heap.size + 4 < Hb) (hL : Lb ≠ Hb) (hNb : Nb ≠ Hb) (hCb : Cb ≠ Hb) (hg : W.grownBy W' row)
    (hr : ∀ j, row = some j → (j = Hb ∨ ∃ o, W.heap[j]? = some o ∧ o.isCells = false)) (hr2 : ∀ j, row = some j → w0.heap.size ≤ j) : InK w0 sl N kb Lb Nb Cb Hb li s k W' := by
  refine ⟨boxed_row h.cb0 hg (by omega) hr, ?_, boxed_row h.seenb hg (by omega) hr, boxed_row h.many hg (by omega) hr, ?_, boxed_row h.lb hg hL hr, boxed_row h.nb hg hNb hr, boxed_row h.cb hg hCb hr, h.below.grown hg (h.below.size) hr2, h.len⟩
  · refine (hg.block _ (lt_of_block h.seen) (fun e => ?_)).trans h.seen
    rcases hr _ e.symm with h1 | ⟨o, h1, h2⟩
    · omega
    · rw [h.seen] at h1; cases h1; cases h2
  · obtain ⟨ao, c, hb, ho, hn⟩ := h.keys
    refine ⟨ao, c, boxed_row hb hg (by omega) hr, ?_, hn⟩
    refine ownsRow_at ho (fun g hgb => ?_)
    obtain ⟨cur, hc⟩ := own_block ho hgb
    refine hg.block _ (lt_of_block hc) (fun e => ?_)
    rcases hr _ e.symm with h1 | ⟨o, h1, h2⟩
    · subst h1; exact hn hgb
    · rw [hc] at h1; cases h1; cases h2
/-- between two lists -/
structure BaseK (w0 : World) (sl : Value) (N : Nat) (s k : List Int) (W : World) : Prop where
  cb0 : Boxed W w0.heap.size 23 sl
  seen : W.heap[w0.heap.size + 1]? = some (.cells (countV N s) 3)
  seenb : Boxed W (w0.heap.size + 2) 57 (.slice (some ⟨w0.heap.size + 1, 0, none⟩) (N + 1) (N + 1))
  many : Boxed W (w0.heap.size + 3) 3 (.int .i64 s.length)
  keys : ∃ ao c, Boxed W (w0.heap.size + 4) 23 (.slice ao k.length c) ∧ Own W w0.heap.size (.slice ao k.length c) k
  below : Below w0.heap.size w0 W
  len : k.length ≤ s.length
theorem InK.base {w0 : World} {sl : Value} {N kb Lb Nb Cb Hb : Nat} {li : Int} {s k : List Int} {W : World} (h : InK w0 sl N kb Lb Nb Cb Hb li s k W) (hkb : w0.heap.size ≤ kb) : BaseK w0 sl N s k W :=
  ⟨h.cb0, h.seen, h.seenb, h.many, (by obtain ⟨ao, c, h1, h2, _⟩ := h.keys; exact ⟨ao, c, h1, h2.lower hkb⟩), h.below, h.len⟩
theorem BaseK.start (w0 : World) (sl : Value) (N : Nat) : BaseK w0 sl N [] [] (((((w0.alloc (.cells #[sl] 23)).alloc (.cells (madeCells #[.int .i64 0] (N + 1)) 3)).alloc (.cells #[.slice (some ⟨w0.heap.size + 1, 0, none⟩) (N + 1) (N + 1)] 57)).alloc (.cells #[.int .i64 0] 3)).alloc (.cells #[.slice none 0 0] 23)) := by
  have b0 := Boxed.new w0 23 sl
  have b2 := Boxed.new ((w0.alloc (.cells #[sl] 23)).alloc (.cells (madeCells #[.int .i64 0] (N + 1)) 3)) 57 (.slice (some ⟨w0.heap.size + 1, 0, none⟩) (N + 1) (N + 1))
  have b3 := Boxed.new (((w0.alloc (.cells #[sl] 23)).alloc (.cells (madeCells #[.int .i64 0] (N + 1)) 3)).alloc (.cells #[.slice (some ⟨w0.heap.size + 1, 0, none⟩) (N + 1) (N + 1)] 57)) 3 (.int .i64 0)
  have b4 := Boxed.new ((((w0.alloc (.cells #[sl] 23)).alloc (.cells (madeCells #[.int .i64 0] (N + 1)) 3)).alloc (.cells #[.slice (some ⟨w0.heap.size + 1, 0, none⟩) (N + 1) (N + 1)] 57)).alloc (.cells #[.int .i64 0] 3)) 23 (.slice none 0 0)
  have s1 : ((w0.alloc (.cells #[sl] 23)).alloc (.cells (madeCells #[.int .i64 0] (N + 1)) 3)).heap[w0.heap.size + 1]? = some (.cells (madeCells #[.int .i64 0] (N + 1)) 3) := heap_new _ _ _ (by simp)
  simp only [World.size_alloc] at b2 b3 b4
  refine ⟨(((b0.alloc _).alloc _).alloc _).alloc _, ?_, (b2.alloc _).alloc _, b3.alloc _, ⟨none, 0, b4, Own.nil _ _⟩, ((((((Below.refl _ _).alloc (Nat.le_refl _) _).alloc (by simp) _).alloc (by simp; omega) _).alloc (by simp; omega) _).alloc (by simp; omega) _), Nat.le_refl _⟩
  rw [← countV_nil]
  exact (Below.heap_alloc _ _ _ (by simp)).trans ((Below.heap_alloc _ _ _ (by simp)).trans ((Below.heap_alloc _ _ _ (by simp)).trans s1))
theorem BaseK.start4 (w0 : World) (sl : Value) (N : Nat) : Boxed (((((w0.alloc (.cells #[sl] 23)).alloc (.cells (madeCells #[.int .i64 0] (N + 1)) 3)).alloc (.cells #[.slice (some ⟨w0.heap.size + 1, 0, none⟩) (N + 1) (N + 1)] 57)).alloc (.cells #[.int .i64 0] 3)).alloc (.cells #[.slice none 0 0] 23)) (w0.heap.size + 4) 23 (.slice none 0 0) := by
  have b4 := Boxed.new ((((w0.alloc (.cells #[sl] 23)).alloc (.cells (madeCells #[.int .i64 0] (N + 1)) 3)).alloc (.cells #[.slice (some ⟨w0.heap.size + 1, 0, none⟩) (N + 1) (N + 1)] 57)).alloc (.cells #[.int .i64 0] 3)) 23 (.slice none 0 0)
  simp only [World.size_alloc] at b4
  exact b4
/-- a round begins -/
theorem BaseK.into {w0 : World} {ao : Option Addr} {L c N : Nat} {s k : List Int} {W : World} (h : BaseK w0 (.slice ao L c) N s k W) (li hd : Int) (kb : Nat) (hkb : kb = w0.heap.size ∨ (k = [] ∧ Boxed W (w0.heap.size + 4) 23 (.slice none 0 0))) :
    InK w0 (.slice ao L c) N kb W.heap.size (W.heap.size + 1 + 1) (W.heap.size + 1) (W.heap.size + 1 + 1 + 1) li s k ((((W.alloc (.cells #[.int .i64 li] 3)).alloc (.cells #[.slice ao L c] 23)).alloc (.cells #[.int .i64 N] 3)).alloc (.cells #[.int .i64 hd] 2)) := by
  have b0 := Boxed.new W 3 (.int .i64 li)
  have b1 := Boxed.new (W.alloc (.cells #[.int .i64 li] 3)) 23 (.slice ao L c)
  have b2 := Boxed.new ((W.alloc (.cells #[.int .i64 li] 3)).alloc (.cells #[.slice ao L c] 23)) 3 (.int .i64 N)
  simp only [World.size_alloc] at b1 b2
  have hsz := h.below.size
  have up : ∀ k, k < W.heap.size → ((((W.alloc (.cells #[.int .i64 li] 3)).alloc (.cells #[.slice ao L c] 23)).alloc (.cells #[.int .i64 N] 3)).alloc (.cells #[.int .i64 hd] 2)).heap[k]? = W.heap[k]? := fun k hk =>
    (Below.heap_alloc _ _ _ (by simp; omega)).trans ((Below.heap_alloc _ _ _ (by simp; omega)).trans ((Below.heap_alloc _ _ _ (by simp; omega)).trans (Below.heap_alloc _ _ _ hk)))
  refine ⟨(((h.cb0.alloc _).alloc _).alloc _).alloc _, (up _ (lt_of_block h.seen)).trans h.seen, (((h.seenb.alloc _).alloc _).alloc _).alloc _, (((h.many.alloc _).alloc _).alloc _).alloc _, ?_, ((b0.alloc _).alloc _).alloc _, b2.alloc _, (b1.alloc _).alloc _, (((h.below.alloc hsz _).alloc (by simp; omega) _).alloc (by simp; omega) _).alloc (by simp; omega) _, h.len⟩
  obtain ⟨ao', c', k1, k2⟩ := h.keys
  rcases hkb with rfl | ⟨rfl, hn⟩
  · refine ⟨ao', c', (((k1.alloc _).alloc _).alloc _).alloc _, ownsRow_at k2 (fun g hg => up g (by obtain ⟨_, hc⟩ := own_block k2 hg; exact lt_of_block hc)), fun e => ?_⟩
    obtain ⟨_, hc⟩ := own_block k2 e
    have := lt_of_block hc
    omega
  · exact ⟨none, 0, (((hn.alloc _).alloc _).alloc _).alloc _, Own.nil _ _, by simp [Value.ownBlock]⟩
theorem boxed_st {W : World} {B g : Nat} {t : TypeId} {v : Value} (h : Boxed W B t v) (hne : B ≠ g) (o : Nat) (u : Value) : Boxed (W.setCell ⟨g, o, none⟩ u) B t v := (heap_setCell_other W ⟨g, o, none⟩ B u hne).trans h
theorem own_not {W : World} {B g : Nat} {v : Value} {zs : List Int} {cs : Array Value} {t : TypeId} (h : Own W B v zs) (hg : W.heap[g]? = some (.cells cs t)) (ht : t ≠ 2) : v.ownBlock ≠ some g := fun e => by
  obtain ⟨cur, hc⟩ := own_block h e
  rw [hc] at hg
  injection hg with hg
  injection hg with _ h2
  exact ht h2.symm
/-- a node is counted -/
theorem InK.counted {w0 : World} {sl : Value} {N kb Lb Nb Cb Hb : Nat} {li : Int} {s k : List Int} {W : World} (h : InK w0 sl N kb Lb Nb Cb Hb li s k W) (_hH : w0.heap.size + 4 < Hb) (hL : w0.heap.size + 4 < Lb) (hNb : w0.heap.size + 4 < Nb) (hCb : w0.heap.size + 4 < Cb) (x : Nat) (hx : x ≤ N) :
    InK w0 sl N kb Lb Nb Cb Hb li ((x : Int) :: s) k ((W.setCell ⟨w0.heap.size + 1, x, none⟩ (.int .i64 1)).setCell ⟨w0.heap.size + 3, 0, none⟩ (.int .i64 ((s.length : Int) + 1))) := by
  have hs : (W.setCell ⟨w0.heap.size + 1, x, none⟩ (.int .i64 1)).heap[w0.heap.size + 1]? = some (.cells (countV N ((x : Int) :: s)) 3) := by
    rw [← countV_set N s x hx]
    exact heap_setCell_same W (w0.heap.size + 1) x (countV N s) 3 (.int .i64 1) h.seen
  refine ⟨boxed_st (boxed_st h.cb0 (by omega) _ _) (by omega) _ _, (heap_setCell_other _ ⟨_, _, none⟩ _ _ (by show w0.heap.size + 1 ≠ w0.heap.size + 3; omega)).trans hs, boxed_st (boxed_st h.seenb (by omega) _ _) (by omega) _ _, ?_, ?_, boxed_st (boxed_st h.lb (by omega) _ _) (by omega) _ _, boxed_st (boxed_st h.nb (by omega) _ _) (by omega) _ _, boxed_st (boxed_st h.cb (by omega) _ _) (by omega) _ _, (h.below.setCell (p := ⟨_, _, none⟩) (by show w0.heap.size ≤ w0.heap.size + 1; omega) _).setCell (p := ⟨_, _, none⟩) (by show w0.heap.size ≤ w0.heap.size + 3; omega) _, by have := h.len; simp; omega⟩
  · have := (boxed_st h.many (by omega) x (.int .i64 1) (g := w0.heap.size + 1)).set (.int .i64 ((s.length : Int) + 1))
    rw [List.length_cons, show ((s.length + 1 : Nat) : Int) = (s.length : Int) + 1 by omega]
    exact this
  · obtain ⟨ao, c, k1, k2, k3⟩ := h.keys
    have n1 := own_not k2 h.seen (by decide)
    have n3 := own_not k2 h.many (by decide)
    refine ⟨ao, c, boxed_st (boxed_st k1 (by omega) _ _) (by omega) _ _, ownsRow_at k2 (fun g hg => ?_), k3⟩
    refine (heap_setCell_other _ ⟨_, _, none⟩ _ _ (by show g ≠ w0.heap.size + 3; intro e; subst e; exact n3 hg)).trans (heap_setCell_other _ ⟨_, _, none⟩ _ _ (by show g ≠ w0.heap.size + 1; intro e; subst e; exact n1 hg))
/-- .. and its key put in -/
theorem InK.keyed {w0 : World} {sl : Value} {N kb Lb Nb Cb Hb : Nat} {li : Int} {s k : List Int} {W w1 : World} (h : InK w0 sl N kb Lb Nb Cb Hb li s k W) (hH : w0.heap.size + 4 < Hb) (hL : w0.heap.size + 4 < Lb) (hNb : w0.heap.size + 4 < Nb) (hCb : w0.heap.size + 4 < Cb) (hkb : kb = Hb + 1) (hlen : k.length < s.length) (v0 : Value) (hx : Boxed W Hb 2 v0)
    (ao : Option Addr) (c : Nat) (k1 : Boxed W (w0.heap.size + 4) 23 (.slice ao k.length c)) (k2 : Own W kb (.slice ao k.length c) k) (k3 : (Value.slice ao k.length c).ownBlock ≠ some Hb) (y : Int) (ao' : Option Addr) (c' : Nat) (tmp : Obj) (hown : Own w1 kb (.slice ao' (k ++ [y]).length c') (k ++ [y])) (hgrow : (W.alloc tmp).grownBy w1 (Value.slice ao k.length c).ownBlock) :
    InK w0 sl N kb Lb Nb Cb Hb li s (k ++ [y]) (w1.setCell ⟨w0.heap.size + 4, 0, none⟩ (.slice ao' (k ++ [y]).length c')) ∧ KeepsOthers W (w1.setCell ⟨w0.heap.size + 4, 0, none⟩ (.slice ao' (k ++ [y]).length c')) ∧ Boxed (w1.setCell ⟨w0.heap.size + 4, 0, none⟩ (.slice ao' (k ++ [y]).length c')) Hb 2 v0 := by
  have hsz := h.below.size
  have hHW := hx.lt
  have hle : w0.heap.size ≤ kb := by omega
  obtain ⟨hv1, hv2, hr2, hk2, hb2⟩ := k1.appended (by decide) (k2.lower hle) (by omega) (by omega) (hown.lower hle) hgrow
  have up : ∀ {B : Nat} {t : TypeId} {v : Value}, Boxed W B t v → t ≠ 2 → B ≠ w0.heap.size + 4 → Boxed (w1.setCell ⟨w0.heap.size + 4, 0, none⟩ (.slice ao' (k ++ [y]).length c')) B t v := fun hb ht hne =>
    boxed_st ((hb.alloc tmp).kept hgrow (fun e => own_not k2 hb ht e.symm)) hne _ _
  refine ⟨⟨up h.cb0 (by decide) (by omega), ?_, up h.seenb (by decide) (by omega), up h.many (by decide) (by omega), ⟨ao', c', hv2, ?_, fun e => ?_⟩, up h.lb (by decide) (by omega), up h.nb (by decide) (by omega), up h.cb (by decide) (by omega), h.below.trans hb2, by simp; omega⟩, hk2, ?_⟩
  · refine (heap_setCell_other _ ⟨_, _, none⟩ _ _ (by show w0.heap.size + 1 ≠ w0.heap.size + 4; omega)).trans ?_
    have hlt := lt_of_block h.seen
    refine (hgrow.block _ (by simp; omega) (fun e => own_not k2 h.seen (by decide) e.symm)).trans ((Below.heap_alloc _ _ _ hlt).trans h.seen)
  · refine ownsRow_at hown (fun g hg => heap_setCell_other _ ⟨_, _, none⟩ _ _ (by show g ≠ w0.heap.size + 4; intro e; subst e; exact own_not hown hv1 (by decide) hg))
  · have := own_ge hown e
    omega
  · exact boxed_st ((hx.alloc tmp).kept hgrow (fun e => k3 e.symm)) (by omega) _ _
theorem InX.grown {w0 : World} {sl : Value} {W W' : World} {row : Option Nat} (h : InX w0 sl W) (hg : W.grownBy W' row) (hr : ∀ j, row = some j → ∃ o, W.heap[j]? = some o ∧ o.isCells = false) (hr2 : ∀ j, row = some j → w0.heap.size ≤ j) : InX w0 sl W' := by
  obtain ⟨ao, n, c, hk⟩ := h.keys
  have hr' : ∀ j, row = some j → (j = w0.heap.size + 1 ∨ ∃ o, W.heap[j]? = some o ∧ o.isCells = false) := fun j e => .inr (hr j e)
  exact ⟨boxed_row h.cb0 hg (by omega) hr', boxed_row h.many hg (by omega) hr', ⟨ao, n, c, boxed_row hk hg (by omega) hr'⟩, h.below.grown hg h.below.size hr2⟩
theorem InK.broken {w0 : World} {sl : Value} {N kb Lb Nb Cb Hb : Nat} {li : Int} {s k : List Int} {W : World} (h : InK w0 sl N kb Lb Nb Cb Hb li s k W) : InX w0 sl (W.setCell ⟨w0.heap.size + 3, 0, none⟩ (.int .i64 (-1))) := by
  obtain ⟨ao, c, k1, _⟩ := h.keys
  exact ⟨boxed_st h.cb0 (by omega) _ _, h.many.set _, ⟨ao, _, c, boxed_st k1 (by omega) _ _⟩, h.below.setCell (p := ⟨_, _, none⟩) (by show w0.heap.size ≤ w0.heap.size + 3; omega) _⟩
set_option maxHeartbeats 8000000 in
theorem keysOf_any (b o c N : Nat) (z : Nat → Int) (w : World) (h1 : 1 ≤ N) (h60 : N ≤ 60) (hc : 3 + 2 * N ≤ c) (hcm : c ≤ maxLen) (hz : ∀ j, j < 3 + 2 * N → w.cell? ⟨b, o + j, none⟩ = some (.int .i64 (z j))) :
    Calls Tryz.prog 27 #[.slice (some ⟨b, o, none⟩) (3 + 2 * N) c, .int .i64 N] w fun e w' => ∃ v ok, e = .returned (.tuple #[v, .bool ok]) ∧
      (match keysP (fun x => z (1 + 2 * x.toNat)) (fun x => z (2 + 2 * x.toNat)) N (z 0) (z 1) (z 2) with | some k => ok = true ∧ Own w' w.heap.size v k | none => ok = false) ∧ Below w.heap.size w w' := by
  obtain ⟨L, hL⟩ : ∃ L, L = 3 + 2 * N := ⟨_, rfl⟩
  rw [← hL]
  have hmk := fun w => makeInts (N + 1) (by omega) w
  rw [show ((N + 1 : Nat) : Int) = (N : Int) + 1 by omega] at hmk
  unfold maxLen at hcm
  have hL2 : (2 : Int) ≤ (c : Int) := by omega
  have hL3 : 3 ≤ L := by omega
  have HL := Lib.hid hL
  have HZ := Lib.hid (show ∀ W, Below w.heap.size w W → ∀ j, j < L → W.cell? ⟨b, o + j, none⟩ = some (.int .i64 (z j)) from fun W hB j hj => (hB.cell (p := ⟨b, o + j, none⟩) (block_lt_of_cell (hz j (by omega)))).trans (hz j (by omega)))
  have HS := Lib.hid (BaseK.start w (.slice (some ⟨b, o, none⟩) L c) N)
  have HS2 := Lib.hid (BaseK.start4 w (.slice (some ⟨b, o, none⟩) L c) N)
  clear hL hz
  refine (callsIn_wide (n := 3)).1 ?_
  refine callsIn_of_wp_marks Tryz.func27 rfl trivial ?_ rfl
  simp only [Tryz.ntmps27, List.size_toArray, List.length_cons, List.length_nil, Nat.reduceAdd, Nat.reduceSub, Array.replicate_succ, Array.replicate_zero, List.push_toArray, List.append_toArray, List.nil_append, List.cons_append]
  gi_step
  gi_wp2
  refine wpIn_scope_straight ?_
  gi_wp2_with (gi_at_make; refine wpListIn_makeV rfl _ _ _ rfl _ _ _ _ rfl rfl (hmk _) ?_)
  refine wpIn_gen (fun W => BaseK w (.slice (some ⟨b, o, none⟩) L c) N [] [] W ∧ Boxed W (w.heap.size + 4) 23 (.slice none 0 0)) ⟨HS.out, HS2.out⟩ ?_
  rintro W ⟨hBK, hnil⟩
  have q0 := hBK.cb0.cell
  have q1 := HZ.out W hBK.below 0 (by omega)
  rw [Nat.add_zero] at q1
  have q2 := (hBK.cb0.alloc (.cells #[.int .i64 0] 3)).cell
  have hsz : w.heap.size + 4 < W.heap.size := hnil.lt
  have HIN := Lib.hid (hBK.into 0 (z 0) (W.heap.size + 1 + 1 + 1 + 1) (.inr ⟨rfl, hnil⟩))
  have HBK := Lib.hid hBK
  clear hBK hnil
  refine wpIn_label ?_
  gi_wp2
  refine wpIn_loop_rounds 3 ?_
  rw [roundsIn_succ]
  gi_wp2_with (refine ⟨trivial, ?_⟩; gi_at_call 39; refine (callsIn_wide.2 (nodes_any _ _ _ _ _ _)).mono ?_; rintro e w1 ⟨rfl, rfl⟩)
  refine wpIn_nodes 11 (fun x => z (1 + 2 * x.toNat)) (fun x => z (2 + 2 * x.toNat)) true N (W.heap.size + 1 + 1 + 1) (W.heap.size + 1 + 1) (W.heap.size + 1) b o c L h60 HL.out ?c0 (InK w (.slice (some ⟨b, o, none⟩) L c) N (W.heap.size + 1 + 1 + 1 + 1) W.heap.size (W.heap.size + 1 + 1) (W.heap.size + 1) (W.heap.size + 1 + 1 + 1) 0) (InX w (.slice (some ⟨b, o, none⟩) L c)) ?c1 ?c2 ?c3 ?c4 ?c5 (z 0) [] [] ?c12 ?c6 ?c7 ?c8 ?c9 ?c10 ?c11
  case c0 => rfl
  case c12 => exact HIN.out
  case c1 => exact fun s k X o h => h.grown (by omega) (by omega) (by omega) (by omega) (World.grownBy_alloc X o none) (by simp) (by simp)
  case c2 => exact fun s k X l o o' h hl ho hc => h.grown (by omega) (by omega) (by omega) (by omega) (grownBy_putObj' X l o') (fun j e => by cases e; exact .inr ⟨o, ho, hc⟩) (fun j e => by cases e; simp at hl; omega)
  case c3 => exact fun X l o o' h hl ho hc => h.grown (grownBy_putObj' X l o') (fun j e => by cases e; exact ⟨o, ho, hc⟩) (fun j e => by cases e; simp at hl; omega)
  case c4 => exact fun s k X v h => h.grown (by omega) (by omega) (by omega) (by omega) (grownBy_setCell' X _ v) (fun j e => by cases e; exact .inl rfl) (fun j e => by cases e; omega)
  case c5 => exact fun s k X h => ⟨h.nb.cell, h.cb.cell, fun x h1 h2 => by simpa using HZ.out X h.below (2 + 2 * x) (by rw [HL.out]; omega)⟩
  case c6 =>
    have := Boxed.new (((W.alloc (.cells #[.int .i64 0] 3)).alloc (.cells #[.slice (some ⟨b, o, none⟩) L c] 23)).alloc (.cells #[.int .i64 N] 3)) 2 (.int .i64 (z 0))
    simp only [World.size_alloc] at this
    exact this
  case c7 =>
    intro l x X K hK
    simp only [List.setIfInBounds_toArray, List.set_cons_succ, List.set_cons_zero] at hK ⊢
    gi_wp2
    exact hK
  case c8 =>
    intro l s k X h
    have m1 := h.many.cell
    have m2 := h.many.frozen
    have HX := Lib.hid h
    clear h
    simp only [List.setIfInBounds_toArray, List.set_cons_succ, List.set_cons_zero]
    gi_wp2
    exact ⟨rfl, KeepsOthers.setCell _ _ _, HX.out.broken⟩
  case c9 =>
    intro l s k x X hsl h hx1 hx2 hHb
    have m1 := h.many.cell
    have m2 := h.many.frozen
    have m3 := h.seenb.cell
    have m4 := h.cb0.cell
    have m5 := h.lb.cell
    have m6 : X.cell? ⟨w.heap.size + 1, x, none⟩ = some (.int .i64 (if (x : Int) ∈ s then 1 else 0)) := (cell_of_row X _ x _ _ (0, 0) h.seen).trans (countV_at N s x hx2)
    have m7 : X.frozen? ⟨w.heap.size + 1, x, none⟩ = false := frozen_of_row X _ x _ _ h.seen
    have HX := Lib.hid h
    have HHB := Lib.hid hHb
    clear h hHb
    simp only [List.setIfInBounds_toArray, List.set_cons_succ, List.set_cons_zero]
    by_cases hm : (x : Int) ∈ s
    · rw [if_pos hm] at m6
      have HM := Lib.hid hm
      clear hm
      gi_wp2
      exact ⟨rfl, KeepsOthers.setCell _ _ _, .inl HM.out, HX.out.broken⟩
    · rw [if_neg hm] at m6
      have hC := HX.out.counted (by omega) (by omega) (by omega) (by omega) x hx2
      have hHb2 := boxed_st (boxed_st HHB.out (show W.heap.size + 1 + 1 + 1 ≠ w.heap.size + 1 by omega) x (.int .i64 1)) (show W.heap.size + 1 + 1 + 1 ≠ w.heap.size + 3 by omega) 0 (.int .i64 ((s.length : Int) + 1))
      have m8 := HZ.out _ hC.below (1 + 2 * x) (by rw [HL.out]; omega)
      obtain ⟨ao, ck, k1, k2, k3⟩ := hC.keys
      have m9 := k1.cell
      have m10 := k1.frozen
      have m11 := hC.cb0.cell
      have m12 := hC.lb.cell
      have HC := Lib.hid hC
      have HM := Lib.hid hm
      have hsb : (s.length : Int) ≤ 61 := by simp at hsl; omega
      have hkl : k.length ≤ s.length := HX.out.len
      have hb5 : 1 + 2 * (x : Int) < (L : Int) := by rw [HL.out]; omega
      have hXH := HHB.out.lt
      have hnc := (Boxed.new ((X.setCell ⟨w.heap.size + 1, x, none⟩ (.int .i64 1)).setCell ⟨w.heap.size + 3, 0, none⟩ (.int .i64 ((s.length : Int) + 1))) 2 (.int .i64 (z (1 + 2 * x)))).cell
      simp only [World.size_setCell] at hnc
      have HNC := Lib.hid hnc
      clear hnc
      have K1 := Lib.hid k1
      have K2 := Lib.hid k2
      have K3 := Lib.hid k3
      have HH2 := Lib.hid hHb2
      clear hm hC hHb2
      by_cases hk0 : k = []
      · subst hk0
        clear k1 k2 k3
        gi_wp2_with (gi_at_builtin; refine held ?_)
        unfold Held
        refine wpListIn_append64 (K2.out.below ((Below.refl _ _).alloc (Nat.le_refl _) _)) (by simp; omega) (z (1 + 2 * x)) X.heap.size HNC.out (by simp) rfl _ _ rfl rfl rfl ?_
        intro v' w1 hown hgrow
        obtain ⟨ao', c', rfl, -⟩ := hown.slice
        obtain ⟨hIK, hKO, hHB⟩ := HC.out.keyed (by omega) (by omega) (by omega) (by omega) rfl (by simp) _ HH2.out ao ck K1.out K2.out K3.out (z (1 + 2 * x)) ao' c' _ hown hgrow
        have n0 := (K1.out.alloc _).kept hgrow (fun e => own_not K2.out K1.out (by decide) e.symm)
        have n1 := n0.cell
        have n2 := n0.frozen
        gi_wp2
        refine ⟨((KeepsOthers.setCell _ _ _).trans (KeepsOthers.setCell _ _ _)).trans hKO, ?_, ?_, hHB⟩
        · rintro (h | h)
          · exact HM.out h
          · exact h.2.1 rfl
        · simpa using hIK
      · obtain ⟨K, hK⟩ : ∃ K, k.length = K + 1 := ⟨k.length - 1, by have := List.length_pos_iff.2 hk0; omega⟩
        obtain ⟨y, hy⟩ : ∃ y, k[K]? = some y := ⟨_, List.getElem?_eq_getElem (by omega)⟩
        have hlast : k.getD (k.length - 1) 0 = y := by rw [hK, Nat.add_sub_cancel, List.getD_eq_getElem?_getD, hy]; rfl
        obtain ⟨ao1, c1, e1, -, -, hbal⟩ := k2.slice
        injection e1 with e2 e3 e4
        subst e2; subst e4
        clear e3
        obtain ⟨g, rfl, hbal2⟩ := hbal (by omega)
        have hgW : W.heap.size + 1 + 1 + 1 + 1 ≤ g := hbal2.lt.2
        have hcy2 := hbal2.cell K hy
        have hcy : X.cell? ⟨g, K, none⟩ = some (.int .i64 y) := by
          rw [← hcy2]
          unfold World.cell?
          rw [heap_setCell_other _ ⟨_, _, none⟩ g _ (by show g ≠ w.heap.size + 3; omega), heap_setCell_other _ ⟨_, _, none⟩ g _ (by show g ≠ w.heap.size + 1; omega)]
        have HLA := Lib.hid hlast
        have HK0 := Lib.hid hk0
        have HKL := Lib.hid hK
        have hKb : K ≤ 100 := by omega
        rw [hK] at m9
        clear k1 k2 k3 hbal hbal2 hcy2 hy hlast hk0 hK
        by_cases hge : z (1 + 2 * x) ≤ y
        · gi_wp2
          exact ⟨rfl, ((KeepsOthers.setCell _ _ _).trans (KeepsOthers.setCell _ _ _)).trans (KeepsOthers.setCell _ _ _), .inr ⟨rfl, HK0.out, by rw [HLA.out]; simpa using hge⟩, HC.out.broken⟩
        · have hd : decide (z (1 + 2 * x) ≤ y) = false := by simpa using hge
          have hlt : y < z (1 + 2 * x) := by omega
          have HGE := Lib.hid hge
          clear hge
          gi_wp2_with (gi_at_builtin; refine held ?_)
          unfold Held
          refine wpListIn_append64 (K2.out.below ((Below.refl _ _).alloc (Nat.le_refl _) _)) (by simp; omega) (z (1 + 2 * x)) X.heap.size HNC.out (by omega) rfl _ _ rfl (by show _ = Value.slice (some ⟨g, 0, none⟩) k.length ck; rw [HKL.out]; rfl) rfl ?_
          intro v' w1 hown hgrow
          obtain ⟨ao', c', rfl, -⟩ := hown.slice
          obtain ⟨hIK, hKO, hHB⟩ := HC.out.keyed (by omega) (by omega) (by omega) (by omega) rfl (by simp; omega) _ HH2.out _ ck K1.out K2.out K3.out (z (1 + 2 * x)) ao' c' _ hown hgrow
          have n0 := (K1.out.alloc _).kept hgrow (fun e => own_not K2.out K1.out (by decide) e.symm)
          have n1 := n0.cell
          have n2 := n0.frozen
          gi_wp2
          have el : (k ++ [z (1 + 2 * x)]).length = k.length + 1 := by simp
          rw [el] at hKO hHB hIK
          refine ⟨((KeepsOthers.setCell _ _ _).trans (KeepsOthers.setCell _ _ _)).trans hKO, ?_, ?_, hHB⟩
          · rintro (h | h)
            · exact HM.out h
            · have := h.2.2
              rw [HLA.out] at this
              have h2 : z (1 + 2 * x) ≤ y := by simpa using this
              have := HGE.out
              omega
          · simpa using hIK
  case c10 =>
    intro D s k X hD hgo hsl hI hKd
    clear HIN HBK q0 q1 q2
    have hDw : w.heap.size ≤ D := by simp at hD; omega
    have hB := hI.base (by omega)
    have hs61 : s.length ≤ N + 1 := by simpa using hsl
    have q0 := hB.cb0.cell
    have q1 := HZ.out X hB.below 1 (by omega)
    have q2 := (hB.cb0.alloc (.cells #[.int .i64 1] 3)).cell
    have hDX := lt_of_block hKd
    have hszX : w.heap.size + 4 < X.heap.size := by obtain ⟨_, _, h, _⟩ := hB.keys; exact h.lt
    have HIN := Lib.hid (hB.into 1 (z 1) w.heap.size (.inl rfl))
    have HGO := Lib.hid hgo
    have HKD := Lib.hid hKd
    clear hB hI hgo hKd hsl
    gi_wp2
    rw [roundsIn_succ]
    gi_wp2_with (refine ⟨trivial, ?_⟩; gi_at_call 39; refine (callsIn_wide.2 (nodes_any _ _ _ _ _ _)).mono ?_; rintro e w1 ⟨rfl, rfl⟩)
    refine wpIn_nodes 11 (fun x => z (1 + 2 * x.toNat)) (fun x => z (2 + 2 * x.toNat)) false N (X.heap.size + 1 + 1 + 1) (X.heap.size + 1 + 1) (X.heap.size + 1) b o c L h60 HL.out ?d0 (fun s k W => InK w (.slice (some ⟨b, o, none⟩) L c) N w.heap.size X.heap.size (X.heap.size + 1 + 1) (X.heap.size + 1) (X.heap.size + 1 + 1 + 1) 1 s k W ∧ W.heap[D]? = some (.deferred (some []))) (fun W => InX w (.slice (some ⟨b, o, none⟩) L c) W ∧ W.heap[D]? = some (.deferred (some []))) ?d1 ?d2 ?d3 ?d4 ?d5 (z 1) s k ?d12 ?d6 ?d7 ?d8 ?d9 ?d10 ?d11
    case d0 => rfl
    case d12 => exact ⟨HIN.out, (Below.heap_alloc _ _ _ (by simp; omega)).trans ((Below.heap_alloc _ _ _ (by simp; omega)).trans ((Below.heap_alloc _ _ _ (by simp; omega)).trans ((Below.heap_alloc _ _ _ hDX).trans HKD.out)))⟩
    case d1 => exact fun s k Y o h => ⟨h.1.grown (by omega) (by omega) (by omega) (by omega) (World.grownBy_alloc Y o none) (by simp) (by simp), (Below.heap_alloc _ _ _ (lt_of_block h.2)).trans h.2⟩
    case d2 => exact fun s k Y l o o' h hl ho hc => ⟨h.1.grown (by omega) (by omega) (by omega) (by omega) (grownBy_putObj' Y l o') (fun j e => by cases e; exact .inr ⟨o, ho, hc⟩) (fun j e => by cases e; simp at hl; omega), (World.putObj_heap_other (by simp at hl; omega)).trans h.2⟩
    case d3 => exact fun Y l o o' h hl ho hc => ⟨h.1.grown (grownBy_putObj' Y l o') (fun j e => by cases e; exact ⟨o, ho, hc⟩) (fun j e => by cases e; simp at hl; omega), (World.putObj_heap_other (by simp at hl; omega)).trans h.2⟩
    case d4 => exact fun s k Y v h => ⟨h.1.grown (by omega) (by omega) (by omega) (by omega) (grownBy_setCell' Y _ v) (fun j e => by cases e; exact .inl rfl) (fun j e => by cases e; omega), (heap_setCell_other _ ⟨_, _, none⟩ _ _ (by show D ≠ X.heap.size + 1 + 1 + 1; omega)).trans h.2⟩
    case d5 => exact fun s k Y h => ⟨h.1.nb.cell, h.1.cb.cell, fun x h1 h2 => by simpa using HZ.out Y h.1.below (2 + 2 * x) (by rw [HL.out]; omega)⟩
    case d6 =>
      have := Boxed.new (((X.alloc (.cells #[.int .i64 1] 3)).alloc (.cells #[.slice (some ⟨b, o, none⟩) L c] 23)).alloc (.cells #[.int .i64 N] 3)) 2 (.int .i64 (z 1))
      simp only [World.size_alloc] at this
      exact this
    case d7 =>
      intro l x Y K hK
      simp only [List.setIfInBounds_toArray, List.set_cons_succ, List.set_cons_zero] at hK ⊢
      gi_wp2
      exact hK
    case d8 =>
      intro l s k Y h
      have m1 := h.1.many.cell
      have m2 := h.1.many.frozen
      have HX := Lib.hid h
      clear h
      simp only [List.setIfInBounds_toArray, List.set_cons_succ, List.set_cons_zero]
      gi_wp2
      exact ⟨rfl, KeepsOthers.setCell _ _ _, HX.out.1.broken, (KeepsOthers.setCell _ _ _).same _ _ HX.out.2 rfl⟩
    case d9 =>
      intro l s' k x Y hsl h hx1 hx2 hHb
      have m1 := h.1.many.cell
      have m2 := h.1.many.frozen
      have m3 := h.1.seenb.cell
      have m4 := h.1.cb0.cell
      have m5 := h.1.lb.cell
      have m6 : Y.cell? ⟨w.heap.size + 1, x, none⟩ = some (.int .i64 (if (x : Int) ∈ s' then 1 else 0)) := (cell_of_row Y _ x _ _ (0, 0) h.1.seen).trans (countV_at N s' x hx2)
      have m7 : Y.frozen? ⟨w.heap.size + 1, x, none⟩ = false := frozen_of_row Y _ x _ _ h.1.seen
      have HX := Lib.hid h
      have HHB := Lib.hid hHb
      clear h hHb
      simp only [List.setIfInBounds_toArray, List.set_cons_succ, List.set_cons_zero]
      by_cases hm : (x : Int) ∈ s'
      · rw [if_pos hm] at m6
        have HM := Lib.hid hm
        clear hm
        gi_wp2
        exact ⟨rfl, KeepsOthers.setCell _ _ _, .inl HM.out, HX.out.1.broken, (KeepsOthers.setCell _ _ _).same _ _ HX.out.2 rfl⟩
      · rw [if_neg hm] at m6
        have hC := HX.out.1.counted (by omega) (by omega) (by omega) (by omega) x hx2
        have hHb2 := boxed_st (boxed_st HHB.out (show X.heap.size + 1 + 1 + 1 ≠ w.heap.size + 1 by omega) x (.int .i64 1)) (show X.heap.size + 1 + 1 + 1 ≠ w.heap.size + 3 by omega) 0 (.int .i64 ((s'.length : Int) + 1))
        have m8 := HZ.out _ hC.below (1 + 2 * x) (by rw [HL.out]; omega)
        have m11 := hC.cb0.cell
        have m12 := hC.lb.cell
        have HC := Lib.hid hC
        have HM := Lib.hid hm
        have HH2 := Lib.hid hHb2
        have hsb : (s'.length : Int) ≤ 200 := by omega
        have hb5 : 1 + 2 * (x : Int) < (L : Int) := by rw [HL.out]; omega
        clear hm hC hHb2
        gi_wp2
        refine ⟨(KeepsOthers.setCell _ _ _).trans (KeepsOthers.setCell _ _ _), ?_, ⟨?_, ?_⟩, HH2.out⟩
        · rintro (h | h)
          · exact HM.out h
          · cases h.1
        · exact HC.out
        · exact ((KeepsOthers.setCell _ _ _).trans (KeepsOthers.setCell _ _ _)).same _ _ HX.out.2 rfl
    case d10 =>
      intro D2 s2 k2 X2 hD2 hgo2 hsl2 hI2 hKd2
      have hB2 := hI2.1.base (Nat.le_refl _)
      obtain ⟨ao2, c2, k1, ko⟩ := hB2.keys
      have p0 := hB2.cb0.cell
      have p1 := hB2.many.cell
      have p2 := k1.cell
      have p3 := HZ.out X2 hB2.below 2 (by omega)
      have hne : D2 ≠ D := by simp at hD2; omega
      have hD2w : w.heap.size ≤ D2 := by simp at hD2; omega
      have HB2 := Lib.hid hB2
      have HKO := Lib.hid ko
      have HK1 := Lib.hid hI2.2
      have HK2 := Lib.hid hKd2
      have HGO2 := Lib.hid hgo2
      have HDs := Lib.hid (show D2 ≠ D ∧ w.heap.size ≤ D ∧ w.heap.size ≤ D2 from ⟨hne, hDw, hD2w⟩)
      clear hB2 k1 ko hI2 hKd2 hgo2 hsl2 hne hD2w hD2 HIN q0 q1 q2
      gi_wp2
      rw [roundsIn_succ]
      gi_wp2
      refine wpIn_wide.2 ?_
      have hKP : keysP (fun x => z (1 + 2 * x.toNat)) (fun x => z (2 + 2 * x.toNat)) N (z 0) (z 1) (z 2) = if s2.length = N ∧ z 2 = k2.length then some k2 else none := by
        unfold keysP
        rw [HGO.out]
        simp only
        rw [HGO2.out]
      have HKP := Lib.hid hKP
      have fin : ∀ (W5 : World) (ok : Bool), W5.heap = X2.heap → W5.os = X2.os → W5.tape = X2.tape → W5.output = X2.output → ok = decide (s2.length = N ∧ z 2 = k2.length) → ∀ (tm : Array Value), tm[4]? = some (.slice ao2 k2.length c2) → tm[5]? = some (.bool ok) →
          LeavesInM Fence.wide 3 Tryz.prog Tryz.f27 tm (fun e w' => ∃ v ok, e = .returned (.tuple #[v, .bool ok]) ∧ (match keysP (fun x => z (1 + 2 * x.toNat)) (fun x => z (2 + 2 * x.toNat)) N (z 0) (z 1) (z 2) with | some k => ok = true ∧ Own w' w.heap.size v k | none => ok = false) ∧ Below w.heap.size w w') [{ target := .collected D2, args := #[] }, { target := .collected D, args := #[] }] .returning W5 := by
        intro W5 ok e1 e2 e3 e4 hok tm t4 t5
        obtain ⟨n1, n2, n3⟩ := HDs.out
        have hg1 := grownBy_putObj' W5 D2 (.deferred none)
        have hg2 := grownBy_putObj' (W5.putObj D2 (.deferred none)) D (.deferred none)
        have hk1 : W5.heap[D]? = some (.deferred (some [])) := by rw [e1]; exact HK1.out
        have hk2 : W5.heap[D2]? = some (.deferred (some [])) := by rw [e1]; exact HK2.out
        have hk3 : (W5.putObj D2 (.deferred none)).heap[D]? = some (.deferred (some [])) := (World.putObj_heap_other (fun e => n1 e.symm)).trans hk1
        refine ⟨by simp, .inl ⟨_, _, rfl, run_takeDeferred hk2, ?_⟩⟩
        refine ⟨by simp, .inl ⟨_, _, rfl, run_takeDeferred hk3, ?_⟩⟩
        have hB5 : Below w.heap.size w W5 := ⟨e2.trans HB2.out.below.os, e3.trans HB2.out.below.tape, e4.trans HB2.out.below.output, by rw [e1]; exact HB2.out.below.size, fun k hk => by rw [e1]; exact HB2.out.below.block k hk⟩
        have hB6 := (hB5.grown hg1 hB5.size (fun k e => by cases e; exact n3)).grown hg2 ((hB5.grown hg1 hB5.size (fun k e => by cases e; exact n3)).size) (fun k e => by cases e; exact n2)
        have ho5 : Own W5 w.heap.size (.slice ao2 k2.length c2) k2 := ownsRow_at HKO.out (fun g _ => by rw [e1])
        have ho6 : Own ((W5.putObj D2 (.deferred none)).putObj D (.deferred none)) w.heap.size (.slice ao2 k2.length c2) k2 := ownsRow_putObj (ownsRow_putObj ho5 _ hk2 rfl) _ hk3 rfl
        refine ⟨_, results_tmp2 rfl _ _ _, ?_⟩
        have g4 : tm.getD 4 undef = .slice ao2 k2.length c2 := by simp [Array.getD_eq_getD_getElem?, t4]
        have g5 : tm.getD 5 undef = .bool ok := by simp [Array.getD_eq_getD_getElem?, t5]
        refine ⟨_, _, by rw [g4, g5], ?_, hB6⟩
        rw [HKP.out, hok]
        by_cases h : s2.length = N ∧ z 2 = k2.length
        · rw [if_pos h, decide_eq_true h]
          exact ⟨rfl, ho6⟩
        · rw [if_neg h, decide_eq_false h]
      have HFIN := Lib.hid fin
      clear fin hKP
      by_cases hm : s2.length = N
      · have g1 : ((s2.length : Int) == (N : Int)) = true := by simp; omega
        by_cases hz2 : z 2 = k2.length
        · have g2 : (z 2 == (k2.length : Int)) = true := by simpa using hz2
          have HM := Lib.hid hm
          have HZ2 := Lib.hid hz2
          clear hm hz2
          go_quiet (fail)
          gi_wp2
          rw [Exit.noGoto_ret]
          gi_step
          refine HFIN.out _ true ?_ ?_ ?_ ?_ (by simp [HM.out, HZ2.out]) _ ?_ ?_ <;> rfl
        · have g2 : (z 2 == (k2.length : Int)) = false := by simpa using hz2
          have HZ2 := Lib.hid hz2
          clear hm hz2
          go_quiet (fail)
          gi_wp2
          rw [Exit.noGoto_ret]
          gi_step
          refine HFIN.out _ false ?_ ?_ ?_ ?_ (by simp [HZ2.out]) _ ?_ ?_ <;> rfl
      · have g1 : ((s2.length : Int) == (N : Int)) = false := by simp; omega
        have HM := Lib.hid hm
        clear hm
        go_quiet (fail)
        gi_wp2
        rw [Exit.noGoto_ret]
        gi_step
        refine HFIN.out _ false ?_ ?_ ?_ ?_ (by simp [HM.out]) _ ?_ ?_ <;> rfl
    case d11 =>
      intro D2 X2 hD2 hgo2 hI2 hKd2
      obtain ⟨ao2, n2, c2, k1⟩ := hI2.1.keys
      have p0 := hI2.1.cb0.cell
      have p1 := hI2.1.many.cell
      have p2 := k1.cell
      have g1 : ((-1 : Int) == (N : Int)) = false := by simp <;> omega
      have hne : D2 ≠ D := by simp at hD2; omega
      have hD2w : w.heap.size ≤ D2 := by simp at hD2; omega
      have hKP : keysP (fun x => z (1 + 2 * x.toNat)) (fun x => z (2 + 2 * x.toNat)) N (z 0) (z 1) (z 2) = none := by
        unfold keysP
        rw [HGO.out]
        simp only
        rw [hgo2]
      have fin : ∀ (W5 : World), W5.heap = X2.heap → W5.os = X2.os → W5.tape = X2.tape → W5.output = X2.output → ∀ (tm : Array Value), tm[5]? = some (.bool false) →
          LeavesInM Fence.wide 3 Tryz.prog Tryz.f27 tm (fun e w' => ∃ v ok, e = .returned (.tuple #[v, .bool ok]) ∧ (match keysP (fun x => z (1 + 2 * x.toNat)) (fun x => z (2 + 2 * x.toNat)) N (z 0) (z 1) (z 2) with | some k => ok = true ∧ Own w' w.heap.size v k | none => ok = false) ∧ Below w.heap.size w w') [{ target := .collected D2, args := #[] }, { target := .collected D, args := #[] }] .returning W5 := by
        intro W5 e1 e2 e3 e4 tm t5
        have hg1 := grownBy_putObj' W5 D2 (.deferred none)
        have hg2 := grownBy_putObj' (W5.putObj D2 (.deferred none)) D (.deferred none)
        have hk1 : W5.heap[D]? = some (.deferred (some [])) := by rw [e1]; exact hI2.2
        have hk2 : W5.heap[D2]? = some (.deferred (some [])) := by rw [e1]; exact hKd2
        have hk3 : (W5.putObj D2 (.deferred none)).heap[D]? = some (.deferred (some [])) := (World.putObj_heap_other (fun e => hne e.symm)).trans hk1
        refine ⟨by simp, .inl ⟨_, _, rfl, run_takeDeferred hk2, ?_⟩⟩
        refine ⟨by simp, .inl ⟨_, _, rfl, run_takeDeferred hk3, ?_⟩⟩
        have hB := hI2.1.below
        have hB5 : Below w.heap.size w W5 := ⟨e2.trans hB.os, e3.trans hB.tape, e4.trans hB.output, by rw [e1]; exact hB.size, fun k hk => by rw [e1]; exact hB.block k hk⟩
        have hB6 := (hB5.grown hg1 hB5.size (fun k e => by cases e; exact hD2w)).grown hg2 ((hB5.grown hg1 hB5.size (fun k e => by cases e; exact hD2w)).size) (fun k e => by cases e; exact hDw)
        refine ⟨_, results_tmp2 rfl _ _ _, ?_⟩
        have g5 : tm.getD 5 undef = .bool false := by simp [Array.getD_eq_getD_getElem?, t5]
        refine ⟨_, _, by rw [g5], ?_, hB6⟩
        rw [hKP]
      have HFIN := Lib.hid fin
      clear fin hKP hgo2 hI2 hKd2 k1 hD2 hne hD2w HIN q0 q1 q2
      gi_wp2
      refine wpIn_wide.2 ?_
      go_quiet (fail)
      gi_wp2
      rw [Exit.noGoto_ret]
      gi_step
      refine HFIN.out _ ?_ ?_ ?_ ?_ _ ?_ <;> rfl
  case c11 =>
    intro D X hD hgo hI hKd
    obtain ⟨ao2, n2, c2, k1⟩ := hI.keys
    have p0 := hI.cb0.cell
    have p1 := hI.many.cell
    have p2 := k1.cell
    have g1 : ((-1 : Int) == (N : Int)) = false := by simp <;> omega
    have hDw : w.heap.size ≤ D := by simp at hD; omega
    have hKP : keysP (fun x => z (1 + 2 * x.toNat)) (fun x => z (2 + 2 * x.toNat)) N (z 0) (z 1) (z 2) = none := by
      unfold keysP
      rw [hgo]
    have fin : ∀ (W5 : World), W5.heap = X.heap → W5.os = X.os → W5.tape = X.tape → W5.output = X.output → ∀ (tm : Array Value), tm[5]? = some (.bool false) →
        LeavesInM Fence.wide 3 Tryz.prog Tryz.f27 tm (fun e w' => ∃ v ok, e = .returned (.tuple #[v, .bool ok]) ∧ (match keysP (fun x => z (1 + 2 * x.toNat)) (fun x => z (2 + 2 * x.toNat)) N (z 0) (z 1) (z 2) with | some k => ok = true ∧ Own w' w.heap.size v k | none => ok = false) ∧ Below w.heap.size w w') [{ target := .collected D, args := #[] }] .returning W5 := by
      intro W5 e1 e2 e3 e4 tm t5
      have hg1 := grownBy_putObj' W5 D (.deferred none)
      have hk1 : W5.heap[D]? = some (.deferred (some [])) := by rw [e1]; exact hKd
      refine ⟨by simp, .inl ⟨_, _, rfl, run_takeDeferred hk1, ?_⟩⟩
      have hB := hI.below
      have hB5 : Below w.heap.size w W5 := ⟨e2.trans hB.os, e3.trans hB.tape, e4.trans hB.output, by rw [e1]; exact hB.size, fun k hk => by rw [e1]; exact hB.block k hk⟩
      have hB6 := hB5.grown hg1 hB5.size (fun k e => by cases e; exact hDw)
      refine ⟨_, results_tmp2 rfl _ _ _, ?_⟩
      have g5 : tm.getD 5 undef = .bool false := by simp [Array.getD_eq_getD_getElem?, t5]
      refine ⟨_, _, by rw [g5], ?_, hB6⟩
      rw [hKP]
    have HFIN := Lib.hid fin
    clear fin hKP hgo hI hKd k1 hD HIN HBK q0 q1 q2
    gi_wp2
    refine wpIn_wide.2 ?_
    go_quiet (fail)
    gi_wp2
    rw [Exit.noGoto_ret]
    gi_step
    refine HFIN.out _ ?_ ?_ ?_ ?_ _ ?_ <;> rfl
end Go.Proofs.YtkioddgolmaaeaaGreatDoor
