/-
  quash/quashref18.Do: every call over a slice that reads as a list. Condition: at most 2^44 values.
-/
import Derived.Test.YtkioddgolmaaeaaGreatDoorSetDo
import Derived.RegionTactic
import Derived.Deep.RegionWith
import Derived.Deep.DeepCutAuto
import Derived.Deep.RegionHeld3
import Derived.BigQuiet
import Derived.Laws.OwnMore
import Derived.Deep.RegionLaw
namespace Go.Proofs.YtkioddgolmaaeaaGreatDoor
open Go.RowKit
set_option maxRecDepth 100000

theorem Told.no {w w' : World} {e : Ending} (h1 : e = .returned (.tuple #[.slice none 0 0, .slice none 0 0, .bool false])) (h2 : Below w.heap.size w w') : Told [] [] false w e w' :=
  ⟨_, _, _, _, h1, Sees.nil _ _, Sees.nil _ _, h2⟩
theorem told_one {w W : World} {D : List Int} {ao : Option Addr} {n c : Nat} {B : Nat} (h : Own W B (.slice ao n c) D) (hn : D.length = n) (hB : Below w.heap.size w W) (z : Int) :
    Told D [z] true w (.returned (.tuple #[.slice ao n c, .slice (some ⟨W.heap.size, 0, none⟩) 1 1, .bool true])) (W.alloc (.cells #[.int .i64 z] 2)) := by
  subst hn
  exact ⟨_, _, _, _, rfl, (Sees.of_own h).below ((Below.refl _ _).alloc (Nat.le_refl _) _), sees_one (heap_new _ _ _ rfl), hB.alloc hB.size _⟩
theorem told_two {w W : World} {D : List Int} {ao : Option Addr} {n c : Nat} (h : Sees W ao D) (hn : D.length = n) (hB : Below w.heap.size w W) (y z : Int) :
    Told D [y, z] true w (.returned (.tuple #[.slice ao n c, .slice (some ⟨W.heap.size, 0, none⟩) 2 2, .bool true])) (W.alloc (.cells #[.int .i64 y, .int .i64 z] 2)).drew := by
  subst hn
  refine ⟨_, _, _, _, rfl, h.below ?_, sees_two (w := (W.alloc (.cells #[.int .i64 y, .int .i64 z] 2)).drew) (heap_new _ _ _ rfl), below_drewed1 (hB.alloc hB.size _)⟩
  exact below_drewed1 ((Below.refl _ _).alloc (Nat.le_refl _) _)
/-- what the document's Do answers -/
def DoTold (zs : List Int) (n op a b x y : Int) (w : World) (e : Ending) (w' : World) : Prop := Told (doS zs n op a b x y).1 (doS zs n op a b x y).2.1 (doS zs n op a b x y).2.2 w e w'
theorem doTold_no {zs : List Int} {n op a b x y : Int} {w : World} (h : doOk zs n op a b x y = false) {e : Ending} {w' : World} (hg : Told [] [] false w e w') : DoTold zs n op a b x y w e w' := by
  unfold DoTold doS
  rw [if_neg (by rw [h]; decide)]
  exact hg
theorem doTold_yes {zs : List Int} {n op a b x y : Int} {w : World} (h : doOk zs n op a b x y = true) {e : Ending} {w' : World} {D T : List Int} (hd : deedS zs n op x = (D, T)) (hg : Told D T true w e w') : DoTold zs n op a b x y w e w' := by
  unfold DoTold doS
  rw [if_pos h, hd]
  exact hg
theorem take_snocS {l : List Int} {i : Nat} {x : Int} (h : l[i]? = some x) : l.take (i + 1) = l.take i ++ [x] := by
  obtain ⟨hl, e⟩ := List.getElem?_eq_some_iff.1 h
  rw [List.take_succ_eq_append_getElem hl, e]
theorem lessL_snoc (l : List Int) (y x : Int) : lessL (l ++ [y]) x = lessL l x ++ (if y < x then [y] else []) := by
  unfold lessL
  rw [List.filter_append]
  congr 1
  by_cases h : y < x <;> simp [h]
theorem moreL_snoc (l : List Int) (y x : Int) : moreL (l ++ [y]) x = moreL l x ++ (if x < y then [y] else []) := by
  unfold moreL
  rw [List.filter_append]
  congr 1
  by_cases h : x < y <;> simp [h]
theorem len_lessL (l : List Int) (x : Int) : (lessL l x).length ≤ l.length := List.length_filter_le _ _
theorem len_moreL (l : List Int) (x : Int) : (moreL l x).length ≤ l.length := List.length_filter_le _ _
/-- append of one number, the cell known -/
theorem wpList_append64c {w : World} {B : Nat} {v : Value} {xs : List Int} (hown : Own w B v xs) (hB : B ≤ w.heap.size) (nb : Nat) (z : Int) (hc : w.cell? ⟨nb, 0, none⟩ = some (.int .i64 z)) (hb : (xs.length + 1) * 8 ≤ 140737488355328)
    {ops : Array Oper} {Q : Exit → Act → World → Prop} {a : Act} {rest : List Oper} {o : Oper} (hgd : o.guard = none) (s x : Operand) (hop : o.op = Op.call { callee := Callee.builtin Builtin.append, args := #[s, x], argTypes := #[23, 23] })
    (ev : a.eval s = v) (hx : a.eval x = .slice (some ⟨nb, 0, none⟩) 1 1)
    (hK : ∀ v' w', Own w' B v' (xs ++ [z]) → w.grownBy w' v.ownBlock → Near v v' w → wpList Tryz.prog ops Q rest (a.put o.dst v') w') : wpList Tryz.prog ops Q (o :: rest) a w :=
  wpList_append64at hown hB nb z (Sees.cells fun j hj => by
    have e : j = 0 := by simpa using hj
    subst e
    exact hc) hb hgd s x hop ev hx hK
/-- behind some rounds of the loop -/
structure LoopD (w0 : World) (zs : List Int) (x : Int) (i : Nat) (is : Bool) (vl vm : Value) (wr : World) : Prop where
  rises : (zs.take i).Pairwise (· < ·)
  is_ : is = true ↔ x ∈ zs.take i
  less : Own wr (w0.heap.size) vl (lessL (zs.take i) x)
  more : Own wr (w0.heap.size) vm (moreL (zs.take i) x)
  apart : ∀ g, vl.ownBlock = some g → vm.ownBlock ≠ some g
  below : Below w0.heap.size w0 wr
  size : w0.heap.size ≤ wr.heap.size
theorem LoopD.start (w0 wr : World) (zs : List Int) (x : Int) (hb : Below w0.heap.size w0 wr) (hs : w0.heap.size ≤ wr.heap.size) : LoopD w0 zs x 0 false (.slice none 0 0) (.slice none 0 0) wr :=
  ⟨by simp, by simp, Own.nil _ _, Own.nil _ _, (fun g h => by cases h), hb, hs⟩
/-- a round that puts the number below -/
theorem LoopD.low {w0 : World} {zs : List Int} {x y : Int} {i : Nat} {is : Bool} {vl vm vl' : Value} {wr wr' : World} {tmp : Obj} (h : LoopD w0 zs x i is vl vm wr) (hy : zs[i]? = some y) (hlt : y < x) (hr : (zs.take (i + 1)).Pairwise (· < ·))
    (hown : Own wr' (w0.heap.size) vl' (lessL (zs.take i) x ++ [y])) (hg : (wr.alloc tmp).grownBy wr' vl.ownBlock) (hn : Near vl vl' (wr.alloc tmp)) : LoopD w0 zs x (i + 1) is vl' vm wr' := by
  have e1 := take_snocS hy
  have hsz := hg.size
  simp at hsz
  refine ⟨hr, ?_, ?_, ?_, ?_, (h.below.alloc h.below.size _).grown hg (by simp; have := h.size; omega) (fun k hk => by have := own_ge h.less hk; omega), by have := h.size; omega⟩
  · rw [e1, List.mem_append, h.is_]
    constructor
    · exact .inl
    · rintro (h | h)
      · exact h
      · have : x = y := by simpa using h
        omega
  · rw [e1, lessL_snoc, if_pos hlt]; exact hown
  · rw [e1, moreL_snoc, if_neg (by omega), List.append_nil]
    refine ownsRow_at h.more (fun g hgm => ?_)
    obtain ⟨_, hc⟩ := own_block h.more hgm
    have hl := lt_of_block hc
    exact (hg.block g (by simp; omega) (fun e => h.apart g e.symm hgm)).trans (Below.heap_alloc _ _ _ hl)
  · intro g hgl hgm
    obtain ⟨_, hc⟩ := own_block h.more hgm
    have hl := lt_of_block hc
    rcases hn g hgl with h1 | h1
    · exact h.apart g h1 hgm
    · simp at h1; omega
/-- .. above -/
theorem LoopD.high {w0 : World} {zs : List Int} {x y : Int} {i : Nat} {is : Bool} {vl vm vm' : Value} {wr wr' : World} {tmp : Obj} (h : LoopD w0 zs x i is vl vm wr) (hy : zs[i]? = some y) (hlt : x < y) (hr : (zs.take (i + 1)).Pairwise (· < ·))
    (hown : Own wr' (w0.heap.size) vm' (moreL (zs.take i) x ++ [y])) (hg : (wr.alloc tmp).grownBy wr' vm.ownBlock) (hn : Near vm vm' (wr.alloc tmp)) : LoopD w0 zs x (i + 1) is vl vm' wr' := by
  have e1 := take_snocS hy
  have hsz := hg.size
  simp at hsz
  refine ⟨hr, ?_, ?_, ?_, ?_, (h.below.alloc h.below.size _).grown hg (by simp; have := h.size; omega) (fun k hk => by have := own_ge h.more hk; omega), by have := h.size; omega⟩
  · rw [e1, List.mem_append, h.is_]
    constructor
    · exact .inl
    · rintro (h | h)
      · exact h
      · have : x = y := by simpa using h
        omega
  · rw [e1, lessL_snoc, if_neg (by omega), List.append_nil]
    refine ownsRow_at h.less (fun g hgm => ?_)
    obtain ⟨_, hc⟩ := own_block h.less hgm
    have hl := lt_of_block hc
    exact (hg.block g (by simp; omega) (fun e => h.apart g hgm e.symm)).trans (Below.heap_alloc _ _ _ hl)
  · rw [e1, moreL_snoc, if_pos hlt]; exact hown
  · intro g hgl hgm
    obtain ⟨_, hc⟩ := own_block h.less hgl
    have hl := lt_of_block hc
    rcases hn g hgm with h1 | h1
    · exact h.apart g hgl h1
    · simp at h1; omega
/-- .. finds it -/
theorem LoopD.here {w0 : World} {zs : List Int} {x : Int} {i : Nat} {is : Bool} {vl vm : Value} {wr : World} (h : LoopD w0 zs x i is vl vm wr) (hy : zs[i]? = some x) (hr : (zs.take (i + 1)).Pairwise (· < ·)) : LoopD w0 zs x (i + 1) true vl vm wr := by
  have e1 := take_snocS hy
  refine ⟨hr, ?_, ?_, ?_, h.apart, h.below, h.size⟩
  · rw [e1]; simp
  · rw [e1, lessL_snoc, if_neg (by omega), List.append_nil]; exact h.less
  · rw [e1, moreL_snoc, if_neg (by omega), List.append_nil]; exact h.more
theorem LoopD.drewN {w0 : World} {zs : List Int} {x : Int} {i : Nat} {is : Bool} {vl vm : Value} {wr : World} (h : LoopD w0 zs x i is vl vm wr) (k : Nat) : LoopD w0 zs x i is vl vm (wr.drewN k) :=
  ⟨h.rises, h.is_, h.less, h.more, h.apart, Below.drewK h.below k, h.size⟩
/-- append of a slice that reads as a list, as one step of a region that draws -/
theorem step_append64 {w : World} {B : Nat} {v : Value} {xs : List Int} (hown : Own w B v xs) (hB : B ≤ w.heap.size) (ao : Option Addr) (m c : Nat) (ys : List Int) (hl : ys.length = m) (hs : Sees w ao ys) (hn : ao = none → c = 0) (hb : (xs.length + ys.length) * 8 ≤ 140737488355328)
    {ops : Array Oper} {o : Oper} {a : Act} {K : Act → World → Prop} {Q : Exit → Act → World → Prop} {E : Prop} (hg : o.guard = none) (s x : Operand) (hop : o.op = Op.call { callee := Callee.builtin Builtin.append, args := #[s, x], argTypes := #[23, 23] })
    (ev : a.eval s = v) (hx : a.eval x = .slice ao m c)
    (hK : ∀ v' w', Own w' B v' (xs ++ ys) → w.grownBy w' v.ownBlock → K (a.put o.dst v') w') :
    if Region.wanted o (yielded ops a.tmps) = true then Oper.wp Tryz.prog o a w K Q else E := by
  subst hl
  obtain ⟨i0, hi, hz0, hz1, hz2⟩ := info_parts info64
  cases ao with
  | none =>
    obtain rfl := hn rfl
    have hz : ys = [] := by
      obtain ⟨b, o, h1, _⟩ := hs
      by_cases e : ys = []
      · exact e
      · exact absurd (h1 e) (by simp)
    subst hz
    have hw : Region.wanted o (yielded ops a.tmps) = true := by simp [Region.wanted, hg]
    rw [if_pos hw]
    have hrun := run_append_owned_none (P := Tryz.prog) (w := w) B 23 o.type 2 i0 1 Tryz.underlying23 hi v _ _ hown
    unfold Oper.wp
    simp [execOp, hop, resolve, invoke, builtin, ev, hx, hrun, Result.andThen]
    exact hK v w (by simpa using hown) (World.grownBy.refl w _)
  | some ad =>
    have hnews : ∀ j u, (i64s ys)[j]? = some u → w.cell? (ad.add j) = some u := hs.news
    exact step_append_own hg s x 23 hop B 2 i0 (.int .i64 0) 1 8 Tryz.underlying23 hi hz0 hz1 hz2 rfl (by decide) v xs.length (i64s xs) ev hown ad ys.length c (i64s ys) hx (by simp [i64s]) hnews i64s_one (by unfold maxLen; omega) hb hB
      (fun v' w' h1 h2 _ => hK v' w' (by unfold Own; rw [List.length_append, i64s_app]; exact h1) h2)
theorem own_empty {W : World} {B g : Nat} (hB : B ≤ g) (h : W.heap[g]? = some (.cells #[] 2)) : Own W B (.slice (some ⟨g, 0, none⟩) 0 0) [] :=
  Bal.own (zs := []) (Bal.of_block hB h rfl (by simp) (by decide) rfl)
theorem below_new {B : Nat} {w W : World} (h : Below B w W) (hB : B ≤ w.heap.size) (o : Obj) : Below B w (W.alloc o) := h.alloc (Nat.le_trans hB h.size) o
theorem heap_old {w W : World} {o : Obj} (h : Below (w.alloc o).heap.size (w.alloc o) W) : W.heap[w.heap.size]? = some o :=
  (h.block _ (by simp)).trans (heap_new w _ _ rfl)
theorem Own.sees3 {w : World} {B n c : Nat} {ao : Option Addr} {zs : List Int} (h : Own w B (.slice ao n c) zs) : Sees w ao zs := by
  rcases h.form with ⟨_, rfl⟩ | ⟨g, cap, h1, h2⟩
  · exact Sees.nil _ _
  · injection h1 with h3 _ _
    subst h3
    exact h2.sees
/-- .. that keeps what lay before -/
theorem step_append64B {w0 w : World} {v : Value} {xs : List Int} (hb0 : Below w0.heap.size w0 w) (hown : Own w w0.heap.size v xs) (ao : Option Addr) (m c : Nat) (ys : List Int) (hl : ys.length = m) (hs : Sees w ao ys) (hn : ao = none → c = 0) (hb : (xs.length + ys.length) * 8 ≤ 140737488355328)
    {ops : Array Oper} {o : Oper} {a : Act} {K : Act → World → Prop} {Q : Exit → Act → World → Prop} {E : Prop} (hg : o.guard = none) (s x : Operand) (hop : o.op = Op.call { callee := Callee.builtin Builtin.append, args := #[s, x], argTypes := #[23, 23] })
    (ev : a.eval s = v) (hx : a.eval x = .slice ao m c)
    (hK : ∀ v' w', Own w' w0.heap.size v' (xs ++ ys) → Below w0.heap.size w0 w' → w.grownBy w' v.ownBlock → K (a.put o.dst v') w') :
    if Region.wanted o (yielded ops a.tmps) = true then Oper.wp Tryz.prog o a w K Q else E :=
  step_append64 hown hb0.size ao m c ys hl hs hn hb hg s x hop ev hx (fun v' w' h1 h2 => hK v' w' h1 (hb0.grown h2 hb0.size (fun _ hk => own_ge hown hk)) h2)
end Go.Proofs.YtkioddgolmaaeaaGreatDoor
