/-
  quash/quashref04.SameInts, Same: every call. No condition.
  And: SCHED: slices of ints that read as lists; rows of ints of the call's own; append onto one. No condition.
-/
import Derived.Test.YtaiinkeendejdaaProg
import Derived.WalkKit
import Derived.OwnWalk
import Derived.Lib.SliceRun
import Derived.Laws.OwnMore
import Derived.Laws.AppendOwnNone
import Derived.StillTailTactics
import Derived.BigQuiet
import Derived.Deep.DeepMust
import Derived.Deep.QuietTactic
import Derived.Lib.Hide
import Derived.Test.YtaiinkeendejdaaSchMarks
namespace Go.Proofs.Ytaiinkeendejdaa
open Go.RowKit
set_option maxRecDepth 100000
theorem heap_new (W : World) (O : Obj) (g : Nat) (h : g = W.heap.size) : (W.alloc O).heap[g]? = some O := by subst h; exact heap_alloc_new W O
section
variable {w w' : World}
theorem ownsRow_at {base : Nat} {e : TypeId} {size n : Nat} {v : Value} {xs : List Value} (h : w.ownsRow base e size v n xs) (hk : ∀ g, v.ownBlock = some g → w'.heap[g]? = w.heap[g]?) : w'.ownsRow base e size v n xs := by
  obtain ⟨h1, h2⟩ := h
  refine ⟨h1, ?_⟩
  rcases h2 with h2 | ⟨g, cap, cur, hv, hg, hh, r⟩
  · exact Or.inl h2
  · exact Or.inr ⟨g, cap, cur, hv, hg, by rw [hk g (by rw [hv]; rfl)]; exact hh, r⟩
theorem own_block {base : Nat} {e : TypeId} {size n : Nat} {v : Value} {xs : List Value} (h : w.ownsRow base e size v n xs) {g : Nat} (hg : v.ownBlock = some g) : ∃ cur, w.heap[g]? = some (.cells cur e) := by
  rcases h.2 with ⟨hv, _⟩ | ⟨g', cap, cur, hv, _, hh, _⟩
  · rw [hv] at hg; cases hg
  · rw [hv] at hg
    have e1 : g' = g := by simpa [Value.ownBlock] using hg
    subst e1
    exact ⟨cur, hh⟩
end
theorem own_lower {w : World} {base base' : Nat} {e : TypeId} {size n : Nat} {v : Value} {xs : List Value} (h : w.ownsRow base e size v n xs) (hb : base' ≤ base) : w.ownsRow base' e size v n xs := by
  obtain ⟨h1, h2⟩ := h
  refine ⟨h1, ?_⟩
  rcases h2 with h2 | ⟨g, cap, cur, hv, hg, r⟩
  · exact Or.inl h2
  · exact Or.inr ⟨g, cap, cur, hv, by omega, r⟩
theorem own_ge {w : World} {base : Nat} {e : TypeId} {size n : Nat} {v : Value} {xs : List Value} (h : w.ownsRow base e size v n xs) {g : Nat} (hg : v.ownBlock = some g) : base ≤ g := by
  rcases h.2 with ⟨hv, _⟩ | ⟨g', cap, cur, hv, hb, hh, _⟩
  · rw [hv] at hg; cases hg
  · rw [hv] at hg
    have e1 : g' = g := by simpa [Value.ownBlock] using hg
    subst e1
    exact hb
theorem Below.drewK {B : Nat} {w w' : World} (h : Below B w w') (n : Nat) : Below B w (w'.drewN n) := ⟨h.os, h.tape, h.output, h.size, h.block⟩
/-- the slice at this address reads as this list -/
def Sees (w : World) (ao : Option Addr) (zs : List Int) : Prop := ∃ b o, (zs ≠ [] → ao = some ⟨b, o, none⟩) ∧ ∀ j, j < zs.length → w.cell? ⟨b, o + j, none⟩ = some (.int .i64 (zs.getD j 0))
theorem Sees.nil (w : World) (ao : Option Addr) : Sees w ao [] := ⟨0, 0, fun h => absurd rfl h, fun j hj => absurd hj (by simp)⟩
theorem Sees.cells {w : World} {b o : Nat} {zs : List Int} (h : ∀ j, j < zs.length → w.cell? ⟨b, o + j, none⟩ = some (.int .i64 (zs.getD j 0))) : Sees w (some ⟨b, o, none⟩) zs := ⟨b, o, fun _ => rfl, h⟩
theorem Sees.below {w w' : World} {ao : Option Addr} {zs : List Int} (h : Sees w ao zs) (hb : Below w.heap.size w w') : Sees w' ao zs := by
  obtain ⟨b, o, h1, h2⟩ := h
  exact ⟨b, o, h1, fun j hj => (hb.cell (p := ⟨b, o + j, none⟩) (block_lt_of_cell (h2 j hj))).trans (h2 j hj)⟩
theorem Sees.drewN {w : World} {ao : Option Addr} {zs : List Int} (h : Sees w ao zs) (n : Nat) : Sees (w.drewN n) ao zs := h
theorem Sees.of_own {w : World} {base : Nat} {e : TypeId} {ao : Option Addr} {c : Nat} {zs : List Int} (h : w.ownsRow base e 1 (.slice ao zs.length c) zs.length (zs.map (Value.int .i64))) : Sees w ao zs := by
  cases zs with
  | nil => exact Sees.nil _ _
  | cons z r =>
    obtain ⟨g, hv⟩ : ∃ g, ao = some ⟨g, 0, none⟩ := by
      rcases h.2 with ⟨hv, _⟩ | ⟨g, cap, cur, hv, _⟩
      · cases hv
      · injection hv with h1 _ _
        exact ⟨g, h1⟩
    subst hv
    refine Sees.cells fun j hj => ?_
    have := h.cellAt j (by simpa using hj)
    rw [Nat.zero_add, this]
    rw [List.getElem?_map, List.getElem?_eq_getElem hj, List.getD_eq_getElem?_getD, List.getElem?_eq_getElem hj]
    rfl
theorem Sees.news {w : World} {ad : Addr} {zs : List Int} (h : Sees w (some ad) zs) : ∀ (j : Nat) u, (zs.map (Value.int .i64))[j]? = some u → w.cell? (ad.add j) = some u := by
  intro j u hj
  rw [List.getElem?_map, Option.map_eq_some_iff] at hj
  obtain ⟨z, hj, rfl⟩ := hj
  have hjl := (List.getElem?_eq_some_iff.1 hj).1
  obtain ⟨b, o, h1, h2⟩ := h
  obtain rfl : ad = ⟨b, o, none⟩ := by
    have := h1 (by intro e; subst e; exact absurd hjl (by simp))
    simpa using this
  rw [Addr.add_lit]
  refine (h2 j hjl).trans ?_
  rw [List.getD_eq_getElem?_getD, hj]; rfl
theorem infoI64 : (Try.prog.info? 3).map (fun i => (i.zero, i.size, i.bytes)) = some (some (.int .i64 0), 1, 8) := by kernel_rfl
def i64s (zs : List Int) : List Value := zs.map (Value.int .i64)
theorem i64s_length (zs : List Int) : (i64s zs).length = zs.length := by simp [i64s]
theorem i64s_at (zs : List Int) (k : Nat) {z : Int} (h : zs[k]? = some z) : (i64s zs)[k]? = some (.int .i64 z) := by
  simp [i64s, h]
theorem i64s_set (zs : List Int) (k : Nat) (z : Int) : (i64s zs).set k (.int .i64 z) = i64s (zs.set k z) := by simp [i64s, List.map_set]
theorem i64s_app (a b : List Int) : i64s (a ++ b) = i64s a ++ i64s b := by simp [i64s]
theorem i64s_one {zs : List Int} : ∀ v ∈ i64s zs, v.oneCell' = true := fun v hv => by obtain ⟨_, _, rfl⟩ := List.mem_map.1 hv; rfl
/-- a row of int64 of the call's own -/
def Own (w : World) (B : Nat) (v : Value) (zs : List Int) : Prop := w.ownsRow B 3 1 v zs.length (i64s zs)
/-- .. at an address -/
def Bal (w : World) (B g cap : Nat) (zs : List Int) : Prop := w.ownsRow B 3 1 (.slice (some ⟨g, 0, none⟩) zs.length cap) zs.length (i64s zs)
section
variable {w : World} {B g cap : Nat} {zs : List Int} {v : Value}
theorem Bal.own (h : Bal w B g cap zs) : Own w B (.slice (some ⟨g, 0, none⟩) zs.length cap) zs := h
theorem Own.nil (w : World) (B : Nat) : Own w B (.slice none 0 0) [] := World.ownsRow_nil _ _ _ _
theorem Own.form (h : Own w B v zs) : (v = .slice none 0 0 ∧ zs = []) ∨ ∃ g cap, v = .slice (some ⟨g, 0, none⟩) zs.length cap ∧ Bal w B g cap zs := by
  have h0 := h
  obtain ⟨_, h1 | ⟨g, cap, cur, hv, _⟩⟩ := h0
  · exact Or.inl ⟨h1.1, List.eq_nil_of_length_eq_zero h1.2⟩
  · subst hv
    exact Or.inr ⟨g, cap, rfl, h⟩
theorem Own.below {w' : World} (h : Own w B v zs) (hb : Below w.heap.size w w') : Own w' B v zs :=
  ownsRow_at h (fun g hg => by obtain ⟨_, hc⟩ := own_block h hg; exact hb.block _ (lt_of_block hc))
theorem Own.lower (h : Own w B v zs) {B' : Nat} (hb : B' ≤ B) : Own w B' v zs := own_lower h hb
theorem Bal.lt (h : Bal w B g cap zs) : g < w.heap.size ∧ B ≤ g := by
  obtain ⟨cur, hc⟩ := own_block h rfl
  exact ⟨lt_of_block hc, own_ge h rfl⟩
theorem Bal.caps (h : Bal w B g cap zs) : zs.length ≤ cap ∧ cap ≤ maxLen := by
  obtain ⟨_, h | ⟨_, _, _, hv, _, _, h1, h2, _⟩⟩ := h
  · cases h.1
  · injection hv with _ _ h3; subst h3; exact ⟨h1, h2⟩
theorem Bal.block (h : Bal w B g cap zs) : ∃ cur, w.heap[g]? = some (.cells cur 3) ∧ cur.size = cap ∧ cur.toList.take zs.length = i64s zs := by
  obtain ⟨_, h | ⟨_, _, cur, hv, _, hb, _, _, h3, h4⟩⟩ := h
  · cases h.1
  · injection hv with h1 _ h2
    injection h1 with h1
    injection h1 with h1
    subst h1; subst h2
    exact ⟨cur, hb, by simpa using h3, by simpa using h4⟩
theorem Bal.cell (h : Bal w B g cap zs) (k : Nat) {z : Int} (hk : zs[k]? = some z) : w.cell? ⟨g, k, none⟩ = some (.int .i64 z) :=
  (h.cellAt k (by have := (List.getElem?_eq_some_iff.1 hk).1; omega)).trans (i64s_at zs k hk)
theorem Bal.below {w' : World} (h : Bal w B g cap zs) (hb : Below w.heap.size w w') : Bal w' B g cap zs := Own.below (v := .slice (some ⟨g, 0, none⟩) zs.length cap) h hb
theorem Bal.set (h : Bal w B g cap zs) (k : Nat) (z : Int) : Bal (w.setCell ⟨g, k, none⟩ (.int .i64 z)) B g cap (zs.set k z) := by
  obtain ⟨h1, _⟩ := World.ownsRow.stored h k (.int .i64 z)
  unfold Bal
  rw [i64s_set] at h1
  rw [List.length_set]
  exact h1
theorem Bal.of_block {cur : Array Value} (hg : B ≤ g) (hb : w.heap[g]? = some (.cells cur 3)) (hc : cur.size = cap) (hl : zs.length ≤ cap) (hm : cap ≤ maxLen) (ht : cur.toList.take zs.length = i64s zs) : Bal w B g cap zs :=
  ⟨by simp [i64s], .inr ⟨g, cap, cur, rfl, hg, hb, hl, hm, by simpa using hc, by simpa using ht⟩⟩
theorem Bal.sees (h : Bal w B g cap zs) : Sees w (some ⟨g, 0, none⟩) zs := Sees.of_own h
/-- a shorter slice of the same row -/
theorem Bal.take (h : Bal w B g cap zs) (k : Nat) (hk : k ≤ zs.length) : Bal w B g cap (zs.take k) := by
  obtain ⟨cur, hb, hs, ht⟩ := h.block
  refine Bal.of_block h.lt.2 hb hs (by have := h.caps.1; simp; omega) h.caps.2 ?_
  have hl : (zs.take k).length = k := by rw [List.length_take]; omega
  rw [hl, show cur.toList.take k = (cur.toList.take zs.length).take k by rw [List.take_take, Nat.min_eq_left hk], ht]
  simp [i64s, List.map_take]
theorem sees_one {w : World} {g : Nat} {v : Int} {t : TypeId} (h : w.heap[g]? = some (.cells #[.int .i64 v] t)) : Sees w (some ⟨g, 0, none⟩) [v] := Sees.cells fun j hj => by
  have e : j = 0 := by simpa using hj
  subst e
  exact cell_of_row _ _ 0 _ _ _ h
theorem sees_two {w : World} {g : Nat} {u v : Int} {t : TypeId} (h : w.heap[g]? = some (.cells #[.int .i64 u, .int .i64 v] t)) : Sees w (some ⟨g, 0, none⟩) [u, v] := Sees.cells fun j hj => by
  match j, hj with
  | 0, _ => exact cell_of_row _ _ 0 _ _ _ h
  | 1, _ => exact cell_of_row _ _ 1 _ _ _ h
  | j + 2, hj => exact absurd hj (by simp)
end
/-- append of a slice that reads as a list, onto a row of int64 of the call's own -/
theorem wpList_appendI {w : World} {B : Nat} {v : Value} {xs : List Int} (hown : Own w B v xs) (hB : B ≤ w.heap.size) (ao : Option Addr) (n c : Nat) (zs : List Int) (hz : zs.length = n) (hs : Sees w ao zs) (hn : ao = none → c = 0) (hb : (xs.length + zs.length) * 8 ≤ 140737488355328)
    {ops : Array Oper} {Q : Exit → Act → World → Prop} {a : Act} {rest : List Oper} {o : Oper} (hgd : o.guard = none) (s x : Operand) (hop : o.op = Op.call { callee := Callee.builtin Builtin.append, args := #[s, x], argTypes := #[23, 23] })
    (ev : a.eval s = v) (hx : a.eval x = .slice ao n c)
    (hK : ∀ v' w', Own w' B v' (xs ++ zs) → w.grownBy w' v.ownBlock → wpList Try.prog ops Q rest (a.put o.dst v') w') : wpList Try.prog ops Q (o :: rest) a w := by
  subst hz
  obtain ⟨i0, hi, hz0, hz1, hz2⟩ := info_parts infoI64
  cases ao with
  | none =>
    obtain rfl := hn rfl
    have hz : zs = [] := by
      obtain ⟨b, o, h1, _⟩ := hs
      by_cases e : zs = []
      · exact e
      · exact absurd (h1 e) (by simp)
    subst hz
    refine wpList_append_own_none hgd s x _ hop B 3 i0 1 Try.underlying23 hi v _ _ ev hown hx (hK v w (by simpa using hown) (World.grownBy.refl w _))
  | some ad =>
    have hnews : ∀ j u, (i64s zs)[j]? = some u → w.cell? (ad.add j) = some u := hs.news
    exact wpList_append_own _ hgd s x 23 hop B 3 i0 (.int .i64 0) 1 8 Try.underlying23 hi hz0 hz1 hz2 rfl (by decide) v xs.length (i64s xs) ev hown ad zs.length c (i64s zs) hx (by simp [i64s]) hnews i64s_one (by unfold maxLen; omega) hb hB
      (fun v' w' h1 h2 _ => hK v' w' (by unfold Own; rw [List.length_append, i64s_app]; exact h1) h2)
/-- make of a row of int64 -/
theorem makeI64 (m : Nat) (h : m ≤ 100000) (w : World) : (Instr.makeSlice 23 (.int .i64 m) (.int .i64 m)).run Try.prog w = .ok (.slice (some ⟨w.heap.size, 0, none⟩) m m) (w.alloc (.cells (madeCells #[.int .i64 0] m) 3)) := by
  obtain ⟨i0, hi, hz0, hz1, hz2⟩ := info_parts infoI64
  have h := run_makeSlice (w := w) (P := Try.prog) 23 3 i0 (.int .i64 0) Try.underlying23 hi hz0 .i64 .i64 m m (by omega) (Int.le_refl _) (by rw [hz1]; simp; omega) (by rw [hz2]; omega) (by omega)
  rw [h, hz1]
  simp [Value.cells]
theorem made_bal (m : Nat) (w : World) (hm : m ≤ 100000) : Bal (w.alloc (.cells (madeCells #[.int .i64 0] m) 3)) w.heap.size w.heap.size m (List.replicate m 0) := by
  refine Bal.of_block (Nat.le_refl _) (heap_new _ _ _ rfl) (by simp [size_madeCells]) (by simp) (by unfold maxLen; omega) ?_
  rw [toList_madeCells_one]
  simp [i64s]
end Go.Proofs.Ytaiinkeendejdaa
namespace Go.Proofs.Ytaiinkeendejdaa
open Go.RowKit
set_option maxRecDepth 100000
theorem same_noL {α : Type} {l k : List α} {j : Nat} {x y : α} (h1 : l[j]? = some x) (h2 : k[j]? = some y) (h : x ≠ y) [DecidableEq α] : decide (l = k) = false := by
  simp only [decide_eq_false_iff_not]
  intro e
  rw [e, h2] at h1
  injection h1 with h1
  exact h h1.symm
set_option maxHeartbeats 2000000 in
theorem SameInts_any (ao bo : Option Addr) (n m ca cb : Nat) (l k : List Int) (w : World) (hl : l.length = n) (hk : k.length = m) (hx : Sees w ao l) (hy : Sees w bo k) (hn : n ≤ maxLen) (hm : m ≤ maxLen) :
    Calls Try.prog 18 #[.slice ao n ca, .slice bo m cb] w fun e w' => e = .returned (.bool (decide (l = k))) ∧ ∃ d, w' = w.drewN d := by
  unfold maxLen at hn hm
  by_cases hne : n = m
  · subst hne
    cases n with
    | zero =>
      obtain rfl := List.eq_nil_of_length_eq_zero hl
      obtain rfl := List.eq_nil_of_length_eq_zero hk
      clear hx hy hl hk
      go_enter Try.func18, Try.ntmps18
      go_wp2
      go_loopw [5] (fun v wr => v = .int .i64 0 ∧ wr = w) (fun _ _ => 0)
      case atStart => exact ⟨rfl, rfl⟩
      case round =>
        obtain ⟨rfl, rfl⟩ := hrel
        go_wp2
        go_ret
        exact ⟨rfl, 0, rfl⟩
    | succ N =>
      obtain ⟨b, o, h1, h2⟩ := hx
      obtain ⟨b', o', h1', h2'⟩ := hy
      obtain rfl := h1 (by intro e; subst e; simp at hl)
      obtain rfl := h1' (by intro e; subst e; simp at hk)
      have H2 := Lib.hid h2
      have H2' := Lib.hid h2'
      have HL := Lib.hid hl
      have HK := Lib.hid hk
      clear h1 h1' h2 h2' hl hk
      go_enter Try.func18, Try.ntmps18
      go_wp2
      go_loopw [5] (fun v wr => ∃ j : Nat, j ≤ N + 1 ∧ v = .int .i64 j ∧ l.take j = k.take j ∧ ∃ d, wr = w.drewN d) (fun v _ => N + 1 - (intOf v).toNat)
      case atStart => exact ⟨0, by omega, rfl, rfl, 0, rfl⟩
      case round =>
        obtain ⟨j, hj, rfl, htk, d, rfl⟩ := hrel
        have HT := Lib.hid htk
        clear htk
        by_cases hlt : j < N + 1
        · obtain ⟨x, hx⟩ : ∃ x, l[j]? = some x := ⟨_, List.getElem?_eq_getElem (by rw [HL.out]; exact hlt)⟩
          obtain ⟨y, hy⟩ : ∃ x, k[j]? = some x := ⟨_, List.getElem?_eq_getElem (by rw [HK.out]; exact hlt)⟩
          have c1 := H2.out j (by rw [HL.out]; exact hlt)
          have d1 := H2'.out j (by rw [HK.out]; exact hlt)
          rw [List.getD_eq_getElem?_getD, hx, Option.getD_some] at c1
          rw [List.getD_eq_getElem?_getD, hy, Option.getD_some] at d1
          have HX := Lib.hid hx
          have HY := Lib.hid hy
          have hlo : (0 : Int) ≤ (j : Int) := by omega
          have hhi : (j : Int) < ((N + 1 : Nat) : Int) := by omega
          clear hx hy
          by_cases e1 : x = y
          · subst e1
            go_wp2
            go_quiet (fail)
            go_wp2
            go_roundw
            case rel => exact ⟨j + 1, by omega, by go_num, by rw [List.take_add_one, List.take_add_one, HT.out, HX.out, HY.out], _, rfl⟩
            case measure => simp [intOf]; omega
          · have ne : (x == y) = false := by simpa using e1
            have HN := Lib.hid (same_noL HX.out HY.out e1)
            clear e1
            go_wp2
            go_quiet (fail)
            go_wp2
            go_ret
            exact ⟨by rw [HN.out]; rfl, d + nq, by rw [World.drewN_drewN]⟩
        · obtain rfl : j = N + 1 := by omega
          have HE := Lib.hid (show decide (l = k) = true by
            have h := HT.out
            rw [List.take_of_length_le (by rw [HL.out]; exact Nat.le_refl _), List.take_of_length_le (by rw [HK.out]; exact Nat.le_refl _)] at h
            simpa using h)
          go_wp2
          go_ret
          exact ⟨by rw [HE.out]; rfl, d, rfl⟩
  · have hlk : decide (l = k) = false := by
      simp only [decide_eq_false_iff_not]
      intro e; subst e; omega
    rw [hlk]
    have ne : ((n : Int) == (m : Int)) = false := by simp; omega
    clear hx hy hl hk hlk
    go_enter Try.func18, Try.ntmps18
    go_wp2
    go_ret
    exact ⟨rfl, 0, rfl⟩
set_option maxHeartbeats 2000000 in
theorem Same_any (ao bo : Option Addr) (n m ca cb : Nat) (l k : List Mk) (w : World) (hl : l.length = n) (hk : k.length = m) (hx : SeesM w ao l) (hy : SeesM w bo k) (hn : n ≤ maxLen) (hm : m ≤ maxLen) :
    Calls Try.prog 15 #[.slice ao n ca, .slice bo m cb] w fun e w' => e = .returned (.bool (decide (l = k))) ∧ ∃ d, w' = w.drewN d := by
  unfold maxLen at hn hm
  by_cases hne : n = m
  · subst hne
    cases n with
    | zero =>
      obtain rfl := List.eq_nil_of_length_eq_zero hl
      obtain rfl := List.eq_nil_of_length_eq_zero hk
      clear hx hy hl hk
      go_enter Try.func15, Try.ntmps15
      go_wp2
      go_loopw [5] (fun v wr => v = .int .i64 0 ∧ wr = w) (fun _ _ => 0)
      case atStart => exact ⟨rfl, rfl⟩
      case round =>
        obtain ⟨rfl, rfl⟩ := hrel
        go_wp2
        go_ret
        exact ⟨rfl, 0, rfl⟩
    | succ N =>
      obtain ⟨b, o, h1, h2⟩ := hx
      obtain ⟨b', o', h1', h2'⟩ := hy
      obtain rfl := h1 (by intro e; subst e; simp at hl)
      obtain rfl := h1' (by intro e; subst e; simp at hk)
      have H2 := Lib.hid h2
      have H2' := Lib.hid h2'
      have HL := Lib.hid hl
      have HK := Lib.hid hk
      clear h1 h1' h2 h2' hl hk
      go_enter Try.func15, Try.ntmps15
      go_wp2
      go_loopw [5] (fun v wr => ∃ j : Nat, j ≤ N + 1 ∧ v = .int .i64 j ∧ l.take j = k.take j ∧ ∃ d, wr = w.drewN d) (fun v _ => N + 1 - (intOf v).toNat)
      case atStart => exact ⟨0, by omega, rfl, rfl, 0, rfl⟩
      case round =>
        obtain ⟨j, hj, rfl, htk, d, rfl⟩ := hrel
        have HT := Lib.hid htk
        clear htk
        by_cases hlt : j < N + 1
        · obtain ⟨⟨x1, x2, x3⟩, hx⟩ : ∃ x, l[j]? = some x := ⟨_, List.getElem?_eq_getElem (by rw [HL.out]; exact hlt)⟩
          obtain ⟨⟨y1, y2, y3⟩, hy⟩ : ∃ x, k[j]? = some x := ⟨_, List.getElem?_eq_getElem (by rw [HK.out]; exact hlt)⟩
          obtain ⟨c1, c2, c3⟩ := H2.out j _ hx
          obtain ⟨d1, d2, d3⟩ := H2'.out j _ hy
          rw [← Nat.add_assoc] at c2 c3 d2 d3
          have HX := Lib.hid hx
          have HY := Lib.hid hy
          have hlo : (0 : Int) ≤ (j : Int) := by omega
          have hhi : (j : Int) < ((N + 1 : Nat) : Int) := by omega
          clear hx hy
          by_cases e1 : x1 = y1
          · subst e1
            by_cases e2 : x2 = y2
            · subst e2
              by_cases e3 : x3 = y3
              · subst e3
                go_wp2
                go_quiet (fail)
                go_wp2
                go_roundw
                case rel => exact ⟨j + 1, by omega, by go_num, by rw [List.take_add_one, List.take_add_one, HT.out, HX.out, HY.out], _, rfl⟩
                case measure => simp [intOf]; omega
              · have ne : (x3 == y3) = false := by simpa using e3
                have HN := Lib.hid (same_noL HX.out HY.out (by intro e; simp only [Prod.mk.injEq] at e; exact e3 e.2.2))
                clear e3
                go_wp2
                go_quiet (fail)
                go_wp2
                go_ret
                exact ⟨by rw [HN.out]; rfl, d + nq, by rw [World.drewN_drewN]⟩
            · have ne : (x2 == y2) = false := by simpa using e2
              have HN := Lib.hid (same_noL HX.out HY.out (by intro e; simp only [Prod.mk.injEq] at e; exact e2 e.2.1))
              clear e2
              go_wp2
              go_quiet (fail)
              go_wp2
              go_ret
              exact ⟨by rw [HN.out]; rfl, d + nq, by rw [World.drewN_drewN]⟩
          · have ne : (x1 == y1) = false := by simpa using e1
            have HN := Lib.hid (same_noL HX.out HY.out (by intro e; simp only [Prod.mk.injEq] at e; exact e1 e.1))
            clear e1
            go_wp2
            go_quiet (fail)
            go_wp2
            go_ret
            exact ⟨by rw [HN.out]; rfl, d + nq, by rw [World.drewN_drewN]⟩
        · obtain rfl : j = N + 1 := by omega
          have HE := Lib.hid (show decide (l = k) = true by
            have h := HT.out
            rw [List.take_of_length_le (by rw [HL.out]; exact Nat.le_refl _), List.take_of_length_le (by rw [HK.out]; exact Nat.le_refl _)] at h
            simpa using h)
          go_wp2
          go_ret
          exact ⟨by rw [HE.out]; rfl, d, rfl⟩
  · have hlk : decide (l = k) = false := by
      simp only [decide_eq_false_iff_not]
      intro e; subst e; omega
    rw [hlk]
    have ne : ((n : Int) == (m : Int)) = false := by simp; omega
    clear hx hy hl hk hlk
    go_enter Try.func15, Try.ntmps15
    go_wp2
    go_ret
    exact ⟨rfl, 0, rfl⟩
theorem SameInts_yes (ao bo : Option Addr) (n ca cb : Nat) (l : List Int) (w : World) (hl : l.length = n) (hx : Sees w ao l) (hy : Sees w bo l) (hn : n ≤ maxLen) :
    Calls Try.prog 18 #[.slice ao n ca, .slice bo n cb] w fun e w' => e = .returned (.bool true) ∧ ∃ d, w' = w.drewN d :=
  (SameInts_any ao bo n n ca cb l l w hl hl hx hy hn hn).mono fun e w' h => by rw [decide_eq_true (rfl : l = l)] at h; exact h
theorem Same_yes (ao bo : Option Addr) (n ca cb : Nat) (l : List Mk) (w : World) (hl : l.length = n) (hx : SeesM w ao l) (hy : SeesM w bo l) (hn : n ≤ maxLen) :
    Calls Try.prog 15 #[.slice ao n ca, .slice bo n cb] w fun e w' => e = .returned (.bool true) ∧ ∃ d, w' = w.drewN d :=
  (Same_any ao bo n n ca cb l l w hl hl hx hy hn hn).mono fun e w' h => by rw [decide_eq_true (rfl : l = l)] at h; exact h
end Go.Proofs.Ytaiinkeendejdaa
