/-
  SCHED: rows of slices of ints; quash/quashlaw04.some: every call. No condition.
-/
import Derived.Test.YtaiinkeendejdaaSchMake
import Derived.Test.YtaiinkeendejdaaSchLent
import Derived.Test.YtaiinkeendejdaaSchPlayC
import Derived.Deep.Cut
namespace Go.Proofs.Ytaiinkeendejdaa
open Go.RowKit
set_option maxRecDepth 100000
/-- a slice of ints as a value: where, its room, what it reads as -/
abbrev PV := Option Addr × Nat × List Int
def pvVal (x : PV) : Value := .slice x.1 x.2.2.length x.2.1
theorem infoS : (Try.prog.info? 23).map (fun i => (i.zero, i.size, i.bytes)) = some (some (.slice none 0 0), 1, 24) := by kernel_rfl
/-- a row of slices of ints of the call's own -/
def OwnS (w : World) (B : Nat) (v : Value) (l : List PV) : Prop := w.ownsRow B 23 1 v l.length (l.map pvVal)
theorem pv_one : ∀ {l : List PV}, ∀ v ∈ l.map pvVal, v.oneCell' = true := by
  intro l v hv
  obtain ⟨x, _, rfl⟩ := List.mem_map.1 hv
  rfl
section
variable {w : World} {B : Nat} {l : List PV} {v : Value}
theorem OwnS.nil (w : World) (B : Nat) : OwnS w B (.slice none 0 0) [] := World.ownsRow_nil _ _ _ _
theorem OwnS.at {w' : World} (h : OwnS w B v l) (hk : ∀ g, v.ownBlock = some g → w'.heap[g]? = w.heap[g]?) : OwnS w' B v l := by
  obtain ⟨h1, h2⟩ := h
  refine ⟨h1, ?_⟩
  rcases h2 with h2 | ⟨g, cap, cur, hv, hg, hh, r⟩
  · exact Or.inl h2
  · exact Or.inr ⟨g, cap, cur, hv, hg, by rw [hk g (by rw [hv]; rfl)]; exact hh, r⟩
theorem OwnS.block (h : OwnS w B v l) {g : Nat} (hg : v.ownBlock = some g) : B ≤ g ∧ g < w.heap.size := by
  rcases h.2 with ⟨hv, _⟩ | ⟨g', cap, cur, hv, h3, hh, _⟩
  · rw [hv] at hg; cases hg
  · rw [hv] at hg
    have e1 : g' = g := by simpa [Value.ownBlock] using hg
    subst e1
    exact ⟨h3, (Array.getElem?_eq_some_iff.1 hh).1⟩
theorem OwnS.form (h : OwnS w B v l) : (v = .slice none 0 0 ∧ l = []) ∨ ∃ g cap, v = .slice (some ⟨g, 0, none⟩) l.length cap ∧ B ≤ g := by
  obtain ⟨_, h1 | ⟨g, cap, cur, hv, hg, _⟩⟩ := h
  · exact Or.inl ⟨h1.1, List.eq_nil_of_length_eq_zero h1.2⟩
  · exact Or.inr ⟨g, cap, hv, hg⟩
theorem OwnS.cell {g cap n k : Nat} {x : PV} (h : OwnS w B (.slice (some ⟨g, 0, none⟩) n cap) l) (hx : l[k]? = some x) : w.cell? ⟨g, k, none⟩ = some (pvVal x) := by
  have hl : l.length = n := by
    rcases h.form with ⟨e, _⟩ | ⟨g', cap', e, _⟩
    · cases e
    · injection e with _ e2 _; exact e2.symm
  subst hl
  have hk := (List.getElem?_eq_some_iff.1 hx).1
  have := World.ownsRow.cellAt h k (by omega)
  rw [this]
  simp [hx]
theorem OwnS.below {w' : World} (h : OwnS w B v l) (hb : Below w.heap.size w w') : OwnS w' B v l := h.at fun g hg => hb.block g (h.block hg).2
theorem OwnS.lower (h : OwnS w B v l) {B' : Nat} (hb : B' ≤ B) : OwnS w B' v l := by
  obtain ⟨h1, h2⟩ := h
  refine ⟨h1, ?_⟩
  rcases h2 with h2 | ⟨g, cap, cur, hv, hg, r⟩
  · exact .inl h2
  · exact .inr ⟨g, cap, cur, hv, Nat.le_trans hb hg, r⟩
/-- what it is as a slice -/
def SeesV (w : World) (ao : Option Addr) (l : List PV) : Prop := ∃ b o, (l ≠ [] → ao = some ⟨b, o, none⟩) ∧ ∀ (j : Nat) x, l[j]? = some x → w.cell? ⟨b, o + j, none⟩ = some (pvVal x)
theorem OwnS.slice (h : OwnS w B v l) : ∃ ao c, v = .slice ao l.length c ∧ SeesV w ao l := by
  rcases h.form with ⟨rfl, rfl⟩ | ⟨g, cap, rfl, _⟩
  · exact ⟨none, 0, rfl, 0, 0, fun h => absurd rfl h, fun j x hj => by simp at hj⟩
  · exact ⟨some ⟨g, 0, none⟩, cap, rfl, g, 0, fun _ => rfl, fun k x hx => by rw [Nat.zero_add]; exact h.cell hx⟩
theorem SeesV.below {w' : World} {ao : Option Addr} (h : SeesV w ao l) (hb : Below w.heap.size w w') : SeesV w' ao l := by
  obtain ⟨b, o, h1, h2⟩ := h
  exact ⟨b, o, h1, fun j x hx => (hb.cell (p := ⟨b, o + j, none⟩) (block_lt_of_cell (h2 j x hx))).trans (h2 j x hx)⟩
theorem step_appendS {ops : Array Oper} {o : Oper} {a : Act} {w : World} {K : Act → World → Prop} {Q : Exit → Act → World → Prop} {E : Prop} {B : Nat} {v : Value} {xs : List PV} (x : PV) (hown : OwnS w B v xs) (hB : B ≤ w.heap.size)
    (hg : o.guard = none) (s y : Operand) (hop : o.op = Op.call { callee := Callee.builtin Builtin.append, args := #[s, y], argTypes := #[22, 22] })
    (ev : a.eval s = v) (g c : Nat) (hx : a.eval y = .slice (some ⟨g, 0, none⟩) 1 c) (hs : w.cell? ⟨g, 0, none⟩ = some (pvVal x)) (hb : xs.length < 1000000)
    (hK : ∀ v' w', OwnS w' B v' (xs ++ [x]) → w.grownBy w' v.ownBlock → K (a.put o.dst v') w') :
    if Region.wanted o (yielded ops a.tmps) = true then Oper.wp Try.prog o a w K Q else E := by
  have hw : Region.wanted o (yielded ops a.tmps) = true := by simp [Region.wanted, hg]
  rw [if_pos hw]
  obtain ⟨i0, hi, hz0, hz1, hz2⟩ := info_parts infoS
  have hnews : ∀ (j : Nat) u, ([x].map pvVal)[j]? = some u → w.cell? ((⟨g, 0, none⟩ : Addr).add j) = some u := fun j u hj => by
    match j, hj with
    | 0, hj =>
      simp at hj
      subst hj
      simpa [Addr.add] using hs
    | j + 1, hj => simp at hj
  obtain ⟨v', w', hrun, r1, r2, _, _⟩ := run_append_own_at (P := Try.prog) w B 22 o.type 23 i0 (.slice none 0 0) 1 24 Try.underlying22 hi hz0 hz1 hz2 rfl (by decide) v xs.length (xs.map pvVal) hown ⟨g, 0, none⟩ 1 c ([x].map pvVal) rfl hnews pv_one (by unfold maxLen; omega) (by omega) hB
  unfold Oper.wp
  simp [execOp, hop, resolve, invoke, builtin, ev, hx, hrun, Result.andThen]
  refine hK v' w' ?_ r2
  unfold OwnS
  rw [List.length_append, List.map_append]
  exact r1
/-- what the slices of a row are made of; K: in which blocks -/
def PVs (K : Nat → Prop) (w : World) (l : List PV) : Prop := ∀ x ∈ l, (x.1 = none → x.2.1 = 0) ∧ x.2.2.length ≤ x.2.1 ∧ x.2.1 ≤ maxLen ∧ ∀ (j : Nat) z, x.2.2[j]? = some z → ∃ q u, x.1 = some ⟨q, u, none⟩ ∧ K q ∧ w.cell? ⟨q, u + j, none⟩ = some (.int .i64 z)
def cutV (x : PV) : PV := (x.1, x.2.1, x.2.2.take 300)
def cutL (l : List PV) : List PV := (l.take 9).map cutV
theorem PVs.cut {K : Nat → Prop} (h : PVs K w l) : PVs K w (cutL l) := fun x hx => by
  obtain ⟨y, hy, rfl⟩ := List.mem_map.1 hx
  obtain ⟨h1, h2, h3, h4⟩ := h y (List.mem_of_mem_take hy)
  refine ⟨h1, by show (y.2.2.take 300).length ≤ y.2.1; rw [List.length_take]; omega, h3, fun j z hj => h4 j z ?_⟩
  have hj : (y.2.2.take 300)[j]? = some z := hj
  rw [List.getElem?_take] at hj
  split at hj
  · exact hj
  · cases hj
theorem PVs.at {K K' : Nat → Prop} {w' : World} (h : PVs K w l) (hK : ∀ x, K x → K' x) (hw : ∀ x, K x → w'.heap[x]? = w.heap[x]?) : PVs K' w' l := fun x hx => by
  obtain ⟨h1, h2, h3, h4⟩ := h x hx
  refine ⟨h1, h2, h3, fun j z hj => ?_⟩
  obtain ⟨q, u, g1, g2, g3⟩ := h4 j z hj
  exact ⟨q, u, g1, hK _ g2, (World.cell?_of_block (a := ⟨q, u + j, none⟩) (hw q g2)).trans g3⟩
theorem plans_of {K : Nat → Prop} {ao : Option Addr} (hs : SeesV w ao l) (hK : ∀ p o, ao = some ⟨p, o, none⟩ → K p) (h : PVs K w l) : Plans K w ao (l.map (·.2.2)) := fun i y hy => by
  rw [List.getElem?_map] at hy
  obtain ⟨x, hx, rfl⟩ := Option.map_eq_some_iff.1 hy
  obtain ⟨b, o, h1, h2⟩ := hs
  have e := h1 (fun e => by rw [e] at hx; simp at hx)
  obtain ⟨g1, g2, g3, g4⟩ := h x (List.mem_of_getElem? hx)
  exact ⟨b, o, x.1, x.2.1, e, hK _ _ e, h2 i x hx, Nat.le_trans g2 g3, g4⟩
end
theorem slice_head {P : Program} {t : TypeId} {s : Nat} (ht : P.underlying t = some (.slice (P.elem t))) (hs : ∀ W, (sizeOf (P.elem t)).run P W = .ok s W) (a : Option Addr) (n c m : Nat) (h : m ≤ c) (W : World) :
    (Instr.sliceAt t (.slice a n c) none (some (.int .i64 (m : Int))) none).run P W = .ok (.slice a m c) W ∧ (Instr.slice t (.slice a n c) none (some (.int .i64 (m : Int))) none).run P W = .ok (.slice a m c) W := by
  rw [run_sliceAt_slice W t _ _ _ _ ht, and_self, run_slice_h W t _ _ _ ht .i64 (m : Int) (by omega) (by omega), hs]
  simp only [Result.andThen, sliced, Int.toNat_natCast]
  cases a with
  | none => simp
  | some a => simp [Addr.add]
theorem sizeI (W : World) : (sizeOf (Try.prog.elem 23)).run Try.prog W = .ok 1 W := by kernel_rfl
set_option maxHeartbeats 2000000 in
theorem some_any (ao : Option Addr) (n c : Nat) (l : List PV) (w : World) (hl : l.length = n) (hs : SeesV w ao l) (hp : PVs (fun x => x < w.heap.size) w l) :
    Calls Try.prog 10 #[.slice ao n c] w fun e w' => ∃ v, e = .returned v ∧ OwnS w' w.heap.size v (cutL l) ∧ Below w.heap.size w w' := by
  have HL := Lib.hid hl
  have HS := Lib.hid hs
  have HP := Lib.hid hp
  clear hl hs hp
  go_enter Try.func10, Try.ntmps10
  go_wp2
  go_loopw [3, 4] (fun v i wr => ∃ j : Nat, j ≤ n ∧ j ≤ 9 ∧ i = .int .i64 j ∧ OwnS wr w.heap.size v ((l.take j).map cutV) ∧ Below w.heap.size w wr) (fun _ i _ => n - (intOf i).toNat)
  case atStart => exact ⟨0, Nat.zero_le _, by omega, rfl, OwnS.nil _ _, Below.refl _ _⟩
  case round =>
    obtain ⟨j, hj, hj9, rfl, hown, hB⟩ := hrel
    have hz := hB.size
    have HB := Lib.hid hB
    by_cases hlt : j < n ∧ j < 9
    · obtain ⟨hlt, hlt9⟩ := hlt
      obtain ⟨b, o, h1, h2⟩ := HS.out
      have hne : l ≠ [] := by intro e; have := HL.out; subst e; simp at this; omega
      obtain rfl := h1 hne
      obtain ⟨x, hx⟩ : ∃ x, l[j]? = some x := ⟨_, List.getElem?_eq_getElem (by rw [HL.out]; exact hlt)⟩
      obtain ⟨p1, p2, p3, _⟩ := HP.out x (List.mem_of_getElem? hx)
      have c0 := h2 j x hx
      have c1a : wr.cell? ⟨b, o + j, none⟩ = some (pvVal x) := (HB.out.cell (p := ⟨b, o + j, none⟩) (block_lt_of_cell c0)).trans c0
      have hx2 : (l.take (j + 1)).map cutV = (l.take j).map cutV ++ [cutV x] := by rw [List.take_add_one, hx, List.map_append]; rfl
      have HX := Lib.hid hx2
      obtain ⟨xa, xc, xl⟩ := x
      obtain ⟨m, hm⟩ : ∃ m, m = min xl.length 300 := ⟨_, rfl⟩
      obtain ⟨L, hL⟩ : ∃ L, L = xl.length := ⟨_, rfl⟩
      have hcut : pvVal (cutV (xa, xc, xl)) = .slice xa m xc := by
        show Value.slice xa (xl.take 300).length xc = _
        rw [List.length_take, hm, Nat.min_comm]
      have c1 : wr.cell? ⟨b, o + j, none⟩ = some (.slice xa L xc) := by rw [hL]; exact c1a
      have hmin : (if (300 : Int) < (L : Int) then (300 : Int) else (L : Int)) = (m : Int) := by split <;> omega
      have hmc : m ≤ xc := by simp only at p2; omega
      unfold maxLen at p3
      have hlo : (0 : Int) ≤ (j : Int) := by omega
      have hhi : (j : Int) < (n : Int) := by omega
      have hlo2 : (0 : Int) ≤ (m : Int) := by omega
      have hhi2 : (m : Int) ≤ (xc : Int) := by omega
      have HCUT := Lib.hid hcut
      have hxs : ((l.take j).map cutV).length < 1000000 := by rw [List.length_map, List.length_take]; omega
      have hsl := fun W => (slice_head Try.underlying23 sizeI xa L xc m hmc W).1
      have hsl2 := fun W => (slice_head Try.underlying23 sizeI xa L xc m hmc W).2
      clear hx c0 c1a h1 h2 hne hx2 hm hL p1 p2 hcut
      go_upto_region 5 with (fail)
      go_region_law (refine step_appendS (B := w.heap.size) (cutV (xa, xc, xl)) (xs := (l.take j).map cutV) (hown.at (fun g hg => Below.heap_alloc _ _ _ (hown.block hg).2)) (by simp <;> omega) rfl (.tmp 15) (.tmp 27) rfl (by simp [Act.eval]) wr.heap.size 1 (by simp [Act.eval]) (by rw [HCUT.out]; exact cell_alloc_new _ _ _) hxs ?_; intro v' w' hown' hgrow)
      all_goals (
        have hB2 : Below w.heap.size w w' := (HB.out.alloc hz _).drew.grown hgrow (by simp <;> omega) (fun k hk => (hown.block hk).1)
        go_wp2
        go_roundw
        case rel => exact ⟨j + 1, by omega, by omega, by go_num, by rw [HX.out]; exact hown', hB2⟩
        case measure => simp [intOf]; omega)
    · have hfin : (l.take j).map cutV = cutL l := by
        unfold cutL
        have := HL.out
        by_cases h : j < n
        · rw [show j = 9 by omega]
        · rw [List.take_of_length_le (show l.length ≤ j by omega), List.take_of_length_le (show l.length ≤ 9 by omega)]
      rw [hfin] at hown
      have HO := Lib.hid hown
      clear hown
      by_cases h : j < n
      · have h9 : ¬ j < 9 := fun h' => hlt ⟨h, h'⟩
        go_wp2
        go_ret
        exact ⟨_, rfl, HO.out, HB.out⟩
      · go_wp2
        go_ret
        exact ⟨_, rfl, HO.out, HB.out⟩
end Go.Proofs.Ytaiinkeendejdaa
