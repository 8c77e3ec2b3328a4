/-
  THE FRAME OF SCHED's LAWS: what the reading of the arguments gives; what a law's end asks. No condition.
  And: SCHED: what stands at a law's end. No condition.
-/
import Derived.Test.YtaiinkeendejdaaSchAwake
import Derived.Test.YtaiinkeendejdaaRows
import Derived.ProofKit
import Derived.OpenShut
import Derived.ChangeSame
import Derived.Deep.DeepHandedRow
import Derived.Conc.LeavingOf
import Derived.MakeChecks
namespace Go.Proofs.Ytaiinkeendejdaa
open Go.RowKit Go.Conc
/-- the memory of the start stands, nothing is told outside -/
structure Kept (W w : World) : Prop where
  os : w.os = W.os
  output : w.output = W.output
  size : W.heap.size ≤ w.heap.size
  block : ∀ x, x < W.heap.size → w.heap[x]? = W.heap[x]?
/-- the lone world of a law whose band is as at the start -/
structure Ends0 (W : World) (b : Bd) (v w : World) : Prop where
  grew : Grew (Bd.start (oddZ W) W) b W.heap.size
  tidy : Tidy b v.heap.size
  same : ∀ x, x < W.heap.size → v.heap[x]? = (startV W).heap[x]?
  sim : Sim b.shun b.F v w
  even : Even (ZT b.shun v.heap.size) v
  size : W.heap.size ≤ v.heap.size
section
variable {W : World} {b : Bd} {v w w₁ : World}
theorem Ends0.start (W : World) : Ends0 W (Bd.start (oddZ W) W) (startV W) W :=
  ⟨⟨Nat.le_refl _, rfl, fun _ _ => rfl, fun _ => Nat.le_refl _, fun _ _ => rfl, fun _ _ => rfl, rfl, rfl, rfl, rfl, rfl⟩, ⟨fun x st s e => (by cases e), fun x hx => absurd rfl hx, fun x hx => (by cases hx)⟩, fun _ _ => rfl, sim_start, even_startV, by rw [startV_size]; exact Nat.le_refl _⟩
theorem Ends0.still {b' : Bd} {v' w' : World} (h : Ends0 W b v w) (s : Still b v b' v' w') : Ends0 W b' v' w' :=
  ⟨⟨Nat.le_trans h.grew.n s.grew.n, s.grew.role.trans h.grew.role, fun x hx => (s.grew.F x (Nat.lt_of_lt_of_le hx h.size)).trans (h.grew.F x hx), fun x => Nat.le_trans (h.grew.Fle x) (s.grew.Fle x), fun x hx => (s.grew.shun x (Nat.lt_of_lt_of_le hx h.size)).trans (h.grew.shun x hx), fun x hx => (s.grew.rung x (Nat.lt_of_lt_of_le hx h.size)).trans (h.grew.rung x hx), s.grew.wg.trans h.grew.wg, s.grew.wait.trans h.grew.wait, s.grew.ear.trans h.grew.ear, s.grew.old.1.trans h.grew.old.1, s.grew.old.2.trans h.grew.old.2⟩,
    s.tidy, fun x hx => (s.same x (Nat.lt_of_lt_of_le hx h.size)).trans (h.same x hx), s.sim, s.even, Nat.le_trans h.size s.size⟩
/-- a lone piece behind it -/
theorem Ends0.piece {v' w' : World} (h : Ends0 W b v w) (hz : v.heap.size ≤ v'.heap.size) (hb : ∀ x, x < v.heap.size → v'.heap[x]? = v.heap[x]?) (hs : Sim b.shun b.F v' w') (he : Even (ZT b.shun v'.heap.size) v') : Ends0 W b v' w' :=
  ⟨h.grew, ⟨fun x st s e c hc => Nat.lt_of_lt_of_le (h.tidy.seat x st s e c hc) hz, fun x hx => Nat.lt_of_lt_of_le (h.tidy.wg x hx) hz, fun x hx => Nat.lt_of_lt_of_le (h.tidy.rung x hx) hz⟩, fun x hx => (hb x (Nat.lt_of_lt_of_le hx h.size)).trans (h.same x hx), hs, he, Nat.le_trans h.size hz⟩
theorem Ends0.kept (h : Ends0 W b v w) (o : Off b.shun w w₁) (k : OldOk b w₁) : Kept W w₁ := by
  have e1 : b.oldN = W.heap.size := h.grew.old.1
  have e2 : b.old = W := h.grew.old.2
  refine ⟨k.sys.1.trans (by rw [e2]), k.sys.2.trans (by rw [e2]), by rw [← e1]; exact k.le, fun x hx => ?_⟩
  have hsh : b.shun x = oddZ W x := h.grew.shun x hx
  have hF : b.F x = 0 := h.grew.F x hx
  cases hz : oddZ W x with
  | true => rw [k.same x (by rw [e1]; exact hx) (by rw [hsh]; exact hz), e2]
  | false =>
    rw [o.heap x (by rw [hsh]; exact hz), ← h.sim.heap x (by rw [hsh]; exact hz) hF, h.same x hx, startV_ne hz]
end
end Go.Proofs.Ytaiinkeendejdaa
namespace Go.Proofs.Ytaiinkeendejdaa
open Go.ChangeShapes Go.WideShapes Go.ChangeAt Go.RowKit
set_option maxRecDepth 100000
theorem own : ownKnob Try.prog.godebug = none := by kernel_rfl
theorem laidOut : laidOutB Try.prog = true := by kernel_rfl
section
variable {W w : World}
theorem Kept.below (k : Kept W w) : Below W.heap.size W { w with tape := W.tape } := ⟨k.os, rfl, k.output, k.size, fun x hx => k.block x hx⟩
theorem Kept.same (k : Kept W w) {x : MemPlace} (hx : x.block < W.heap.size) : W.sameAt w x := k.below.same hx
theorem Kept.frozen (k : Kept W w) {a : Addr} (h : a.block < W.heap.size) : w.frozen? a = W.frozen? a := World.frozen?_of_block (k.block _ h)
theorem Kept.frame (k : Kept W w) (may : MemPlace → Prop) : W.keptBut w may := k.below.frame may
end
section
variable {H : Type} {enc : TypeId × Value → H} {P : Program}
/-- the arguments read again in a later world, below whose first size nothing has turned -/
theorem trodAll_stays (hl : laidOutB P = true) {W W' : World} {sp : Nat → Bool} : ∀ {ts : List TypeId} {vs : List Value} {ds : List (DataW H)} {ps : List MemPlace}, (ts.all fun t => P.readableRec t && decide (t < P.types.size)) = true →
    DataW.TrodAll enc P W 0 (fun _ => true) true ts vs ds ps → Kept W W' → (∀ x ∈ ps, x.block < W.heap.size) → (∀ x ∈ ps, sp x.block = true) → DataW.TrodAll enc P W' 0 sp true ts vs ds ps
  | [], [], [], _, _, h, _, _, _ => h
  | t :: ts, v :: vs, d :: ds, _, ht, ⟨p, q, h1, h2, e⟩, hb, hlt, hs => by
    subst e
    simp only [List.all_cons, Bool.and_eq_true, decide_eq_true_eq] at ht
    exact ⟨p, q, WideElems.Trod_stays hl ht.1.1 ht.1.2 h1 (fun x hx => hb.same (hlt x (List.mem_append_left _ hx))) (fun x hx => hs x (List.mem_append_left _ hx)),
      trodAll_stays hl ht.2 h2 hb (fun x hx => hlt x (List.mem_append_right _ hx)) (fun x hx => hs x (List.mem_append_right _ hx)), rfl⟩
/-- THE END OF A LAW: true, and what was there is as it was. -/
theorem law_post (hl : laidOutB P = true) {f : Func} {s : ChangeSpec} {apart fresh handsOn again : Bool} {W W' : World} {args : Array Value} {ds gs : List (DataW H)} {before : List MemPlace} {tb : TypeId}
    (hW : DataW.Whole enc P f.params.toList s.vars apart W args.toList ds gs before) (hv : s.vars = []) (hfn : s.fn H ds = { results := [.lit (.bool true)], args := ds })
    (hr : f.resultTypes = #[tb]) (ht : P.underlying tb = some .bool) (hts : (f.params.toList.all fun t => P.readableRec t && decide (t < P.types.size)) = true) (hb : Kept W W') :
    s.post enc P f apart fresh handsOn again W args (.bool true) W' := by
  have hlt : ∀ p ∈ before, p.block < W.heap.size := fun p hp => hW.lt p hp
  have hW' := hW
  obtain ⟨p, q, hA, hV, rfl, hz, hn⟩ := hW
  rw [hv] at hV
  obtain ⟨rfl, rfl⟩ := trodVars_none hV
  have hold : ∀ x ∈ p, (fun b => decide (b < W.heap.size)) x.block = true := fun x hx => by simpa using hlt x (List.mem_append_left _ hx)
  have hargs : ∀ sp : Nat → Bool, (∀ x ∈ p, sp x.block = true) → DataW.TrodAll enc P W' 0 sp true f.params.toList args.toList ds p := fun sp hs =>
    trodAll_stays hl hts hA hb (fun x hx => hlt x (List.mem_append_left _ hx)) hs
  have e : s.fn H (ds ++ []) = { results := [.lit (.bool true)], args := ds } := by rw [List.append_nil]; exact hfn
  have hres : ∀ (b : Nat) (sp : Nat → Bool) (hd : Bool), DataW.TrodAll enc P W' b sp hd f.resultTypes.toList ((Value.bool true).resultList f.resultTypes.size) (s.fn H (ds ++ [])).results [] := fun b sp hd => by
    rw [e, hr]
    exact trodAll_cons_mk (shut_bool ht _) trodAll_mk0
  have hargs' : ∀ sp : Nat → Bool, (∀ x ∈ p, sp x.block = true) → DataW.TrodAll enc P W' 0 sp true f.params.toList args.toList (s.fn H (ds ++ [])).args p := fun sp hs => by rw [e]; exact hargs sp hs
  have hvars' : ∀ sp : Nat → Bool, DataW.TrodVars enc P W' sp s.vars (s.fn H (ds ++ [])).vars [] := fun sp => by rw [e, hv]; rfl
  refine ⟨ds, [], _, [], p, [], hW', hres _ _ _, hargs' _ hold, hvars' _, World.keptBut_mono (fun x hx => ⟨hx, Or.inr (by simpa using hx)⟩) (hb.frame (· ∈ p ++ [])), fun _ => ?_⟩
  refine ⟨?_, _, _, ([] ++ p) ++ [], ⟨[] ++ p, [], trodAll_append (hargs' _ (fun _ _ => rfl)) (hres _ _ _), hvars' _, rfl, ?_, ?_⟩, ?_⟩
  · intro j t r hj hrv
    rw [hr] at hj hrv
    match j, hj, hrv with
    | 0, hj, hrv =>
      simp [Value.resultList] at hj hrv
      subst hj; subst hrv
      exact okWide_bool_mk ht _
  · intro b off hp
    have hin : MemPlace.cell b off ∈ p ++ [] := by simpa using hp
    rw [hb.frozen (hlt _ hin)]
    exact hz b off hin
  · intro ha
    have := hn ha
    simpa using this
  · intro x hx _
    simpa using hx
end

section
variable {H : Type} {enc : TypeId × Value → H} {W : World} {sp : Nat → Bool}
theorem cellsInt' : Try.prog.cellsOf 3 = 1 := by kernel_rfl
/-- a slice of int that came in -/
theorem intsI_open {b0 : Nat} {v : Value} {d : DataW H} {p : List MemPlace} (hv : Value.okWide Try.prog W .any b0 23 v) (h : DataW.Trod enc Try.prog W 0 (fun _ => true) true 23 v d p) :
    (v = .slice none 0 0 ∧ d = .nil) ∨ ∃ (ad : Addr) (c : Nat) (zs ys : List Int), v = .slice (some ad) zs.length c ∧ Sees W (some ad) zs ∧ zs.length ≤ c ∧ c ≤ maxLen ∧ (∀ z ∈ zs, -9223372036854775808 ≤ z ∧ z ≤ 9223372036854775807) ∧ ys.length = c ∧ d = .slice (lits .i64 zs) (lits .i64 (ys.drop zs.length)) := by
  obtain ⟨a, len, cap, rfl⟩ := okWide_slice Try.underlying23 hv
  obtain ⟨n, hf⟩ := h
  rcases open_ints Try.underlying23 Try.underlying3 cellsInt' hf with ⟨hcs, hx⟩ | ⟨a', len', cap', ys, hcs, _, hl, hm, hz, hx, hcell, hwz⟩
  · simp [Value.cells] at hcs
    obtain ⟨rfl, rfl, rfl⟩ := hcs
    simp only [Prod.mk.injEq] at hx
    exact Or.inl ⟨rfl, hx.1⟩
  · simp [Value.cells] at hcs
    obtain ⟨rfl, rfl, rfl⟩ := hcs
    simp only [Prod.mk.injEq] at hx
    simp only [if_true] at hz
    refine Or.inr ⟨a', cap, ys.take len, ys, by rw [List.length_take, Nat.min_eq_left (by omega)], ?_, by rw [List.length_take, Nat.min_eq_left (by omega)]; exact hl, hm, fun z hzm => ?_, hz, by rw [List.length_take, Nat.min_eq_left (by omega)]; exact hx.1⟩
    · by_cases h0 : ys.length = 0
      · have : ys.take len = [] := by rw [List.eq_nil_of_length_eq_zero h0]; simp
        rw [this]; exact Sees.nil _ _
      · obtain ⟨b, off, rfl, hc⟩ := Go.ints_at hcell (by omega)
        refine Sees.cells fun j hj => ?_
        have hj2 : j < len := by rw [List.length_take] at hj; omega
        rw [hc j (by omega), List.getD_eq_getElem?_getD, List.getD_eq_getElem?_getD, List.getElem?_take, if_pos hj2]
    · have hw := hwz z (List.mem_of_mem_take hzm)
      simp [Lit.wf, IntKind.min, IntKind.max, IntKind.signed, IntKind.bits] at hw
      exact ⟨by omega, by omega⟩
end
end Go.Proofs.Ytaiinkeendejdaa
