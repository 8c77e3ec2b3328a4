/-
  quash/quashlaw04.SchedRuns: what stands ahead of the call of Run, alone. No condition.
  And: quash/quashlaw04.SchedRuns: what stands behind the call of Run, alone. No condition.
  And: quash/quashlaw04.SchedRuns: its step as a step of Run; what stands behind the call of Run, alone. No condition.
  And: quash/quashlaw04.SchedRuns' step: every call, and as a step of Run. No condition.
  And: SCHED: a step that counts and tells its calls comes to the same marks as the plans' own; which calls are told. No condition.
-/
import Derived.Test.YtaiinkeendejdaaSchFairS
import Derived.Test.YtaiinkeendejdaaSchSome
import Derived.Test.YtaiinkeendejdaaSchUpto
import Derived.Maps.AppendAt
import Derived.Test.YtaiinkeendejdaaSchPlaysB
namespace Go.Proofs.Ytaiinkeendejdaa
open Go.RowKit
open Go.ConcN (upd upd_ne upd_same)
/-- what a step of SchedRuns answers; how often each was called; who was called -/
def runsNext (ps : List (List Int)) (s : (Nat → Nat) × List Int) (k : Int) : Int × ((Nat → Nat) × List Int) :=
  ((match (ps.getD (k - 1).toNat [])[s.1 (k - 1).toNat]? with
    | some x => x
    | none => 4), (upd s.1 (k - 1).toNat (s.1 (k - 1).toNat + 1), s.2 ++ [k]))
/-- the calls that marks tell of -/
def callsL (ms : List Mk) : List Int := (ms.zipIdx.filter fun x => !endP (ms.take x.2) x.1.2.1).map fun x => x.1.2.1
theorem callsL_app (ms : List Mk) (x : Mk) : callsL (ms ++ [x]) = callsL ms ++ (if endP ms x.2.1 then [] else [x.2.1]) := by
  unfold callsL
  rw [List.zipIdx_append, List.filter_append, List.map_append]
  congr 1
  · congr 1
    refine List.filter_congr fun y hy => ?_
    have := (List.mem_zipIdx hy).2.1
    rw [List.take_append_of_le_length (by omega)]
  · simp only [List.zipIdx_singleton, Nat.zero_add]
    rw [List.filter_cons, List.take_left]
    cases endP ms x.2.1 <;> simp
structure RunsRel (n : Nat) (x : ((Nat → Nat) × List Int) × (Nat → Bool) × List Mk) (y : (Nat → Nat) × (Nat → Bool) × List Mk) : Prop where
  e : x.2.1 = y.2.1
  ms : x.2.2 = y.2.2
  ends : ∀ t, t < n → y.2.1 t = endP y.2.2 ((t : Int) + 1)
  at_ : ∀ t, t < n → y.2.1 t = false → x.1.1 t = y.1 t
  told : x.1.2 = callsL y.2.2
theorem RunsRel.pick {ps : List (List Int)} {n k : Nat} {x : ((Nat → Nat) × List Int) × (Nat → Bool) × List Mk} {y : (Nat → Nat) × (Nat → Bool) × List Mk} (R : RunsRel n x y) (hk : k < n) : RunsRel n (rstep (runsNext ps) x k) (rstep (planNext ps) y k) := by
  obtain ⟨⟨s1, o⟩, e1, m1⟩ := x
  obtain ⟨s2, e2, m2⟩ := y
  obtain ⟨he, hm, h3, h4, h5⟩ := R
  simp only at he hm h3 h4 h5
  subst he
  subst hm
  have etn : ((k : Int) + 1 - 1).toNat = k := by omega
  have hoth : ∀ (a b : Int) (t : Nat), t ≠ k → endP (m1 ++ [(a, (k : Int) + 1, b)]) ((t : Int) + 1) = endP m1 ((t : Int) + 1) := fun a b t h => by
    rw [endP_app]
    have : ((k : Int) + 1 == (t : Int) + 1) = false := by simp; omega
    simp [this]
  by_cases hek : e1 k = true
  · have hE : endP m1 ((k : Int) + 1) = true := (h3 k hk).symm.trans hek
    have e1' : rstep (runsNext ps) ((s1, o), e1, m1) k = ((s1, o), e1, m1 ++ [((m1.length : Int) + 1, (k : Int) + 1, 4)]) := by unfold rstep; rw [if_pos hek]
    have e2' : rstep (planNext ps) (s2, e1, m1) k = (s2, e1, m1 ++ [((m1.length : Int) + 1, (k : Int) + 1, 4)]) := by unfold rstep; rw [if_pos hek]
    rw [e1', e2']
    refine ⟨rfl, rfl, fun t ht => ?_, h4, ?_⟩
    · dsimp only
      by_cases h : t = k
      · subst h; rw [hek, endP_app, hE]; rfl
      · rw [hoth _ _ _ h]; exact h3 t ht
    · dsimp only
      rw [callsL_app, if_pos hE, List.append_nil]; exact h5
  · have hek : e1 k = false := by simpa using hek
    have hE : endP m1 ((k : Int) + 1) = false := (h3 k hk).symm.trans hek
    have hsk := h4 k hk hek
    have hans : (runsNext ps (s1, o) ((k : Int) + 1)).1 = (planNext ps s2 ((k : Int) + 1)).1 := by
      unfold runsNext planNext
      rw [etn]
      dsimp only
      rw [hsk]
      cases (ps.getD k [])[s2 k]? <;> rfl
    obtain ⟨a, ha⟩ : ∃ a, a = (planNext ps s2 ((k : Int) + 1)).1 := ⟨_, rfl⟩
    have hn : ¬ (e1 k = true) := by rw [hek]; decide
    have e1' : rstep (runsNext ps) ((s1, o), e1, m1) k = ((upd s1 k (s1 k + 1), o ++ [(k : Int) + 1]), upd e1 k (a == 4), m1 ++ [((m1.length : Int) + 1, (k : Int) + 1, a)]) := by
      unfold rstep
      rw [if_neg hn, hans, ← ha]
      have : (runsNext ps (s1, o) ((k : Int) + 1)).2 = (upd s1 k (s1 k + 1), o ++ [(k : Int) + 1]) := by unfold runsNext; rw [etn]
      rw [this]
    have e2' : rstep (planNext ps) (s2, e1, m1) k = ((planNext ps s2 ((k : Int) + 1)).2, upd e1 k (a == 4), m1 ++ [((m1.length : Int) + 1, (k : Int) + 1, a)]) := by
      unfold rstep
      rw [if_neg hn, ← ha]
    rw [e1', e2']
    refine ⟨rfl, rfl, fun t ht => ?_, fun t ht het => ?_, ?_⟩
    · dsimp only
      by_cases h : t = k
      · subst h; rw [upd_same, endP_app, hE]; simp
      · rw [upd_ne _ _ h, hoth _ _ _ h]; exact h3 t ht
    · dsimp only at het ⊢
      by_cases h : t = k
      · subst h
        rw [upd_same] at het
        rw [upd_same, hsk]
        unfold planNext at ha ⊢
        rw [etn] at ha ⊢
        cases hx : (ps.getD t [])[s2 t]? with
        | none => rw [hx] at ha; rw [ha] at het; cases het
        | some z => dsimp only; rw [upd_same]
      · rw [upd_ne _ _ h] at het ⊢
        have : (planNext ps s2 ((k : Int) + 1)).2 t = s2 t := by
          unfold planNext
          rw [etn]
          cases (ps.getD k [])[s2 k]? with
          | none => rfl
          | some z => exact upd_ne _ _ h
        rw [this]
        exact h4 t ht het
    · dsimp only
      rw [callsL_app, if_neg (by rw [hE]; decide), h5]
theorem RunsRel.drain {ps : List (List Int)} {n : Nat} : ∀ (d fr : Nat) {x : ((Nat → Nat) × List Int) × (Nat → Bool) × List Mk} {y : (Nat → Nat) × (Nat → Bool) × List Mk}, RunsRel n x y → RunsRel n (drainS (runsNext ps) n d fr x) (drainS (planNext ps) n d fr y)
  | 0, _, _, _, R => R
  | d + 1, fr, x, y, R => by
    cases hk : nextS y.2.1 n fr with
    | none =>
      rw [drainS_none hk, drainS_none (by rw [R.e]; exact hk)]
      exact R
    | some k =>
      rw [drainS_some hk, drainS_some (by rw [R.e]; exact hk)]
      exact RunsRel.drain d (k + 1) (R.pick (nextS_lt hk))
theorem runs_rel {ps : List (List Int)} {n : Nat} (h0 : 0 < n) : ∀ (l : List Int) {x : ((Nat → Nat) × List Int) × (Nat → Bool) × List Mk} {y : (Nat → Nat) × (Nat → Bool) × List Mk}, RunsRel n x y → RunsRel n (l.foldl (fun x p => rstep (runsNext ps) x (roundS n p)) x) (l.foldl (fun x p => rstep (planNext ps) x (roundS n p)) y)
  | [], _, _, R => R
  | p :: l, _, _, R => by
    rw [List.foldl_cons, List.foldl_cons]
    exact runs_rel h0 l (R.pick (roundS_lt p (by omega)))
/-- the same marks; who was called -/
theorem runs_play (ps : List (List Int)) (l : List Int) (D : Int) : (runR (runsNext ps) ps.length l D (fun _ => 0, [])).2 = playR ps l D ∧ (runR (runsNext ps) ps.length l D (fun _ => 0, [])).1.2 = callsL (playR ps l D).1 := by
  unfold playR runR
  by_cases h : wrongS ps.length l.length D = 0
  · rw [if_pos h, if_pos h]
    obtain ⟨h1, _⟩ := wrong_ok h
    have R := RunsRel.drain (ps := ps) D.toNat 0 (runs_rel (ps := ps) (n := ps.length) (by omega) l (x := ((fun _ => 0, []), fun _ => false, [])) (y := (fun _ => 0, fun _ => false, [])) ⟨rfl, rfl, fun t _ => rfl, fun t _ _ => rfl, rfl⟩)
    refine ⟨?_, R.told⟩
    show ((runS (runsNext ps) ps.length l D.toNat (fun _ => 0, [])).2.2, (0 : Int)) = ((runS (planNext ps) ps.length l D.toNat fun _ => 0).2.2, 0)
    have e : (runS (runsNext ps) ps.length l D.toNat (fun _ => 0, [])).2.2 = (runS (planNext ps) ps.length l D.toNat fun _ => 0).2.2 := R.ms
    rw [e]
  · rw [if_neg h, if_neg h]
    exact ⟨rfl, rfl⟩
end Go.Proofs.Ytaiinkeendejdaa
namespace Go.Proofs.Ytaiinkeendejdaa
open Go.RowKit Go.Conc Go.ConcR.Gen Go.ConcN.Gen
open Go.ConcN (sumTo upd sumTo_upd upd_ne upd_same WgLive)
set_option maxRecDepth 100000
theorem wpList_appendAt {w : World} {B : Nat} {v : Value} {xs : List Int} (hown : Own w B v xs) (hB : B ≤ w.heap.size) (g c : Nat) (z : Int) (hs : w.cell? ⟨g, 0, none⟩ = some (.int .i64 z)) (hb : xs.length < 2000000)
    {ops : Array Oper} {Q : Exit → Act → World → Prop} {a : Act} {rest : List Oper} {o : Oper} (hgd : o.guard = none) (s x : Operand) (hop : o.op = Op.call { callee := Callee.builtin Builtin.append, args := #[s, x], argTypes := #[23, 23] })
    (ev : a.eval s = v) (hx : a.eval x = .slice (some ⟨g, 0, none⟩) 1 c)
    (hK : ∀ v' w', Own w' B v' (xs ++ [z]) → w.grownBy w' v.ownBlock → (v'.ownBlock = v.ownBlock ∨ v'.ownBlock = some w.heap.size) → wpList Try.prog ops Q rest (a.put o.dst v') w') : wpList Try.prog ops Q (o :: rest) a w := by
  obtain ⟨i0, hi, hz0, hz1, hz2⟩ := info_parts infoI64
  have hnews : ∀ j u, (i64s [z])[j]? = some u → w.cell? ((⟨g, 0, none⟩ : Addr).add j) = some u := fun j u hj => by
    match j, hj with
    | 0, hj =>
      simp [i64s] at hj
      subst hj
      simpa [Addr.add] using hs
    | j + 1, hj => simp [i64s] at hj
  exact wpList_append_own_at _ hgd s x 23 hop B 3 i0 (.int .i64 0) 1 8 Try.underlying23 hi hz0 hz1 hz2 rfl (by decide) v xs.length (i64s xs) ev hown ⟨g, 0, none⟩ 1 c (i64s [z]) hx (by simp [i64s]) hnews i64s_one (by unfold maxLen; omega) (by omega) hB
    (fun v' w' h1 h2 _ h4 => hK v' w' (by unfold Own; rw [List.length_append, i64s_app]; exact h1) h2 h4)
/-- what a step leaves -/
structure RunsStep (N ovb sb t st : Nat) (ov : Value) (o : List Int) (w w' : World) : Prop where
  order : ∃ ov', w'.cell? ⟨ovb, 0, none⟩ = some ov' ∧ Own w' N ov' (o ++ [(t : Int) + 1]) ∧ (ov'.ownBlock = ov.ownBlock ∨ ∃ g, ov'.ownBlock = some g ∧ w.heap.size ≤ g)
  step : w'.cell? ⟨sb, t + 1, none⟩ = some (.int .i64 ((st : Int) + 1))
  other : ∀ i, i ≠ t + 1 → w'.cell? ⟨sb, i, none⟩ = w.cell? ⟨sb, i, none⟩
  warm : ∀ x i, x = ovb ∨ x = sb → w'.frozen? ⟨x, i, none⟩ = w.frozen? ⟨x, i, none⟩
  size : w.heap.size ≤ w'.heap.size
  same : ∀ x, x < w.heap.size → x ≠ ovb → x ≠ sb → some x ≠ ov.ownBlock → w'.heap[x]? = w.heap[x]?
theorem own_lt {w : World} {B : Nat} {v : Value} {l : List Int} (h : Own w B v l) {g : Nat} (hg : v.ownBlock = some g) : g < w.heap.size := by
  obtain ⟨cur, hc⟩ := own_block h hg
  exact (Array.getElem?_eq_some_iff.1 hc).1
theorem runs_step_end {N ovb sb t st : Nat} {ov v3 : Value} {o : List Int} {w w3 : World} {ob : Obj} (hN : N ≤ w.heap.size) (h1 : ovb < N) (h2 : sb < N) (h3 : ovb ≠ sb) (hown : Own w N ov o) (hown3 : Own w3 N v3 (o ++ [(t : Int) + 1])) (hg : (w.alloc ob).grownBy w3 ov.ownBlock) (hloc : v3.ownBlock = ov.ownBlock ∨ v3.ownBlock = some (w.alloc ob).heap.size)
    (hc : ∃ u, w.cell? ⟨ovb, 0, none⟩ = some u) (hs : ∃ u, w.cell? ⟨sb, t + 1, none⟩ = some u) : RunsStep N ovb sb t st ov o w ((w3.setCell ⟨ovb, 0, none⟩ v3).setCell ⟨sb, t + 1, none⟩ (.int .i64 ((st : Int) + 1))) := by
  have low : ∀ x, x < N → some x ≠ ov.ownBlock := fun x hx e => by have := own_ge hown e.symm; omega
  have hz : (w.alloc ob).heap.size = w.heap.size + 1 := by simp
  have hb : ∀ x, x < w.heap.size → some x ≠ ov.ownBlock → w3.heap[x]? = w.heap[x]? := fun x hx hne => (hg.block x (by omega) hne).trans (Below.heap_alloc _ _ _ hx)
  have bo : w3.heap[ovb]? = w.heap[ovb]? := hb ovb (by omega) (low _ h1)
  have bs : w3.heap[sb]? = w.heap[sb]? := hb sb (by omega) (low _ h2)
  have ho3 : ((w3.setCell ⟨ovb, 0, none⟩ v3).setCell ⟨sb, t + 1, none⟩ (.int .i64 ((st : Int) + 1))).heap[ovb]? = (w3.setCell ⟨ovb, 0, none⟩ v3).heap[ovb]? := Below.heap_setCell _ _ _ _ h3
  obtain ⟨u, hu⟩ := hc
  obtain ⟨u2, hu2⟩ := hs
  refine ⟨⟨v3, (World.cell?_of_block (a := ⟨ovb, 0, none⟩) ho3).trans (World.cell?_setCell_same _ _ _ ((World.cell?_of_block (a := ⟨ovb, 0, none⟩) bo).trans hu)), ownsRow_at hown3 fun g hg' => ?_, ?_⟩, ?_, fun i hi => ?_, fun x i hx => ?_, ?_, fun x hx n1 n2 n3 => ?_⟩
  · have := own_ge hown3 hg'
    exact (Below.heap_setCell _ _ _ _ (by simp only; omega)).trans (Below.heap_setCell _ _ _ _ (by simp only; omega))
  · exact hloc.imp id fun e => ⟨_, e, by omega⟩
  · exact World.cell?_setCell_same _ _ _ ((World.cell?_setCell_other _ _ _ _ (fun e => h3 (congrArg Addr.block e))).trans ((World.cell?_of_block (a := ⟨sb, t + 1, none⟩) bs).trans hu2))
  · rw [World.cell?_setCell_other _ _ _ _ (fun e => hi (congrArg Addr.off e).symm), World.cell?_setCell_other _ _ _ _ (fun e => h3 (congrArg Addr.block e))]
    exact World.cell?_of_block (a := ⟨sb, i, none⟩) bs
  · rw [frozen_setCell, frozen_setCell]
    rcases hx with rfl | rfl
    · exact World.frozen?_of_block (a := ⟨x, i, none⟩) bo
    · exact World.frozen?_of_block (a := ⟨x, i, none⟩) bs
  · have := hg.size
    simp only [World.size_setCell]
    omega
  · exact (Below.heap_setCell _ _ _ _ n2).trans ((Below.heap_setCell _ _ _ _ n1).trans (hb x hx n3))
def ansR (ps : List (List Int)) (t st : Nat) : Int := match (ps.getD t [])[st]? with
  | some x => x
  | none => 4
set_option maxHeartbeats 4000000 in
theorem runs1_any {N ovb pvb sb qc n t st : Nat} {ro : Option Addr} {ov : Value} {o : List Int} {ps : List (List Int)} {w : World} (hN : N ≤ w.heap.size) (h1 : ovb < N) (h2 : sb < N) (h3 : ovb ≠ sb) (h4 : pvb < N) (h5 : pvb ≠ ovb) (h6 : pvb ≠ sb) (ho : w.cell? ⟨ovb, 0, none⟩ = some ov) (hfo : w.frozen? ⟨ovb, 0, none⟩ = false) (hown : Own w N ov o) (hol : o.length < 1000000)
    (hp : w.cell? ⟨pvb, 0, none⟩ = some (.slice ro n qc)) (hrows : Plans (fun x => x < N ∧ x ≠ ovb ∧ x ≠ sb) w ro ps) (hpl : ps.length = n) (ht : t < n) (h8 : n ≤ 8) (hst : w.cell? ⟨sb, t + 1, none⟩ = some (.int .i64 (st : Nat))) (hfs : w.frozen? ⟨sb, t + 1, none⟩ = false) (hst6 : st < 1000000) :
    Calls Try.prog 20 #[.int .i64 ((t : Int) + 1), .pointer (some ⟨ovb, 0, none⟩), .pointer (some ⟨pvb, 0, none⟩), .pointer (some ⟨sb, 0, none⟩)] w fun e w' => e = .returned (.int .i64 (ansR ps t st)) ∧ RunsStep N ovb sb t st ov o w w' := by
  obtain ⟨l, hl⟩ : ∃ l, ps[t]? = some l := ⟨_, List.getElem?_eq_getElem (by omega)⟩
  obtain ⟨p, u0, la, lc, rfl, hpK, hpc, hlm, hrow⟩ := hrows t l hl
  have hA : ansR ps t st = (match l[st]? with | some x => x | none => 4) := by unfold ansR; rw [List.getD_eq_getElem?_getD, hl]; rfl
  rw [hA]
  obtain ⟨AV, hAV⟩ : ∃ AV, AV = (match l[st]? with | some x => x | none => 4) := ⟨_, rfl⟩
  rw [← hAV]
  have HAV := Lib.hid hAV
  clear hAV
  obtain ⟨L, hL⟩ : ∃ L, L = l.length := ⟨_, rfl⟩
  rw [← hL] at hpc hlm
  unfold maxLen at hlm
  obtain ⟨T, hT⟩ : ∃ T, T = t + 1 := ⟨_, rfl⟩
  have hTi : (t : Int) + 1 = (T : Int) := by omega
  rw [← hT] at hst hfs
  rw [hTi]
  have low : ∀ x, x < N → some x ≠ ov.ownBlock := fun x hx e => by have := own_ge hown e.symm; omega
  have ht1 : decide ((T : Int) < 1) = false := by rw [decide_eq_false_iff_not]; omega
  have ht1b : decide (T < 1) = false := by rw [decide_eq_false_iff_not]; omega
  have ht1c : decide (T = 0) = false := by rw [decide_eq_false_iff_not]; omega
  have ht2 : decide ((n : Int) < (T : Int)) = false := by rw [decide_eq_false_iff_not]; omega
  have ht2b : decide (n < T) = false := by rw [decide_eq_false_iff_not]; omega
  have hlo : (0 : Int) ≤ (T : Int) := by omega
  have hhi : (T : Int) < 9 := by omega
  have hlo3 : (0 : Int) ≤ (t : Int) := by omega
  have hhi3 : (t : Int) < (n : Int) := by omega
  have w1 : IntKind.i64.wrap ((st : Int) + 1) = (st : Int) + 1 := by rw [IntKind.wrap_i64]; omega
  have w3 : IntKind.i64.wrap ((T : Int) - 1) = (t : Int) := by rw [IntKind.wrap_i64]; omega
  have HL := Lib.hid hL
  have HT := Lib.hid hT
  have HTI := Lib.hid hTi
  have HO := Lib.hid hown
  have HROW := Lib.hid hrow
  have HW := Lib.hid (⟨_, ho⟩ : ∃ u, w.cell? ⟨ovb, 0, none⟩ = some u)
  have HW2 := Lib.hid (⟨_, hst⟩ : ∃ u, w.cell? ⟨sb, T, none⟩ = some u)
  clear hL hT hTi hrow hrows hl hA
  go_enter Try.func20, Try.ntmps20
  go_upto_region 2 with (first | (at_builtin; refine wpList_appendAt (B := N) (ownsRow_at HO.out fun g hg => Below.heap_alloc _ _ _ (own_lt HO.out hg)) (by simp <;> omega) w.heap.size 1 (T : Int) (cell_alloc_new _ _ _) (by omega) rfl _ _ rfl rfl rfl ?_; intro v3 w3' hown3 hg3 hloc3; obtain ⟨g', c', rfl⟩ : ∃ g' c', v3 = .slice (some ⟨g', 0, none⟩) (o.length + 1) c' := (by rcases hown3.form with ⟨_, e⟩ | ⟨g', c', e, _⟩; (exfalso; simp at e); (exact ⟨g', c', by simpa using e⟩)); have hblk : w3'.heap[ovb]? = w.heap[ovb]? := ((hg3.block ovb (by simp <;> omega) (low _ h1)).trans (Below.heap_alloc _ _ _ (by omega))); have hcell' : w3'.cell? ⟨ovb, 0, none⟩ = some ov := ((World.cell?_of_block (a := ⟨ovb, 0, none⟩) hblk).trans ho); have hfz' : w3'.frozen? ⟨ovb, 0, none⟩ = false := ((World.frozen?_of_block (a := ⟨ovb, 0, none⟩) hblk).trans hfo)))
  have hz3 : (w.alloc (.cells #[.int .i64 (T : Int)] 3)).heap.size = w.heap.size + 1 := by simp
  have hfin : RunsStep N ovb sb t st ov o w ((w3'.setCell ⟨ovb, 0, none⟩ (.slice (some ⟨g', 0, none⟩) (o.length + 1) c')).setCell ⟨sb, T, none⟩ (.int .i64 ((st : Int) + 1))) := by
    have h := runs_step_end (t := t) (st := st) hN h1 h2 h3 HO.out (by rw [HTI.out]; exact hown3) hg3 hloc3 HW.out (by rw [← HT.out]; exact HW2.out)
    rw [← HT.out] at h
    exact h
  obtain ⟨W4, hW4⟩ : ∃ W4, W4 = w3'.setCell ⟨ovb, 0, none⟩ (.slice (some ⟨g', 0, none⟩) (o.length + 1) c') := ⟨_, rfl⟩
  have hb4 : ∀ x, x < N → x ≠ ovb → W4.heap[x]? = w.heap[x]? := fun x hx hne => by
    rw [hW4]
    exact (Below.heap_setCell _ _ _ _ hne).trans ((hg3.block x (by omega) (low x hx)).trans (Below.heap_alloc _ _ _ (by omega)))
  rw [← hW4] at hfin ⊢
  have HFIN := Lib.hid hfin
  have cp4 : W4.cell? ⟨pvb, 0, none⟩ = some (.slice (some ⟨p, u0, none⟩) n qc) := (World.cell?_of_block (a := ⟨pvb, 0, none⟩) (hb4 pvb h4 h5)).trans hp
  have cs4 : W4.cell? ⟨sb, T, none⟩ = some (.int .i64 (st : Nat)) := (World.cell?_of_block (a := ⟨sb, T, none⟩) (hb4 sb h2 (Ne.symm h3))).trans hst
  have fs4 : W4.frozen? ⟨sb, T, none⟩ = false := (World.frozen?_of_block (a := ⟨sb, T, none⟩) (hb4 sb h2 (Ne.symm h3))).trans hfs
  have cp5 : (W4.setCell ⟨sb, T, none⟩ (.int .i64 ((st : Int) + 1))).cell? ⟨pvb, 0, none⟩ = some (.slice (some ⟨p, u0, none⟩) n qc) := (World.cell?_setCell_other _ _ _ _ (fun e => h6 (congrArg Addr.block e).symm)).trans cp4
  have cr5 : (W4.setCell ⟨sb, T, none⟩ (.int .i64 ((st : Int) + 1))).cell? ⟨p, u0 + t, none⟩ = some (.slice la L lc) := (World.cell?_setCell_other _ _ _ _ (fun e => hpK.2.2 (congrArg Addr.block e).symm)).trans ((World.cell?_of_block (a := ⟨p, u0 + t, none⟩) (hb4 p hpK.1 hpK.2.1)).trans hpc)
  have HB4 := Lib.hid hb4
  clear hb4 hW4 hfin hown3 hg3 hloc3 hblk hcell' hfz' ho hfo hown hst hfs hp hpc low
  cases hx : l[st]? with
  | none =>
    have hAV : AV = 4 := by rw [HAV.out, hx]
    subst hAV
    have hge : L ≤ st := by rw [HL.out]; exact List.getElem?_eq_none_iff.1 hx
    have hd : decide ((L : Int) ≤ (st : Int)) = true := by rw [decide_eq_true_eq]; omega
    have hd2 : decide (L ≤ st) = true := by rw [decide_eq_true_eq]; omega
    clear hx
    go_wp2
    go_ret
    exact ⟨rfl, HFIN.out⟩
  | some x =>
    have hAV : AV = x := by rw [HAV.out, hx]
    subst hAV
    have hlt : st < L := by rw [HL.out]; exact (List.getElem?_eq_some_iff.1 hx).1
    have hd : decide ((L : Int) ≤ (st : Int)) = false := by rw [decide_eq_false_iff_not]; omega
    have hd2 : decide (L ≤ st) = false := by rw [decide_eq_false_iff_not]; omega
    obtain ⟨q, u, rfl, hqK, hqc⟩ := HROW.out st AV hx
    have cq5 : (W4.setCell ⟨sb, T, none⟩ (.int .i64 ((st : Int) + 1))).cell? ⟨q, u + st, none⟩ = some (.int .i64 AV) := (World.cell?_setCell_other _ _ _ _ (fun e => hqK.2.2 (congrArg Addr.block e).symm)).trans ((World.cell?_of_block (a := ⟨q, u + st, none⟩) (HB4.out q hqK.1 hqK.2.1)).trans hqc)
    have hlo5 : (0 : Int) ≤ (st : Int) := by omega
    have hhi5 : (st : Int) < (L : Int) := by omega
    clear hx hqc
    go_wp2
    go_ret
    exact ⟨rfl, HFIN.out⟩
end Go.Proofs.Ytaiinkeendejdaa
namespace Go.Proofs.Ytaiinkeendejdaa
open Go.RowKit Go.Conc Go.ConcR.Gen Go.ConcN.Gen
open Go.ConcN (sumTo upd sumTo_upd upd_ne upd_same WgLive)
set_option maxRecDepth 100000
structure RunsSt (N₀ ovb pvb sb : Nat) (ro : Option Addr) (qc : Nat) (ps : List (List Int)) (m : Nat) (s : (Nat → Nat) × List Int) (O : Nat → Prop) (v : World) : Prop where
  own : ∀ x, O x ↔ x = ovb ∨ x = sb ∨ ∃ ov, v.cell? ⟨ovb, 0, none⟩ = some ov ∧ ov.ownBlock = some x
  low : ovb < N₀ ∧ pvb < N₀ ∧ sb < N₀ ∧ ovb ≠ sb ∧ pvb ≠ ovb ∧ pvb ≠ sb
  size : N₀ ≤ v.heap.size
  order : ∃ ov, v.cell? ⟨ovb, 0, none⟩ = some ov ∧ Own v N₀ ov s.2
  told : s.2.length ≤ m
  plans : v.cell? ⟨pvb, 0, none⟩ = some (.slice ro ps.length qc)
  rows : Plans (fun x => x < N₀ ∧ x ≠ ovb ∧ x ≠ sb) v ro ps
  cells : ∀ t, t < ps.length → t < 8 → v.cell? ⟨sb, t + 1, none⟩ = some (.int .i64 (s.1 t : Nat)) ∧ s.1 t ≤ m
  warm : ∀ i, v.frozen? ⟨ovb, i, none⟩ = false ∧ v.frozen? ⟨sb, i, none⟩ = false
theorem RunsSt.still (N₀ ovb pvb sb : Nat) (ro : Option Addr) (qc : Nat) (ps : List (List Int)) : JStill N₀ (RunsSt N₀ ovb pvb sb ro qc ps) := fun m s O v v' H h => by
  obtain ⟨l1, l2, l3, l4, l5, l6⟩ := H.low
  have bo : v'.heap[ovb]? = v.heap[ovb]? := h ovb (.inl l1)
  have bs : v'.heap[sb]? = v.heap[sb]? := h sb (.inl l3)
  have co : ∀ i, v'.cell? ⟨ovb, i, none⟩ = v.cell? ⟨ovb, i, none⟩ := fun i => World.cell?_of_block (a := ⟨ovb, i, none⟩) bo
  have cs : ∀ i, v'.cell? ⟨sb, i, none⟩ = v.cell? ⟨sb, i, none⟩ := fun i => World.cell?_of_block (a := ⟨sb, i, none⟩) bs
  obtain ⟨ov, o1, o2⟩ := H.order
  refine ⟨fun x => by rw [co 0]; exact H.own x, H.low, ?_, ⟨ov, (co 0).trans o1, ownsRow_at o2 fun g hg => h g (.inr ((H.own g).2 (.inr (.inr ⟨ov, o1, hg⟩))))⟩, H.told, (World.cell?_of_block (a := ⟨pvb, 0, none⟩) (h pvb (.inl l2))).trans H.plans, H.rows.at (fun _ h => h) (fun x hx => h x (.inl hx.1)), fun t ht h8 => ⟨(cs _).trans (H.cells t ht h8).1, (H.cells t ht h8).2⟩,
    fun i => ⟨(World.frozen?_of_block (a := ⟨ovb, i, none⟩) bo).trans (H.warm i).1, (World.frozen?_of_block (a := ⟨sb, i, none⟩) bs).trans (H.warm i).2⟩⟩
  rcases Nat.lt_or_ge v'.heap.size N₀ with hlt | hge
  · exfalso
    have h1 := h v'.heap.size (.inl hlt)
    have h2 : v'.heap[v'.heap.size]? = none := Array.getElem?_eq_none_iff.2 (Nat.le_refl _)
    rw [h2] at h1
    have := Array.getElem?_eq_none_iff.1 h1.symm
    have := H.size
    omega
  · exact hge
section
variable {Post : Value → World → Prop}
theorem runs_step {N₀ ovb pvb sb qc : Nat} {ro : Option Addr} {ps : List (List Int)} (h8 : ps.length ≤ 8) :
    StepC Try.prog 64 Post 20 #[.pointer (some ⟨ovb, 0, none⟩), .pointer (some ⟨pvb, 0, none⟩), .pointer (some ⟨sb, 0, none⟩)] ps.length (RunsSt N₀ ovb pvb sb ro qc ps) (runsNext ps) := by
  intro b h c cs v w m s O k _ _ hk1 hkn hm H hs he hO hcaps hty fin
  obtain ⟨t, rfl⟩ : ∃ t : Nat, k = (t : Int) + 1 := ⟨(k - 1).toNat, by omega⟩
  have ht : t < ps.length := by omega
  have etn : ((t : Int) + 1 - 1).toNat = t := by omega
  obtain ⟨l1, l2, l3, l4, l5, l6⟩ := H.low
  obtain ⟨ov, o1, o2⟩ := H.order
  obtain ⟨c1, c2⟩ := H.cells t ht (by omega)
  have htold := H.told
  have nZ : ∀ x, v.heap.size ≤ x → b.shun x = false := fun x hx => by
    cases e : b.shun x with
    | false => rfl
    | true => have := hs.low x e; rw [← hs.size] at this; omega
  have nF : ∀ x, v.heap.size ≤ x → b.F x = 0 := fun x hx => by
    by_cases hf : b.F x = 0
    · exact hf
    · have := hs.iceLow hf
      rw [← hs.size] at this
      omega
  have hnext : runsNext ps s ((t : Int) + 1) = (ansR ps t (s.1 t), (upd s.1 t (s.1 t + 1), s.2 ++ [(t : Int) + 1])) := by
    unfold runsNext ansR
    first | (rw [etn]; done) | (rw [etn]; rfl)
  rw [hnext] at fin
  refine At.callee (R := fun a v' => a = .int .i64 (ansR ps t (s.1 t)) ∧ RunsStep N₀ ovb sb t (s.1 t) ov s.2 v v') lones_fun (by kernel_rfl) Try.func20 rfl rfl rfl (fun x _ => .any _) he hs (fun T => ?_) (fun a v' T d w' _ he' hR hs' => ?_)
  · refine (runs1_any (w := onT v T 0) H.size l1 l3 l4 l2 l5 l6 o1 (H.warm 0).1 o2 (by omega) H.plans H.rows rfl ht h8 c1 (H.warm (t + 1)).2 (by omega)).mono ?_
    rintro e w' ⟨rfl, h2⟩
    exact ⟨_, rfl, rfl, ⟨h2.order, h2.step, h2.other, h2.warm, h2.size, h2.same⟩⟩
  obtain ⟨rfl, hR⟩ := hR
  obtain ⟨⟨ov', r1, r2, r3⟩, r4, r5, r6, r7, r8⟩ := hR
  have r1 : v'.cell? ⟨ovb, 0, none⟩ = some ov' := r1
  have r2 : Own v' N₀ ov' (s.2 ++ [(t : Int) + 1]) := r2
  have r4 : v'.cell? ⟨sb, t + 1, none⟩ = some (.int .i64 ((s.1 t : Nat) + 1)) := r4
  have r5 : ∀ i, i ≠ t + 1 → v'.cell? ⟨sb, i, none⟩ = v.cell? ⟨sb, i, none⟩ := r5
  have r6 : ∀ x i, x = ovb ∨ x = sb → v'.frozen? ⟨x, i, none⟩ = v.frozen? ⟨x, i, none⟩ := r6
  have r7 : v.heap.size ≤ v'.heap.size := r7
  have r8 : ∀ x, x < v.heap.size → x ≠ ovb → x ≠ sb → some x ≠ ov.ownBlock → v'.heap[x]? = v.heap[x]? := r8
  have hsz := H.size
  have low : ∀ x, x < N₀ → some x ≠ ov.ownBlock := fun x hx e => by have := own_ge o2 e.symm; omega
  refine fin b v' w' (fun x => x = ovb ∨ x = sb ∨ ∃ o', v'.cell? ⟨ovb, 0, none⟩ = some o' ∧ o'.ownBlock = some x) ⟨Nat.le_refl _, rfl, fun _ _ => rfl, fun _ => Nat.le_refl _, fun _ _ => rfl, fun _ _ => rfl, rfl, rfl, rfl, rfl, rfl⟩
    ⟨fun x st s' h1 c' h2 => Nat.lt_of_lt_of_le (hty.seat x st s' h1 c' h2) r7, fun x hx => Nat.lt_of_lt_of_le (hty.wg x hx) r7, fun x hx => Nat.lt_of_lt_of_le (hty.rung x hx) r7⟩
    ⟨fun x => Iff.rfl, H.low, Nat.le_trans hsz r7, ⟨ov', r1, r2⟩, by rw [List.length_append, List.length_singleton]; omega, (World.cell?_of_block (a := ⟨pvb, 0, none⟩) (r8 pvb (by omega) l5 l6 (low _ l2))).trans H.plans, H.rows.at (fun _ h => h) (fun x hx => r8 x (by have := hx.1; omega) hx.2.1 hx.2.2 (low _ hx.1)), fun i hi hi8 => ?_, fun i => ⟨(r6 ovb i (.inl rfl)).trans (H.warm i).1, (r6 sb i (.inr rfl)).trans (H.warm i).2⟩⟩
    (fun x hx => ?_) (fun x hx => ?_) hs' he' r7 (fun x hx hnO => r8 x hx (fun e => hnO ((H.own x).2 (.inl e))) (fun e => hnO ((H.own x).2 (.inr (.inl e)))) fun e => hnO ((H.own x).2 (.inr (.inr ⟨ov, o1, e.symm⟩))))
  · obtain ⟨g1, g2⟩ := H.cells i hi hi8
    show v'.cell? ⟨sb, i + 1, none⟩ = some (.int .i64 (upd s.1 t (s.1 t + 1) i : Nat)) ∧ upd s.1 t (s.1 t + 1) i ≤ m + 1
    by_cases e : i = t
    · subst e
      rw [upd_same]
      exact ⟨r4, by omega⟩
    · rw [upd_ne _ _ e]
      exact ⟨(r5 _ (by omega)).trans g1, by omega⟩
  · rcases hx with rfl | rfl | ⟨o', e1, e2⟩
    · obtain ⟨g1, g2, g3⟩ := hO x ((H.own x).2 (.inl rfl))
      exact ⟨g1, g2, by omega⟩
    · obtain ⟨g1, g2, g3⟩ := hO x ((H.own x).2 (.inr (.inl rfl)))
      exact ⟨g1, g2, by omega⟩
    · rw [r1] at e1
      obtain rfl := Option.some.inj e1
      have hx' := own_lt r2 e2
      rcases r3 with h3 | ⟨g, h3, h4⟩
      · obtain ⟨g1, g2, g3⟩ := hO x ((H.own x).2 (.inr (.inr ⟨ov, o1, h3.symm.trans e2⟩)))
        exact ⟨g1, g2, hx'⟩
      · rw [h3] at e2
        obtain rfl := Option.some.inj e2
        have h4 : v.heap.size ≤ g := h4
        exact ⟨nF g h4, nZ g h4, hx'⟩
  · rcases hx with rfl | rfl | ⟨o', e1, e2⟩
    · exact .inl ((H.own x).2 (.inl rfl))
    · exact .inl ((H.own x).2 (.inr (.inl rfl)))
    · rw [r1] at e1
      obtain rfl := Option.some.inj e1
      rcases r3 with h3 | ⟨g, h3, h4⟩
      · exact .inl ((H.own x).2 (.inr (.inr ⟨ov, o1, h3.symm.trans e2⟩)))
      · rw [h3] at e2
        obtain rfl := Option.some.inj e2
        exact .inr h4
end
end Go.Proofs.Ytaiinkeendejdaa
namespace Go.Proofs.Ytaiinkeendejdaa
open Go.RowKit
set_option maxRecDepth 100000
noncomputable def bodyRuns : Code := (Try.f5).body.getD .skip
noncomputable def restRuns : Code := match bodyRuns with | .seq _ (.seq _ (.seq _ (.seq _ (.seq _ (.seq _ (.seq _ (.seq _ c))))))) => c | _ => .skip
theorem restR_lone : codeC (opW Try.prog (fun f => lones.contains f) (bare 0)) restRuns = true := by kernel_rfl
/-- each mark is of a thread that there is -/
def ThL (n : Nat) (ms : List Mk) : Prop := ∀ x ∈ ms, ∃ t : Nat, x.2.1 = (t : Int) ∧ 1 ≤ t ∧ t ≤ n
theorem ThL.step {σ : Type} {next : σ → Int → Int × σ} {n k : Nat} {x : σ × (Nat → Bool) × List Mk} (h : ThL n x.2.2) (hk : k < n) : ThL n (rstep next x k).2.2 := by
  unfold rstep
  split <;>
  · intro y hy
    rcases List.mem_append.1 hy with hy | hy
    · exact h y hy
    · rw [List.mem_singleton] at hy
      subst hy
      exact ⟨k + 1, by show (k : Int) + 1 = _; omega, by omega, by omega⟩
theorem ThL.drain {σ : Type} {next : σ → Int → Int × σ} {n : Nat} : ∀ (d fr : Nat) {x : σ × (Nat → Bool) × List Mk}, ThL n x.2.2 → ThL n (drainS next n d fr x).2.2
  | 0, _, _, h => h
  | d + 1, fr, x, h => by
    cases hk : nextS x.2.1 n fr with
    | none => rw [drainS_none hk]; exact h
    | some k => rw [drainS_some hk]; exact ThL.drain d (k + 1) (h.step (nextS_lt hk))
theorem ThL.picks {σ : Type} {next : σ → Int → Int × σ} {n : Nat} (h0 : 0 < n) : ∀ (l : List Int) {x : σ × (Nat → Bool) × List Mk}, ThL n x.2.2 → ThL n (l.foldl (fun x p => rstep next x (roundS n p)) x).2.2
  | [], _, h => h
  | p :: l, x, h => by
    rw [List.foldl_cons]
    exact ThL.picks h0 l (h.step (roundS_lt p (by omega)))
theorem thL_play (ps : List (List Int)) (l : List Int) (D : Int) : ThL 8 (playR ps l D).1 := by
  unfold playR runR
  split
  · rename_i h
    obtain ⟨h1, h2, _⟩ := wrong_ok h
    have h := ThL.drain (next := planNext ps) D.toNat 0 (ThL.picks (next := planNext ps) (n := ps.length) (by omega) l (x := (fun _ => 0, fun _ => false, [])) (fun x hx => by cases hx))
    intro x hx
    obtain ⟨t, g1, g2, g3⟩ := h x hx
    exact ⟨t, g1, g2, by omega⟩
  · intro x hx
    cases hx
theorem grown_beyond {W w w' : World} {r r2 : Option Nat} (h : W.grownBy w r) (k : w.grownBy w' r2) (hr : ∀ g, r2 = some g → W.heap.size ≤ g) : W.grownBy w' r :=
  ⟨k.os.trans h.os, k.tape.trans h.tape, k.output.trans h.output, Nat.le_trans h.size k.size, fun x hx hne => (k.block x (Nat.lt_of_lt_of_le hx h.size) (fun e => by have := hr x e.symm; omega)).trans (h.block x hx hne)⟩
structure EndSt (eb : Nat) (l : List Mk) (w : World) : Prop where
  ends : ∀ t : Nat, t ≤ 8 → w.cell? ⟨eb, t, none⟩ = some (.bool (endP l t))
  warm : ∀ i, w.frozen? ⟨eb, i, none⟩ = false
theorem EndSt.at {eb : Nat} {l : List Mk} {w w' : World} (h : EndSt eb l w) (hb : w'.heap[eb]? = w.heap[eb]?) : EndSt eb l w' :=
  ⟨fun t ht => (World.cell?_of_block (a := ⟨eb, t, none⟩) hb).trans (h.ends t ht), fun i => (World.frozen?_of_block (a := ⟨eb, i, none⟩) hb).trans (h.warm i)⟩
theorem EndSt.put {eb T : Nat} {l : List Mk} {x : Mk} {w : World} {bb : Bool} (h : EndSt eb l w) (hT : T ≤ 8) (hx : x.2.1 = (T : Int)) (hb : bb = (endP l T || x.2.2 == 4)) : EndSt eb (l ++ [x]) (w.setCell ⟨eb, T, none⟩ (.bool bb)) :=
  ⟨fun t ht => by
    rw [endP_app, hx]
    by_cases e : t = T
    · subst e
      rw [World.cell?_setCell_same _ _ _ (h.ends t ht), hb]
      simp
    · rw [World.cell?_setCell_other _ _ _ _ (fun e' => e (congrArg Addr.off e').symm), h.ends t ht]
      have : ((T : Int) == (t : Int)) = false := by simp; omega
      rw [this]; simp,
   fun i => (frozen_setCell _ _ _ _).trans (h.warm i)⟩
theorem endSt_of {W : World} {eb : Nat} {t1 : TypeId} (h1 : W.heap[eb]? = some (.cells #[.bool false, .bool false, .bool false, .bool false, .bool false, .bool false, .bool false, .bool false, .bool false] t1)) : EndSt eb [] W := by
  have nine : ∀ t : Nat, t ≤ 8 → t = 0 ∨ t = 1 ∨ t = 2 ∨ t = 3 ∨ t = 4 ∨ t = 5 ∨ t = 6 ∨ t = 7 ∨ t = 8 := fun t ht => by omega
  refine ⟨fun t ht => ?_, fun i => by simp [World.frozen?, h1]⟩
  rw [cell_of_row _ _ _ _ _ _ h1]
  rcases nine t ht with rfl | rfl | rfl | rfl | rfl | rfl | rfl | rfl | rfl <;> rfl
theorem callsL_le (ms : List Mk) : (callsL ms).length ≤ ms.length := by
  unfold callsL
  rw [List.length_map]
  exact Nat.le_trans (List.length_filter_le _ _) (by simp)
set_option maxHeartbeats 4000000 in
theorem runs_rest {a0 pa ro m1 : Option Addr} {n0 c0 np pc m rc M c1 N pvb sb ovb : Nat} {D D2 E : Int} {ov x3 x4 x5 x14 x15 x16 x17 x18 x19 x20 x21 x22 x23 x24 x25 x26 x27 x28 x29 x30 x31 x32 x33 x34 x35 x36 x37 x38 x39 x40 x41 x42 x43 x44 x45 x46 x47 x48 x49 x50 x51 x52 x53 x54 x55 x56 x57 x58 x59 x60 x61 x62 x63 x64 x65 x66 x67 x68 x69 x70 x71 x72 x73 x74 x75 x76 x77 x78 x79 x80 x81 x82 x83 x84 x85 x86 x87 x88 x89 x90 x91 x92 x93 x94 x95 : Value} {L : List PV} {picks : List Int} {MS : List Mk} {w : World} (hm : L.length = m) (hs : SeesV w ro L) (hr : ∀ p o, ro = some ⟨p, o, none⟩ → p < w.heap.size) (hp : PVs (fun x => x < w.heap.size) w L) (hpk : Sees w pa picks) (hnp : picks.length = np) (hnpm : np ≤ 2000000)
    (h64 : ∀ x ∈ picks, -9223372036854775808 ≤ x ∧ x ≤ 9223372036854775807) (hpv : w.cell? ⟨pvb, 0, none⟩ = some (.slice ro m rc)) (hov : w.cell? ⟨ovb, 0, none⟩ = some ov) (hown : Own w N ov (callsL MS)) (hR : playR (L.map (·.2.2)) picks D2 = (MS, E)) (hM : MS.length = M) (hMM : M < 1000000) (hms : SeesM w m1 MS) (hth : ThL 8 MS) :
    restRuns.wp Try.prog (fun e a' w' => e = .ret ∧ a'.tmps.getD 6 undef = .bool true ∧ Below w.heap.size w w') ⟨#[.slice a0 n0 c0, .slice pa np pc, .int .i64 D, x3, x4, x5, .bool false, .bool true, .pointer (some ⟨pvb, 0, none⟩), .int .i64 D2, .pointer (some ⟨sb, 0, none⟩), .pointer (some ⟨ovb, 0, none⟩), .slice m1 M c1, .int .i64 E, x14, x15, x16, x17, x18, x19, x20, x21, x22, x23, x24, x25, x26, x27, x28, x29, x30, x31, x32, x33, x34, x35, x36, x37, x38, x39, x40, x41, x42, x43, x44, x45, x46, x47, x48, x49, x50, x51, x52, x53, x54, x55, x56, x57, x58, x59, x60, x61, x62, x63, x64, x65, x66, x67, x68, x69, x70, x71, x72, x73, x74, x75, x76, x77, x78, x79, x80, x81, x82, x83, x84, x85, x86, x87, x88, x89, x90, x91, x92, x93, x94, x95], []⟩ w := by
  simp only [restRuns, bodyRuns, Try.f5, Option.getD_some]
  have HS := Lib.hid hs
  have HM := Lib.hid hm
  have HP := Lib.hid hp
  have HRR := Lib.hid hr
  have HPK := Lib.hid hpk
  have HNP := Lib.hid hnp
  have H64 := Lib.hid h64
  have HR := Lib.hid hR
  have HML := Lib.hid hM
  have HMS := Lib.hid hms
  have HTH := Lib.hid hth
  have HOV := Lib.hid hov
  have HOWN := Lib.hid hown
  clear hs hm hp hr hpk hnp h64 hR hM hms hth hov hown
  have hM6 : M ≤ maxLen := by unfold maxLen; omega
  go_upto_region 10 with (first
    | (go_at_call 13; go_must (refine (refPlay_any (qa := ro) (qc := rc) (pc := pc) (plans_of HS.out HRR.out HP.out) (by rw [List.length_map]; exact HM.out) HNP.out HPK.out (by unfold maxLen; omega) H64.out).mono ?_; rintro e w1 ⟨mv, rfl, hown1, hB1⟩; rw [HR.out])))
  rw [HR.out] at hown1
  obtain ⟨m3, c3, hmv, hsee3, _⟩ := hown1.slice
  have hml : MS.length = M := HML.out
  rw [hml] at hmv
  subst hmv
  have HB1 := Lib.hid hB1
  have HS3 := Lib.hid hsee3
  have hz1 := hB1.size
  clear hown1 hsee3 hB1 hml
  go_upto_region 14 with (first | (go_at_call 15; go_must (refine (Same_yes m1 m3 M c1 c3 MS _ HML.out (HMS.out.belowB HB1.out) HS3.out hM6).mono ?_; rintro e w6 ⟨rfl, d6, rfl⟩)))
  obtain ⟨W5, hW5⟩ : ∃ W5, W5 = (w1.drewN d6).alloc (.cells #[.bool false, .bool false, .bool false, .bool false, .bool false, .bool false, .bool false, .bool false, .bool false] 42) := ⟨_, rfl⟩
  obtain ⟨eb, heb⟩ : ∃ eb, eb = w1.heap.size := ⟨_, rfl⟩
  have hes : EndSt eb [] W5 := endSt_of (t1 := 42) (by rw [hW5, heb]; exact heap_new (w1.drewN d6) _ _ rfl)
  have hB5 : Below w.heap.size w W5 := by rw [hW5]; exact (Below.drewK HB1.out d6).alloc hz1 _
  have hs35 : SeesM W5 m3 MS := by
    rw [hW5]
    exact SeesM.belowB (w := w1.drewN d6) HS3.out (alloc_below' (w := w1.drewN d6) _ (Nat.le_refl _) _)
  have he5 : eb < W5.heap.size := by rw [hW5, heb]; simp
  have hn3 : ∀ p o, m3 = some ⟨p, o, none⟩ → MS ≠ [] → p ≠ eb := fun p o e hne he => by
    obtain ⟨b, o', g1, g2⟩ := HS3.out
    have e' := g1 hne
    rw [e] at e'
    cases e'
    obtain ⟨x, hx⟩ : ∃ x, MS[0]? = some x := ⟨_, List.getElem?_eq_getElem (List.length_pos_iff.2 hne)⟩
    have := block_lt_of_cell (g2 0 x hx).1
    simp only at this
    omega
  have hoe : ovb < w.heap.size := block_lt_of_cell HOV.out
  have heW : w.heap.size ≤ eb := by omega
  rw [← hW5, ← heb]
  have HES := Lib.hid hes
  have HB5 := Lib.hid hB5
  have HS35 := Lib.hid hs35
  have HN3 := Lib.hid hn3
  clear hW5 heb hes hB5 hs35 hn3
  go_wp2
  go_loopw [16, 18] (fun v i wr => ∃ j : Nat, j ≤ M ∧ i = .int .i64 j ∧ Own wr W5.heap.size v (callsL (MS.take j)) ∧ EndSt eb (MS.take j) wr ∧ W5.grownBy wr (some eb)) (fun _ i _ => M - (intOf i).toNat)
  case atStart => exact ⟨0, Nat.zero_le _, rfl, Own.nil _ _, HES.out, World.grownBy.refl W5 _⟩
  case round =>
    obtain ⟨j, hj, rfl, hcal, hes, hgr⟩ := hrel
    have HC := Lib.hid hcal
    have HE := Lib.hid hes
    have HG := Lib.hid hgr
    have hzr := hgr.size
    clear hcal hes hgr
    by_cases hlt : j < M
    · obtain ⟨x, hx⟩ : ∃ x, MS[j]? = some x := ⟨_, List.getElem?_eq_getElem (by rw [HML.out]; exact hlt)⟩
      obtain ⟨T, hT, hT1, hT8⟩ := HTH.out x (List.mem_of_getElem? hx)
      have hne : MS ≠ [] := by intro e; rw [e] at hx; simp at hx
      obtain ⟨b, o, g1, g2⟩ := HS35.out
      have eb3 := g1 hne
      have hbe := HN3.out b o eb3 hne
      subst eb3
      obtain ⟨k1, k2, k3⟩ := g2 j x hx
      have hbW : b < W5.heap.size := block_lt_of_cell k2
      have hbk : wr.heap[b]? = W5.heap[b]? := HG.out.block b (block_lt_of_cell k2) (fun e => hbe (Option.some.inj e))
      have c2 : wr.cell? ⟨b, o + j * 3 + 1, none⟩ = some (.int .i64 (T : Int)) := by rw [← hT, Nat.add_assoc]; exact (World.cell?_of_block (a := ⟨b, o + (j * 3 + 1), none⟩) hbk).trans k2
      have c3 : wr.cell? ⟨b, o + j * 3 + 2, none⟩ = some (.int .i64 x.2.2) := by rw [Nat.add_assoc]; exact (World.cell?_of_block (a := ⟨b, o + (j * 3 + 2), none⟩) hbk).trans k3
      obtain ⟨A, hA⟩ : ∃ A, A = x.2.2 := ⟨_, rfl⟩
      rw [← hA] at c3
      have e1 := HE.out.ends T hT8
      have hfe := HE.out.warm T
      obtain ⟨l, hl⟩ : ∃ l, l = MS.take j := ⟨_, rfl⟩
      have htk : MS.take (j + 1) = l ++ [x] := by rw [List.take_add_one, hx, hl]; rfl
      rw [← hl] at e1
      have hcl : (callsL l).length < 1000000 := by
        have := callsL_le l
        rw [hl, List.length_take] at this
        rw [hl]
        omega
      have hca := callsL_app l x
      rw [hT] at hca
      have hlo : (0 : Int) ≤ (j : Int) := by omega
      have hhi : (j : Int) < (M : Int) := by omega
      have hlo2 : (0 : Int) ≤ (T : Int) := by omega
      have hhi2 : (T : Int) < 9 := by omega
      have hCl : Own wr W5.heap.size u16 (callsL l) := by rw [hl]; exact HC.out
      have hEl : EndSt eb l wr := by rw [hl]; exact HE.out
      have HCL := Lib.hid hCl
      have HEL := Lib.hid hEl
      have HX := Lib.hid hx
      have HT := Lib.hid hT
      have HL := Lib.hid hl
      have HTK := Lib.hid htk
      have HCA := Lib.hid hca
      have HA := Lib.hid hA
      clear hx hT g1 g2 k1 k2 k3 hbk hl htk hca hCl hEl hA
      cases hEv : endP l (T : Int) with
      | true =>
        rw [hEv] at e1
        have HEV := Lib.hid hEv
        have hput := HEL.out.put (x := x) (bb := true) hT8 HT.out (by rw [HEV.out]; rfl)
        have HPUT := Lib.hid hput
        clear hEv hput
        go_wp2
        go_roundw
        case rel => exact ⟨j + 1, by omega, by go_num, by rw [HTK.out, HCA.out, if_pos HEV.out, List.append_nil]; exact ownsRow_at HCL.out fun g hg => Below.heap_setCell _ _ _ _ (by have := own_ge HCL.out hg; simp only; omega), by rw [HTK.out]; exact HPUT.out, grown_set HG.out rfl _⟩
        case measure => simp [intOf]; omega
      | false =>
        rw [hEv] at e1
        have HEV := Lib.hid hEv
        clear hEv
        have low : some eb ≠ u16.ownBlock := fun e => by have := own_ge HCL.out e.symm; omega
        go_wp2_with (first | (at_builtin; refine wpList_appendAt (B := W5.heap.size) (ownsRow_at HCL.out fun g hg => Below.heap_alloc _ _ _ (own_lt HCL.out hg)) (by simp <;> omega) wr.heap.size 1 (T : Int) (cell_alloc_new _ _ _) (by omega) rfl _ _ rfl rfl rfl ?_; intro v7 w7 hown7 hg7 _; have hblk : w7.heap[eb]? = wr.heap[eb]? := ((hg7.block eb (by simp <;> omega) low).trans (Below.heap_alloc _ _ _ (by omega))); have hcell7 : w7.cell? ⟨eb, T, none⟩ = some (.bool false) := ((World.cell?_of_block (a := ⟨eb, T, none⟩) hblk).trans e1); have hfz7 : w7.frozen? ⟨eb, T, none⟩ = false := ((World.frozen?_of_block (a := ⟨eb, T, none⟩) hblk).trans hfe); have hbb7 : w7.heap[b]? = wr.heap[b]? := ((hg7.block b (by have := block_lt_of_cell c3; simp at this; simp <;> omega) (fun e => by have h1 := own_ge HCL.out e.symm; omega)).trans (Below.heap_alloc _ _ _ (block_lt_of_cell c3))); have c37 : w7.cell? ⟨b, o + j * 3 + 2, none⟩ = some (.int .i64 A) := ((World.cell?_of_block (a := ⟨b, o + j * 3 + 2, none⟩) hbb7).trans c3)))
        exact ⟨⟨j + 1, by omega, by go_num, by rw [HTK.out, HCA.out, if_neg (by rw [HEV.out]; decide)]; exact ownsRow_at hown7 fun g hg => Below.heap_setCell _ _ _ _ (by have := own_ge hown7 hg; simp only; omega), by rw [HTK.out]; exact (HEL.out.at hblk).put (x := x) hT8 HT.out (by rw [HEV.out, HA.out]; rfl), grown_set (grown_beyond (grown_alloc HG.out _) hg7 fun g hg => own_ge HCL.out hg) rfl _⟩, by simp [intOf]; omega⟩
    · obtain rfl : j = M := by omega
      have hT : MS.take j = MS := List.take_of_length_le (by rw [HML.out]; exact Nat.le_refl _)
      have hc := HC.out
      rw [hT] at hc
      obtain ⟨ao1, cc1, e1, s1, n1⟩ := HOWN.out.seen
      obtain ⟨ao2, cc2, e2, s2, n2⟩ := hc.seen
      obtain ⟨n, hn⟩ : ∃ n, n = (callsL MS).length := ⟨_, rfl⟩
      rw [← hn] at e1 e2 n1
      subst e1
      subst e2
      have hbo : wr.heap[ovb]? = w.heap[ovb]? := (HG.out.block ovb (by have := HB5.out.size; omega) (fun e => by have := Option.some.inj e; omega)).trans (HB5.out.block ovb hoe)
      have co : wr.cell? ⟨ovb, 0, none⟩ = some (.slice ao1 n cc1) := (World.cell?_of_block (a := ⟨ovb, 0, none⟩) hbo).trans HOV.out
      have hBw : Below w.heap.size w wr := HB5.out.grown HG.out HB5.out.size (fun k hk => by cases hk; exact heW)
      have hs1 : Sees wr ao1 (callsL MS) := s1.below hBw
      have HS1 := Lib.hid hs1
      have HS2 := Lib.hid s2
      have HN := Lib.hid hn
      have HBW := Lib.hid hBw
      clear hT hc s1 s2 hn hs1 hBw hbo
      go_wp2_with (first | (go_at_call 18; go_must (refine (SameInts_yes ao1 ao2 n cc1 cc2 (callsL MS) _ HN.out.symm HS1.out HS2.out n1).mono ?_; rintro e w8 ⟨rfl, d8, rfl⟩)))
      exact Below.drewK HBW.out d8
end Go.Proofs.Ytaiinkeendejdaa
namespace Go.Proofs.Ytaiinkeendejdaa
open Go.RowKit
set_option maxRecDepth 100000
noncomputable def pRuns : Code := match bodyRuns with | .seq _ (.seq _ (.seq c _)) => c | _ => .skip
noncomputable def cutRuns : Code := match bodyRuns with | .seq _ (.seq _ (.seq _ (.seq _ (.seq c _)))) => c | _ => .skip
noncomputable def atRuns : Code := match bodyRuns with | .seq _ (.seq _ (.seq _ (.seq _ (.seq _ (.seq c _))))) => c | _ => .skip
noncomputable def ovRuns : Code := match bodyRuns with | .seq _ (.seq _ (.seq _ (.seq _ (.seq _ (.seq _ (.seq c _)))))) => c | _ => .skip
theorem pR_lone : codeC (opW Try.prog (fun f => lones.contains f) (bare 0)) pRuns = true := by kernel_rfl
theorem cutR_lone : codeC (opW Try.prog (fun f => lones.contains f) (bare 0)) cutRuns = true := by kernel_rfl
theorem atR_lone : codeC (opW Try.prog (fun f => lones.contains f) (bare 0)) atRuns = true := by kernel_rfl
theorem ovR_lone : codeC (opW Try.prog (fun f => lones.contains f) (bare 0)) ovRuns = true := by kernel_rfl
def zeros9 : Array Value := #[.int .i64 0, .int .i64 0, .int .i64 0, .int .i64 0, .int .i64 0, .int .i64 0, .int .i64 0, .int .i64 0, .int .i64 0]
/-- the row of some, in a variable of its own -/
structure PVar (L : List PV) (m pvb : Nat) (ro : Option Addr) (rc : Nat) (w w' : World) : Prop where
  sees : SeesV w' ro (cutL L)
  pvs : PVs (fun x => x < w'.heap.size) w' (cutL L)
  row : ∀ p o, ro = some ⟨p, o, none⟩ → p < w'.heap.size
  cell : w'.cell? ⟨pvb, 0, none⟩ = some (.slice ro m rc)
  low : w.heap.size ≤ pvb
  size : w.heap.size ≤ w'.heap.size
  same : ∀ x, x < w.heap.size → w'.heap[x]? = w.heap[x]?
theorem PVar.of {L : List PV} {w w1 w' : World} {v : Value} (hp : PVs (fun x => x < w.heap.size) w L) (hown : OwnS w1 w.heap.size v (cutL L)) (hB : Below w.heap.size w w1) (h' : w' = w1.alloc (.cells #[v] 22)) : ∃ ro rc, v = .slice ro (cutL L).length rc ∧ PVar L (cutL L).length w1.heap.size ro rc w w' := by
  have hz := hB.size
  have same1 : ∀ x, x < w1.heap.size → w'.heap[x]? = w1.heap[x]? := fun x hx => by
    rw [h']
    exact Below.heap_alloc _ _ _ hx
  have hz' : w'.heap.size = w1.heap.size + 1 := by rw [h']; simp
  obtain ⟨ro, rc, rfl, hs⟩ := hown.slice
  refine ⟨ro, rc, rfl, hs.cells fun a x h => (World.cell?_of_block (a := a) (same1 a.block (block_lt_of_cell h))).trans h, ?_, fun p o e => ?_, ?_, hz, by omega, fun x hx => (same1 x (by omega)).trans (hB.block x hx)⟩
  · exact hp.cut.at (fun x hx => by omega) fun x hx => (same1 x (by omega)).trans (hB.block x hx)
  · have := (hown.block (g := p) (by rw [e]; rfl)).2
    omega
  · rw [h']
    exact cell_alloc_new _ _ _
set_option maxHeartbeats 1000000 in
theorem runs_p {ao pa : Option Addr} {n cc np pc : Nat} {D : Int} {x3 x4 x5 x8 x9 x10 x11 x12 x13 x14 x15 x16 x17 x18 x19 x20 x21 x22 x23 x24 x25 x26 x27 x28 x29 x30 x31 x32 x33 x34 x35 x36 x37 x38 x39 x40 x41 x42 x43 x44 x45 x46 x47 x48 x49 x50 x51 x52 x53 x54 x55 x56 x57 x58 x59 x60 x61 x62 x63 x64 x65 x66 x67 x68 x69 x70 x71 x72 x73 x74 x75 x76 x77 x78 x79 x80 x81 x82 x83 x84 x85 x86 x87 x88 x89 x90 x91 x92 x93 x94 x95 : Value} {L : List PV} {w : World} (hL : L.length = n) (hs : SeesV w ao L) (hp : PVs (fun x => x < w.heap.size) w L) :
    pRuns.wp Try.prog (fun e a' w' => e = .normal ∧ a'.defers = [] ∧ ∃ pvb ro rc y21 y22, a'.tmps = #[.slice ao n cc, .slice pa np pc, .int .i64 D, x3, x4, x5, .bool false, .bool true, .pointer (some ⟨pvb, 0, none⟩), x9, x10, x11, x12, x13, x14, x15, x16, x17, x18, x19, x20, y21, y22, x23, x24, x25, x26, x27, x28, x29, x30, x31, x32, x33, x34, x35, x36, x37, x38, x39, x40, x41, x42, x43, x44, x45, x46, x47, x48, x49, x50, x51, x52, x53, x54, x55, x56, x57, x58, x59, x60, x61, x62, x63, x64, x65, x66, x67, x68, x69, x70, x71, x72, x73, x74, x75, x76, x77, x78, x79, x80, x81, x82, x83, x84, x85, x86, x87, x88, x89, x90, x91, x92, x93, x94, x95] ∧ PVar L (cutL L).length pvb ro rc w w') ⟨#[.slice ao n cc, .slice pa np pc, .int .i64 D, x3, x4, x5, .bool false, .bool true, x8, x9, x10, x11, x12, x13, x14, x15, x16, x17, x18, x19, x20, x21, x22, x23, x24, x25, x26, x27, x28, x29, x30, x31, x32, x33, x34, x35, x36, x37, x38, x39, x40, x41, x42, x43, x44, x45, x46, x47, x48, x49, x50, x51, x52, x53, x54, x55, x56, x57, x58, x59, x60, x61, x62, x63, x64, x65, x66, x67, x68, x69, x70, x71, x72, x73, x74, x75, x76, x77, x78, x79, x80, x81, x82, x83, x84, x85, x86, x87, x88, x89, x90, x91, x92, x93, x94, x95], []⟩ w := by
  simp only [pRuns, bodyRuns, Try.f5, Option.getD_some]
  have HS := Lib.hid hs
  have HL := Lib.hid hL
  have HP := Lib.hid hp
  clear hs hL hp
  go_wp2_with (first | (go_at_call 10; go_must (refine (some_any ao n cc L _ HL.out HS.out HP.out).mono ?_; rintro e w1 ⟨v, rfl, hown, hB⟩; obtain ⟨ro, rc, rfl, hpv⟩ := PVar.of HP.out hown hB rfl)))
  exact ⟨ro, rc, hpv⟩
set_option maxHeartbeats 1000000 in
theorem runs_cut {ao pa : Option Addr} {n cc np pc pvb : Nat} {D : Int} {x3 x4 x5 x10 x11 x12 x13 x14 x15 x16 x17 x18 x19 x20 x21 x22 x23 x24 x25 x26 x27 x28 x29 x30 x31 x32 x33 x34 x35 x36 x37 x38 x39 x40 x41 x42 x43 x44 x45 x46 x47 x48 x49 x50 x51 x52 x53 x54 x55 x56 x57 x58 x59 x60 x61 x62 x63 x64 x65 x66 x67 x68 x69 x70 x71 x72 x73 x74 x75 x76 x77 x78 x79 x80 x81 x82 x83 x84 x85 x86 x87 x88 x89 x90 x91 x92 x93 x94 x95 : Value} {w : World} (h64 : -9223372036854775808 ≤ D ∧ D ≤ 9223372036854775807) :
    cutRuns.wp Try.prog (fun e a' w' => e = .normal ∧ a'.defers = [] ∧ (∃ y24 y25 y26 y27 y28 y29 y30 y31, a'.tmps = #[.slice ao n cc, .slice pa np pc, .int .i64 D, x3, x4, x5, .bool false, .bool true, .pointer (some ⟨pvb, 0, none⟩), .int .i64 (cutD D), x10, x11, x12, x13, x14, x15, x16, x17, x18, x19, x20, x21, x22, x23, y24, y25, y26, y27, y28, y29, y30, y31, x32, x33, x34, x35, x36, x37, x38, x39, x40, x41, x42, x43, x44, x45, x46, x47, x48, x49, x50, x51, x52, x53, x54, x55, x56, x57, x58, x59, x60, x61, x62, x63, x64, x65, x66, x67, x68, x69, x70, x71, x72, x73, x74, x75, x76, x77, x78, x79, x80, x81, x82, x83, x84, x85, x86, x87, x88, x89, x90, x91, x92, x93, x94, x95]) ∧ w'.heap = w.heap) ⟨#[.slice ao n cc, .slice pa np pc, .int .i64 D, x3, x4, x5, .bool false, .bool true, .pointer (some ⟨pvb, 0, none⟩), .int .i64 D, x10, x11, x12, x13, x14, x15, x16, x17, x18, x19, x20, x21, x22, x23, x24, x25, x26, x27, x28, x29, x30, x31, x32, x33, x34, x35, x36, x37, x38, x39, x40, x41, x42, x43, x44, x45, x46, x47, x48, x49, x50, x51, x52, x53, x54, x55, x56, x57, x58, x59, x60, x61, x62, x63, x64, x65, x66, x67, x68, x69, x70, x71, x72, x73, x74, x75, x76, x77, x78, x79, x80, x81, x82, x83, x84, x85, x86, x87, x88, x89, x90, x91, x92, x93, x94, x95], []⟩ w := by
  simp only [cutRuns, bodyRuns, Try.f5, Option.getD_some]
  by_cases h1 : 2000 < D
  · by_cases h2 : D ≤ 65536
    · have hc : cutD D = D.tmod 2000 := by
        unfold cutD
        rw [if_pos ⟨h1, h2⟩, Int.tmod_eq_emod_of_nonneg (by omega)]
      have hw : IntKind.i64.wrap (D.tmod 2000) = D.tmod 2000 := by rw [IntKind.wrap_i64, Int.tmod_eq_emod_of_nonneg (by omega)]; omega
      rw [hc]
      go_wp2
      all_goals (first | rfl | exact (Int.tmod_eq_emod_of_nonneg (by omega)).symm | exact ⟨⟨_, _, _, _, _, _, _, _, rfl⟩, trivial⟩)
    · have hc : cutD D = D := by unfold cutD; rw [if_neg (fun h => h2 h.2)]
      rw [hc]
      go_wp2
      all_goals (first | rfl | exact ⟨⟨_, _, _, _, _, _, _, _, rfl⟩, trivial⟩)
  · have hc : cutD D = D := by unfold cutD; rw [if_neg (fun h => h1 h.1)]
    rw [hc]
    go_wp2
    all_goals (first | rfl | exact ⟨⟨_, _, _, _, _, _, _, _, rfl⟩, trivial⟩)
theorem runs_at {ao pa : Option Addr} {n cc np pc pvb : Nat} {D D2 : Int} {x3 x4 x5 x10 x11 x12 x13 x14 x15 x16 x17 x18 x19 x20 x21 x22 x23 x24 x25 x26 x27 x28 x29 x30 x31 x32 x33 x34 x35 x36 x37 x38 x39 x40 x41 x42 x43 x44 x45 x46 x47 x48 x49 x50 x51 x52 x53 x54 x55 x56 x57 x58 x59 x60 x61 x62 x63 x64 x65 x66 x67 x68 x69 x70 x71 x72 x73 x74 x75 x76 x77 x78 x79 x80 x81 x82 x83 x84 x85 x86 x87 x88 x89 x90 x91 x92 x93 x94 x95 : Value} {w : World} :
    atRuns.wp Try.prog (fun e a' w' => e = .normal ∧ a'.defers = [] ∧ a'.tmps = #[.slice ao n cc, .slice pa np pc, .int .i64 D, x3, x4, x5, .bool false, .bool true, .pointer (some ⟨pvb, 0, none⟩), .int .i64 D2, .pointer (some ⟨w.heap.size, 0, none⟩), x11, x12, x13, x14, x15, x16, x17, x18, x19, x20, x21, x22, x23, x24, x25, x26, x27, x28, x29, x30, x31, x32, x33, x34, x35, x36, x37, x38, x39, x40, x41, x42, x43, x44, x45, x46, x47, x48, x49, x50, x51, x52, x53, x54, x55, x56, x57, x58, x59, x60, x61, x62, x63, x64, x65, x66, x67, x68, x69, x70, x71, x72, x73, x74, x75, x76, x77, x78, x79, x80, x81, x82, x83, x84, x85, x86, x87, x88, x89, x90, x91, x92, x93, x94, x95] ∧ w'.heap = w.heap.push (.cells zeros9 39)) ⟨#[.slice ao n cc, .slice pa np pc, .int .i64 D, x3, x4, x5, .bool false, .bool true, .pointer (some ⟨pvb, 0, none⟩), .int .i64 D2, x10, x11, x12, x13, x14, x15, x16, x17, x18, x19, x20, x21, x22, x23, x24, x25, x26, x27, x28, x29, x30, x31, x32, x33, x34, x35, x36, x37, x38, x39, x40, x41, x42, x43, x44, x45, x46, x47, x48, x49, x50, x51, x52, x53, x54, x55, x56, x57, x58, x59, x60, x61, x62, x63, x64, x65, x66, x67, x68, x69, x70, x71, x72, x73, x74, x75, x76, x77, x78, x79, x80, x81, x82, x83, x84, x85, x86, x87, x88, x89, x90, x91, x92, x93, x94, x95], []⟩ w := by
  simp only [atRuns, bodyRuns, Try.f5, Option.getD_some]
  go_wp2
  all_goals rfl
theorem runs_ov {ao pa : Option Addr} {n cc np pc pvb sb : Nat} {D D2 : Int} {x3 x4 x5 x11 x12 x13 x14 x15 x16 x17 x18 x19 x20 x21 x22 x23 x24 x25 x26 x27 x28 x29 x30 x31 x32 x33 x34 x35 x36 x37 x38 x39 x40 x41 x42 x43 x44 x45 x46 x47 x48 x49 x50 x51 x52 x53 x54 x55 x56 x57 x58 x59 x60 x61 x62 x63 x64 x65 x66 x67 x68 x69 x70 x71 x72 x73 x74 x75 x76 x77 x78 x79 x80 x81 x82 x83 x84 x85 x86 x87 x88 x89 x90 x91 x92 x93 x94 x95 : Value} {w : World} :
    ovRuns.wp Try.prog (fun e a' w' => e = .normal ∧ a'.defers = [] ∧ a'.tmps = #[.slice ao n cc, .slice pa np pc, .int .i64 D, x3, x4, x5, .bool false, .bool true, .pointer (some ⟨pvb, 0, none⟩), .int .i64 D2, .pointer (some ⟨sb, 0, none⟩), .pointer (some ⟨w.heap.size, 0, none⟩), x12, x13, x14, x15, x16, x17, x18, x19, x20, x21, x22, x23, x24, x25, x26, x27, x28, x29, x30, x31, x32, x33, x34, x35, x36, x37, x38, x39, x40, x41, x42, x43, x44, x45, x46, x47, x48, x49, x50, x51, x52, x53, x54, x55, x56, x57, x58, x59, x60, x61, x62, x63, x64, x65, x66, x67, x68, x69, x70, x71, x72, x73, x74, x75, x76, x77, x78, x79, x80, x81, x82, x83, x84, x85, x86, x87, x88, x89, x90, x91, x92, x93, x94, x95] ∧ w'.heap = w.heap.push (.cells #[.slice none 0 0] 23)) ⟨#[.slice ao n cc, .slice pa np pc, .int .i64 D, x3, x4, x5, .bool false, .bool true, .pointer (some ⟨pvb, 0, none⟩), .int .i64 D2, .pointer (some ⟨sb, 0, none⟩), x11, x12, x13, x14, x15, x16, x17, x18, x19, x20, x21, x22, x23, x24, x25, x26, x27, x28, x29, x30, x31, x32, x33, x34, x35, x36, x37, x38, x39, x40, x41, x42, x43, x44, x45, x46, x47, x48, x49, x50, x51, x52, x53, x54, x55, x56, x57, x58, x59, x60, x61, x62, x63, x64, x65, x66, x67, x68, x69, x70, x71, x72, x73, x74, x75, x76, x77, x78, x79, x80, x81, x82, x83, x84, x85, x86, x87, x88, x89, x90, x91, x92, x93, x94, x95], []⟩ w := by
  simp only [ovRuns, bodyRuns, Try.f5, Option.getD_some]
  go_wp2
  all_goals rfl
end Go.Proofs.Ytaiinkeendejdaa
