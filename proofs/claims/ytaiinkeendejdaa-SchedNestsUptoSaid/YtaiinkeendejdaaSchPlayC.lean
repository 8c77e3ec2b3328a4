/-
  SCHED: Play's step keeps its contract. No condition.
  And: SCHED: Play's statements ahead of its call of Run, alone. No condition.
-/
import Derived.Test.YtaiinkeendejdaaSchRunAll
import Derived.Test.YtaiinkeendejdaaSchPlay1
import Derived.Laws.MakeOwn
import Derived.Laws.OwnMore
namespace Go.Proofs.Ytaiinkeendejdaa
open Go.RowKit Go.Conc
set_option maxRecDepth 100000
noncomputable def bodyPlay : Code := (Try.f12).body.getD .skip
noncomputable def codeP0 : Code := match bodyPlay with | .seq c _ => c | _ => .skip
noncomputable def codeP1 : Code := match bodyPlay with | .seq _ (.seq c _) => c | _ => .skip
theorem infoI : (Try.prog.info? 3).map (fun i => (i.zero, i.size, i.bytes)) = some (some (.int .i64 0), 1, 8) := by kernel_rfl
def zerosI (n : Nat) : Array Value := madeCells #[.int .i64 0] n
theorem zerosI_at {m t : Nat} (h : t < m) : (zerosI m)[t]? = some (.int .i64 0) := by
  have h1 : (zerosI m).toList = List.replicate m (.int .i64 0) := by unfold zerosI; rw [toList_madeCells_one]
  rw [← Array.getElem?_toList, h1, List.getElem?_replicate, if_pos h]
theorem makeI (m : Nat) (h : m ≤ 100000) (w : World) : (Instr.makeSlice 23 (.int .i64 m) (.int .i64 m)).run Try.prog w = .ok (.slice (some ⟨w.heap.size, 0, none⟩) m m) (w.alloc (.cells (zerosI m) 3)) := by
  obtain ⟨i0, hi, hz0, hz1, hz2⟩ := info_parts infoI
  have h := run_makeSlice (w := w) (P := Try.prog) 23 3 i0 (.int .i64 0) Try.underlying23 hi hz0 .i64 .i64 m m (by omega) (Int.le_refl _) (by rw [hz1]; simp; omega) (by rw [hz2]; omega) (by omega)
  rw [h, hz1]
  simp [Value.cells, zerosI]
theorem p0_wp {x1 x2 x3 x4 x5 x6 x7 x8 x9 x10 x11 x12 x13 x14 x15 x16 x17 x18 x19 : Value} {ao : Option Addr} {n c : Nat} {v : World} : codeP0.wp Try.prog (fun e a' w' => e = .normal ∧ a'.defers = [] ∧ a'.tmps = #[.slice ao n c, x1, x2, .pointer (some ⟨v.heap.size, 0, none⟩), x4, x5, .slice none 0 0, .int .i64 0, x8, x9, x10, x11, x12, x13, x14, x15, x16, x17, x18, x19] ∧ w'.heap = v.heap.push (.cells #[.slice ao n c] 22)) ⟨#[.slice ao n c, x1, x2, x3, x4, x5, x6, x7, x8, x9, x10, x11, x12, x13, x14, x15, x16, x17, x18, x19], []⟩ v := by
  simp only [codeP0, bodyPlay, Try.f12, Option.getD_some]
  go_wp2
  rfl
theorem p1_wp {x0 x1 x2 x4 x5 x6 x7 x8 x9 x10 x11 x12 x13 x14 x15 x16 x17 x18 x19 : Value} {ao : Option Addr} {n c pv : Nat} {v : World} (hn : n ≤ 100000) (hp : v.cell? ⟨pv, 0, none⟩ = some (.slice ao n c)) : codeP1.wp Try.prog (fun e a' w' => e = .normal ∧ a'.defers = [] ∧ a'.tmps = #[x0, x1, x2, .pointer (some ⟨pv, 0, none⟩), x4, x5, x6, x7, .pointer (some ⟨v.heap.size + 1, 0, none⟩), .slice ao n c, .int .i64 (n : Nat), .slice (some ⟨v.heap.size, 0, none⟩) n n, x12, x13, x14, x15, x16, x17, x18, x19] ∧ w'.heap = (v.heap.push (.cells (zerosI n) 3)).push (.cells #[.slice (some ⟨v.heap.size, 0, none⟩) n n] 23)) ⟨#[x0, x1, x2, .pointer (some ⟨pv, 0, none⟩), x4, x5, x6, x7, x8, x9, x10, x11, x12, x13, x14, x15, x16, x17, x18, x19], []⟩ v := by
  simp only [codeP1, bodyPlay, Try.f12, Option.getD_some]
  have hmk := makeI n hn
  go_wp2
  rfl
end Go.Proofs.Ytaiinkeendejdaa
namespace Go.Proofs.Ytaiinkeendejdaa
open Go.RowKit Go.Conc Go.ConcR.Gen Go.ConcN.Gen
open Go.ConcN (sumTo upd sumTo_upd upd_ne upd_same WgLive)
set_option maxRecDepth 100000
/-- a slice of slices of ints that reads as a list of lists; K: in which blocks all that lies -/
def Plans (K : Nat → Prop) (w : World) (ao : Option Addr) (ps : List (List Int)) : Prop :=
  ∀ (i : Nat) l, ps[i]? = some l → ∃ p o la lc, ao = some ⟨p, o, none⟩ ∧ K p ∧ w.cell? ⟨p, o + i, none⟩ = some (.slice la l.length lc) ∧ l.length ≤ maxLen ∧
    ∀ (j : Nat) x, l[j]? = some x → ∃ q u, la = some ⟨q, u, none⟩ ∧ K q ∧ w.cell? ⟨q, u + j, none⟩ = some (.int .i64 x)
theorem Plans.at {K K' : Nat → Prop} {w w' : World} {ao : Option Addr} {ps : List (List Int)} (h : Plans K w ao ps) (hK : ∀ x, K x → K' x) (hw : ∀ x, K x → w'.heap[x]? = w.heap[x]?) : Plans K' w' ao ps := fun i l hi => by
  obtain ⟨p, o, la, lc, h1, h2, h3, h4, h5⟩ := h i l hi
  refine ⟨p, o, la, lc, h1, hK _ h2, (World.cell?_of_block (a := ⟨p, o + i, none⟩) (hw p h2)).trans h3, h4, fun j x hj => ?_⟩
  obtain ⟨q, u, g1, g2, g3⟩ := h5 j x hj
  exact ⟨q, u, g1, hK _ g2, (World.cell?_of_block (a := ⟨q, u + j, none⟩) (hw q g2)).trans g3⟩
/-- what a step of a plan's thread answers; how many it has answered -/
def planNext (ps : List (List Int)) (s : Nat → Nat) (k : Int) : Int × (Nat → Nat) :=
  match (ps.getD (k - 1).toNat [])[s (k - 1).toNat]? with
  | some x => (x, upd s (k - 1).toNat (s (k - 1).toNat + 1))
  | none => (4, s)
/-- the state of Play's step: av: the variable at; pv: the variable plans; ab: at's row -/
structure PlanSt (N₀ av pv ab : Nat) (ao : Option Addr) (qc : Nat) (ps : List (List Int)) (s : Nat → Nat) (O : Nat → Prop) (v : World) : Prop where
  own : ∀ x, O x ↔ x = ab
  low : av < N₀ ∧ pv < N₀ ∧ ab < N₀ ∧ ab ≠ av ∧ ab ≠ pv
  at_ : v.cell? ⟨av, 0, none⟩ = some (.slice (some ⟨ab, 0, none⟩) ps.length ps.length)
  plans : v.cell? ⟨pv, 0, none⟩ = some (.slice ao ps.length qc)
  rows : Plans (fun x => x < N₀ ∧ x ≠ ab) v ao ps
  cells : ∀ t, t < ps.length → v.cell? ⟨ab, t, none⟩ = some (.int .i64 (s t : Nat)) ∧ v.frozen? ⟨ab, t, none⟩ = false ∧ s t ≤ (ps.getD t []).length
theorem PlanSt.still (N₀ av pv ab : Nat) (ao : Option Addr) (qc : Nat) (ps : List (List Int)) : JStill N₀ (fun (_ : Nat) s O v => PlanSt N₀ av pv ab ao qc ps s O v) := fun _ s O v v' H h => by
  have hab : v'.heap[ab]? = v.heap[ab]? := h ab (.inr ((H.own ab).2 rfl))
  exact ⟨H.own, H.low, (World.cell?_of_block (a := ⟨av, 0, none⟩) (h av (.inl H.low.1))).trans H.at_, (World.cell?_of_block (a := ⟨pv, 0, none⟩) (h pv (.inl H.low.2.1))).trans H.plans, H.rows.at (fun _ h => h) fun x hx => h x (.inl hx.1),
    fun t ht => ⟨(World.cell?_of_block (a := ⟨ab, t, none⟩) hab).trans (H.cells t ht).1, (World.frozen?_of_block (a := ⟨ab, t, none⟩) hab).trans (H.cells t ht).2.1, (H.cells t ht).2.2⟩⟩
section
variable {Post : Value → World → Prop}
theorem plan_step {N₀ av pv ab qc : Nat} {ao : Option Addr} {ps : List (List Int)} (h8 : ps.length ≤ 8) :
    StepC Try.prog 64 Post 23 #[.pointer (some ⟨av, 0, none⟩), .pointer (some ⟨pv, 0, none⟩)] ps.length (fun (_ : Nat) s O v => PlanSt N₀ av pv ab ao qc ps s O v) (planNext ps) := by
  intro b h c cs v w m s O k _ _ hk1 hkn _ H hs he hO hcaps hty fin
  obtain ⟨t, rfl⟩ : ∃ t : Nat, k = (t : Int) + 1 := ⟨(k - 1).toNat, by omega⟩
  have ht : t < ps.length := by omega
  obtain ⟨l, hl⟩ : ∃ l, ps[t]? = some l := ⟨_, List.getElem?_eq_getElem ht⟩
  have hgl : ps.getD t [] = l := by rw [List.getD_eq_getElem?_getD, hl]; rfl
  have etn : ((t : Int) + 1 - 1).toNat = t := by omega
  obtain ⟨p, o, la, lc, rfl, hpK, hpc, hlm, hrow⟩ := H.rows t l hl
  obtain ⟨c3, hfz, hle⟩ := H.cells t ht
  rw [hgl] at hle
  have harg : ∀ x ∈ (#[.int .i64 ((t : Int) + 1)] ++ #[.pointer (some ⟨av, 0, none⟩), .pointer (some ⟨pv, 0, none⟩)] : Array Value), NoZ (ZT b.shun v.heap.size) x := fun x hx => by
    rcases Array.mem_append.1 hx with hx | hx
    · simp only [List.mem_toArray, List.mem_singleton] at hx
      subst hx
      exact .int _ _
    · exact hcaps x hx
  cases hx : l[s t]? with
  | none =>
    have hge : l.length ≤ s t := List.getElem?_eq_none_iff.1 hx
    have hnext : planNext ps s ((t : Int) + 1) = (4, s) := by
      unfold planNext
      rw [etn, hgl, hx]
    rw [hnext] at fin
    refine At.callee (R := fun a v' => a = .int .i64 4 ∧ v'.heap = v.heap) lones_fun (by kernel_rfl) Try.func23 rfl rfl rfl harg he hs (fun T => ?_) (fun a v' T d w' _ he' hR hs' => ?_)
    · refine (play1_end (w := onT v T 0) ht h8 hge (by omega) H.at_ H.plans c3 hpc).mono ?_
      rintro e w' ⟨rfl, h2⟩
      exact ⟨_, rfl, rfl, h2⟩
    obtain ⟨rfl, hv'⟩ := hR
    have hv' : v'.heap = v.heap := hv'
    exact fin b v' w' O ⟨Nat.le_refl _, rfl, fun _ _ => rfl, fun _ => Nat.le_refl _, fun _ _ => rfl, fun _ _ => rfl, rfl, rfl, rfl, rfl, rfl⟩ (by rw [hv']; exact hty) (PlanSt.still N₀ av pv ab _ qc ps m s O v v' H fun x _ => by rw [hv']) (by rw [hv']; exact hO) (fun x hx => .inl hx) hs' he' (by rw [hv']; exact Nat.le_refl _) fun x _ _ => by rw [hv']
  | some x =>
    have hlt : s t < l.length := (List.getElem?_eq_some_iff.1 hx).1
    obtain ⟨q, u, rfl, hqK, hqc⟩ := hrow (s t) x hx
    have hnext : planNext ps s ((t : Int) + 1) = (x, upd s t (s t + 1)) := by
      unfold planNext
      rw [etn, hgl, hx]
    rw [hnext] at fin
    refine At.callee (R := fun a v' => a = .int .i64 x ∧ v'.heap = (v.setCell ⟨ab, t, none⟩ (.int .i64 ((s t : Nat) + 1))).heap) lones_fun (by kernel_rfl) Try.func23 rfl rfl rfl harg he hs (fun T => ?_) (fun a v' T d w' _ he' hR hs' => ?_)
    · refine (play1_go (w := onT v T 0) ht h8 hlt hlm ⟨H.low.2.2.2.1, H.low.2.2.2.2, fun e => hpK.2 e.symm, fun e => hqK.2 e.symm⟩ H.at_ H.plans c3 hpc hqc hfz).mono ?_
      rintro e w' ⟨rfl, h2⟩
      exact ⟨_, rfl, rfl, h2⟩
    obtain ⟨rfl, hv'⟩ := hR
    have hv' : v'.heap = (v.setCell ⟨ab, t, none⟩ (.int .i64 ((s t : Nat) + 1))).heap := hv'
    have hsz : v'.heap.size = v.heap.size := by rw [hv']; exact World.size_setCell ..
    have hne : ∀ y, y ≠ ab → v'.heap[y]? = v.heap[y]? := fun y hy => by rw [hv']; exact Below.heap_setCell _ _ _ _ hy
    have cellE : ∀ a, v'.cell? a = (v.setCell ⟨ab, t, none⟩ (.int .i64 ((s t : Nat) + 1))).cell? a := fun a => by unfold World.cell?; rw [hv']
    have frE : ∀ a, v'.frozen? a = v.frozen? a := fun a => by
      rw [← frozen_setCell v ⟨ab, t, none⟩ a (.int .i64 ((s t : Nat) + 1))]
      unfold World.frozen?; rw [hv']
    refine fin b v' w' O ⟨Nat.le_refl _, rfl, fun _ _ => rfl, fun _ => Nat.le_refl _, fun _ _ => rfl, fun _ _ => rfl, rfl, rfl, rfl, rfl, rfl⟩ (by rw [hsz]; exact hty) ⟨H.own, H.low, (World.cell?_of_block (a := ⟨av, 0, none⟩) (hne av H.low.2.2.2.1.symm)).trans H.at_, (World.cell?_of_block (a := ⟨pv, 0, none⟩) (hne pv H.low.2.2.2.2.symm)).trans H.plans, H.rows.at (fun _ h => h) fun y hy => hne y hy.2, fun t' ht' => ?_⟩ (by rw [hsz]; exact hO) (fun y hy => .inl hy) hs' he' (by rw [hsz]; exact Nat.le_refl _) fun y _ hy => hne y fun e => hy ((H.own y).2 e)
    obtain ⟨g1, g2, g3⟩ := H.cells t' ht'
    show v'.cell? ⟨ab, t', none⟩ = some (.int .i64 (upd s t (s t + 1) t' : Nat)) ∧ v'.frozen? ⟨ab, t', none⟩ = false ∧ upd s t (s t + 1) t' ≤ _
    refine ⟨?_, (frE _).trans g2, ?_⟩
    · rw [cellE]
      by_cases e : t' = t
      · subst e
        rw [upd_same]
        exact World.cell?_setCell_same _ _ _ c3
      · rw [upd_ne _ _ e, World.cell?_setCell_other _ _ _ _ (fun e1 => e (congrArg Addr.off e1).symm)]
        exact g1
    · by_cases e : t' = t
      · subst e
        rw [upd_same, hgl]; omega
      · rw [upd_ne _ _ e]; exact g3
end
end Go.Proofs.Ytaiinkeendejdaa
