/-
  A BAND OF GOROUTINES OF WHICH ONE HOLDS: into the wait, and behind it. No condition.
  And: A BAND OF GOROUTINES OF WHICH ONE HOLDS: THE HOLDER WAITS FOR A GROUP all of whose members leave. No condition.
-/
import Derived.Test.YtaiinkeendejdaaBandClose
namespace Go.Proofs.Ytaiinkeendejdaa
open Go.Conc
open Go.ConcN (sumTo upd sumTo_upd upd_ne upd_same WgLive)
open Go.ConcR (KK wgBlock WgAt stA smA rd wr mk DC0)
section
variable {P : Program} {ty : TypeId} {Post : Value → World → Prop} {b : Bd} {h : Nat} {T : Trace} {gs : Array Goroutine} {w w' : World} {q : Nat → Nat × Nat}
/-- from here the run ends well, where at most n of lo ≤ i < hi are counted -/
def AtN (P : Program) (ty : TypeId) (Post : Value → World → Prop) (lo hi n : Nat) (b : Bd) (h : Nat) (a : Goroutine) (w : World) : Prop :=
  ∀ gs w₁ sl T q, Stands P ty b h (· = h) T gs w₁ q → cntG lo hi q ≤ n → Off b.shun w w₁ → gs[h]? = some a → Ends P Post (crowd gs w₁ sl) T
variable {lo hi n : Nat}
theorem At.toN {a : Goroutine} (hA : At P ty Post b h a w) : AtN P ty Post lo hi n b h a w := fun gs w₁ sl T q S _ o ha => hA gs w₁ sl T q S o ha
theorem AtN.at {a : Goroutine} (hA : AtN P ty Post lo hi hi b h a w) : At P ty Post b h a w := fun gs w₁ sl T q S o ha => hA gs w₁ sl T q S (cntG_le lo hi q) o ha
theorem AtN.mono {n' : Nat} {a : Goroutine} (hA : AtN P ty Post lo hi n b h a w) (hn : n' ≤ n) : AtN P ty Post lo hi n' b h a w := fun gs w₁ sl T q S hc o ha => hA gs w₁ sl T q S (Nat.le_trans hc hn) o ha
theorem AtN.off {a : Goroutine} (hA : AtN P ty Post lo hi n b h a w) (o : Off b.shun w w') : AtN P ty Post lo hi n b h a w' := fun gs w₁ sl T q S hc o₁ ha => hA gs w₁ sl T q S hc (o.trans o₁) ha
theorem cntG_down {i : Nat} {x : Nat × Nat} (h : x.1 ≤ (q i).1) : cntG lo hi (upd q i x) ≤ cntG lo hi q := by
  by_cases hr : lo ≤ i ∧ i < hi
  · have := cntG_upd (x := x) (q := q) hr
    split at this <;> split at this <;> omega
  · rw [cntG_out hr]; exact Nat.le_refl _
theorem pick_holderN {a : Goroutine} (hrun : a.status = .running)
    (fin : ∀ gs wp d sl sl' T q, Stands P ty b h (· = h) T gs (wp.at d) q → cntG lo hi q ≤ n → Off b.shun w (wp.at d) → gs[h]? = some a → stepT P (crowd gs wp sl) = runT P (crowd gs (wp.at d) sl') h → Ends P Post (crowd gs wp sl) T) : AtN P ty Post lo hi n b h a w := by
  intro gs w₁ sl T q S hc o ha
  induction q using (lss_wf b.n).induction generalizing gs w₁ sl T with
  | _ q ih =>
    obtain ⟨i, g, d, sl', hi', hg, hst⟩ := crowd_pick (P := P) (w := w₁) (sl := sl) (S.allAwake ha (.inl hrun)) ⟨h, a, ha, hrun⟩
    have S' := S.at d
    have o' : Off b.shun w (w₁.at d) := o.trans (Off.at _ _ d)
    by_cases e : i = h
    · subst e
      exact fin gs w₁ d sl sl' T q S' hc o' ha hst
    · obtain ⟨gs', ops, w', s', m', B⟩ := S'.by_step (sl := sl') hi' e e hg (fun s _ x gx c hx hgx _ g₂ _ => by
        subst hx
        rw [ha] at hgx
        obtain rfl := Option.some.inj hgx
        exact offersAt_of_not_blocked (by rw [hrun]; simp) _ _)
      refine Ends.next (by rw [hst]; exact B.run) ?_
      have hlt : i < b.n := by have := (Array.getElem?_eq_some_iff.1 hi').1; rw [S.n] at this; exact this
      refine ih (upd q i (s', m')) (lss_upd hlt B.less) gs' w' sl' (T ++ ops) B.stands ?_ (o'.trans B.off) ?_
      · exact Nat.le_trans (cntG_down (by rcases B.less with h | ⟨h, _⟩ <;> show s' ≤ _ <;> omega)) hc
      · rcases B.special h a (fun z => e z.symm) rfl ha with z | z
        · exact z
        · rw [again_of_running (.inl hrun)] at z; exact z
/-- what the holder knows of the group that it waits for -/
theorem Stands.state (S : Stands P ty b h (· = h) T gs w q) (hwt : b.wait = none) {Wg : Nat} (hwg : b.wg Wg = some (lo, hi, 0)) : WgAt ty Wg w (((cntG lo hi q : Nat) : Int) * KK) 0 ∧ b.shun Wg = true ∧ cntG lo hi q < 1000000 ∧ ∀ i, lo ≤ i → i < hi → okS (q i).1 := by
  obtain ⟨g1, g2, g3, _⟩ := S.groups Wg lo hi 0 hwg
  have := cntG_le2 lo hi q
  rcases g1 with ⟨_, h1, h2⟩ | ⟨h0, _⟩
  · exact ⟨by simpa using h1, g2, by omega, h2⟩
  · rw [hwt] at h0; cases h0
/-- a step that only lists, the count being known -/
theorem AtN.list {a : Goroutine} {Wg : Nat} (hrun : a.status = .running) (hwt : b.wait = none) (hwg : b.wg Wg = some (lo, hi, 0)) (hs : ∀ w₁, RO ty b w w₁ → ∀ V : Nat, V ≤ n → V < 1000000 → WgAt ty Wg w₁ ((V : Int) * KK) 0 →
    ∃ a' es, stepG P (h == 0) a w₁ = .go a' w₁ es ∧ (∀ e ∈ es, EvO b w₁.heap.size e) ∧ AtN P ty Post lo hi V b h a' w₁) : AtN P ty Post lo hi n b h a w :=
  pick_holderN hrun fun gs wp d sl sl' T q S hc o ha hst => by
    obtain ⟨hV, _, hV2, _⟩ := S.state hwt hwg
    obtain ⟨a', es, hgo, hG, hA⟩ := hs _ (S.ro o) _ hc hV2 hV
    obtain ⟨S', ha'⟩ := S.own rfl (a' := a') ha (gOwn_still S hG)
    exact Ends.next (by rw [hst]; exact runT_crowd_go (sl := sl') ha hgo) (hA _ _ sl' _ q S' (Nat.le_refl _) (Off.refl _ _) ha')
/-- a counted stretch of steps that touch nothing -/
theorem AtN.goes0 {k : Nat} {a : Goroutine} (hg : Goes P (h == 0) (RO ty b) DC0 (fun a w => AtN P ty Post lo hi n b h a w) k a w) : AtN P ty Post lo hi n b h a w := by
  induction k generalizing a w with
  | zero => exact fun gs w₁ sl T q S hc o ha => hg w₁ (S.ro o) gs w₁ sl T q S hc (Off.refl _ _) ha
  | succ k ih =>
    rcases hg with hstop | ⟨hrun, hstep⟩
    · exact fun gs w₁ sl T q S hc o ha => hstop w₁ (S.ro o) gs w₁ sl T q S hc (Off.refl _ _) ha
    · refine pick_holderN hrun fun gs wp d sl sl' T q S hc o ha hst => ?_
      have hs := hstep _ (S.ro o)
      cases hgo : stepG P (h == 0) a (wp.at d) with
      | go a' w' es =>
        rw [hgo, goes_go] at hs
        obtain ⟨⟨rfl, rfl⟩, h2⟩ := hs
        obtain ⟨S', ha'⟩ := S.own rfl (a' := a') ha (gOwn_still S (es := #[]) (fun e he => by simp at he))
        exact Ends.next (by rw [hst]; exact runT_crowd_go (sl := sl') ha hgo) (ih h2 _ _ sl' _ q S' hc (Off.refl _ _) ha')
      | _ => rw [hgo] at hs; exact hs.elim
/-- the holder's words are heard again -/
theorem AtN.en {a : Goroutine} (hear : b.ear = false) (hrun : a.status = .running) (hs : ∀ w₁, RO ty b w w₁ → ∃ a', stepG P (h == 0) a w₁ = .go a' w₁ #[mk .enable] ∧ AtN P ty Post lo hi n { b with ear := true } h a' w₁) : AtN P ty Post lo hi n b h a w :=
  pick_holderN hrun fun gs wp d sl sl' T q S hc o ha hst => by
    obtain ⟨a', hgo, hA⟩ := hs _ (S.ro o)
    have hlt : h < gs.size := (Array.getElem?_eq_some_iff.1 ha).1
    obtain ⟨z1, z2, z3, _⟩ := S.goArr (Off.refl b.shun _) (g := a) (g' := a') hlt
    exact Ends.next (by rw [hst]; exact runT_crowd_go (sl := sl') ha hgo) (hA _ _ sl' _ q (S.en hear hlt z1 fun x hx => z2 x hx hx) hc (Off.refl _ _) z3)
/-- all of the group leave -/
def AllLeave (b : Bd) (Wg lo hi : Nat) : Prop := ∀ i, lo ≤ i → i < hi → ∃ s kn B c kk z, b.role i = .leave Wg s kn B c kk z
/-- the holder is registered: it comes to the semaphore -/
structure Waits (P : Program) (ty : TypeId) (Post : Value → World → Prop) (lo hi : Nat) (b : Bd) (h Wg : Nat) (a : Goroutine) (w : World) : Prop where
  run : a.status = .running
  offers : a.offers = none
  block : ∀ w₁ st, Off b.shun w w₁ → WgAt ty Wg w₁ st 0 → stepG P (h == 0) a w₁ = .go { a with status := .blocked } w₁ #[]
  acq : ∀ w₁, Off b.shun w w₁ → WgAt ty Wg w₁ 0 1 → ∃ a', stepG P (h == 0) a w₁ = .go a' (w₁.setCell (smA Wg) (.int .u32 0)) (semEvents (smA Wg)) ∧ AtN P ty Post lo hi 0 b h a' w₁
def Bd.waits (b : Bd) (Wg : Nat) : Bd := { b with wait := some Wg }
/-- a turn of the group's block by the holder, deaf: into or out of the wait -/
theorem Stands.rewait (S : Stands P ty b h (· = h) T gs w q) (wt : Option Nat) (hear : b.ear = false) {Wg : Nat} (hwg : b.wg Wg = some (lo, hi, 0)) {fn : FuncId} {pos : String} {es : Array Event} {gs' : Array Goroutine} (hlt : h < gs.size) (hsz : gs'.size = gs.size) (hoth : ∀ x, x ≠ h → gs'[x]? = gs[x]?) (hasd : Aside Wg w w')
    (hes : ∀ e ∈ es, Go.ConcR.Bk Wg e) (hd : deafBehind 1 es = 1) (hnew : GSt ty wt Wg lo hi 0 q w') (hwt : ∀ Wg', Wg' ≠ Wg → (wt = some Wg' ↔ b.wait = some Wg')) : Stands P ty { b with wait := wt } h (· = h) (T ++ MemOp.ofEvents h fn pos es) gs' w' q := by
  obtain ⟨_, g2, g3, g4⟩ := S.groups Wg lo hi 0 hwg
  have o2 : Off b.shun w w' := Off.aside hasd g2 ((kind_live hnew.live).trans (kind_live (S.groups Wg lo hi 0 hwg).1.live).symm)
  have hops : ∀ op ∈ MemOp.ofEvents h fn pos es, op.g = h := fun op hop => by obtain ⟨e, _, rfl⟩ := Go.Conc.mem_ofEvents hop; rfl
  have hnm : ¬ Memb b h q h := by
    rintro (⟨_, e⟩ | e)
    · rw [hear] at e; cases e
    · rw [S.hr] at e; cases e
  obtain ⟨_, _, _, hblk⟩ := hnew.block
  have hWgB : Wg < w.heap.size := by rw [← o2.size]; exact (Array.getElem?_eq_some_iff.1 hblk).1
  refine ⟨hsz.trans S.n, S.hr, S.hq, fun _ => by rw [Deaf_own, S.deaf hear]; exact hd, fun x y hx hy => ?_, fun i x hx => ⟨S.knOff o2 i x hx, (S.keep i x hx).2⟩, fun x => by rw [o2.size]; exact S.bd x, fun x hx => ?_, ⟨fun x hx => by rw [o2.size]; exact S.shunC.1 x hx, S.shunC.2⟩, S.wf, fun i s e c hc => S.chansOff o2 e hc, S.dumb, S.bell, fun j hj => ?_, fun Wg' lo' hi' p2 e => ?_, S.apart, fun i A s kn B c kk z e => ?_, o2.even S.even, ?_, S.norel.app ?_, fun x A s kn B c kk z e h6 => ?_, ⟨by rw [o2.size]; exact S.old.le, ⟨o2.os.trans S.old.sys.1, o2.output.trans S.old.sys.2⟩, fun x h1 h2 => (hasd.block x (by have h3 : x < b.oldN := h1; have := S.old.wg Wg (by rw [hwg]; simp); omega)).trans (S.old.same x h1 h2), S.old.wg, S.old.role⟩⟩
  · rw [hoth x hx] at hy
    rw [Deaf_other T (fun z => hx z.symm) _ hops]
    exact S.fit x y hx hy
  · obtain ⟨h1, c, t, h2⟩ := S.warm x hx
    exact ⟨h1, c, t, by rw [o2.heap x h1]; exact h2⟩
  · have := S.n
    have hj : b.n ≤ j := hj
    rw [Deaf_other T (g' := h) (by omega) _ hops]
    exact S.above j hj
  · by_cases ew : Wg' = Wg
    · subst ew
      obtain ⟨rfl, rfl, rfl⟩ : lo = lo' ∧ hi = hi' ∧ 0 = p2 := by
        have e1 := Option.some.inj (hwg.symm.trans e)
        exact ⟨congrArg (·.1) e1, congrArg (·.2.1) e1, congrArg (·.2.2) e1⟩
      exact ⟨hnew, g2, g3, g4⟩
    · obtain ⟨k1, k2, k3⟩ := S.groups Wg' lo' hi' p2 e
      refine ⟨?_, k2, k3⟩
      have := k1.heap (hasd.block Wg' ew)
      rcases this with ⟨m1, m2⟩ | ⟨m1, m2⟩
      · exact .inl ⟨fun hx => m1 ((hwt Wg' ew).1 hx), m2⟩
      · exact .inr ⟨(hwt Wg' ew).2 m1, m2⟩
  · obtain ⟨k1, ⟨st, sm, k2⟩, k3⟩ := S.member i A s kn B c kk z e
    refine ⟨k1, ?_, k3⟩
    by_cases ew : A = Wg
    · subst ew; exact hnew.live
    · exact ⟨st, sm, by unfold WgAt at k2 ⊢; rw [hasd.block A ew]; exact k2⟩
  · rw [o2.size]
    refine HoldB.appH S.past hops (fun op hop x hx => ?_) (fun hm => absurd hm hnm) (fun op hop => ?_)
    all_goals
      obtain ⟨e, he, rfl⟩ := Go.Conc.mem_ofEvents hop
    · rcases hes e he with h1 | h1 | ⟨a, wr, rfl, ha⟩
      · simp only [Go.ConcR.ofEvent_loc_mark h1] at hx; cases hx
      · simp only [Go.ConcR.ofEvent_loc_mark h1] at hx; cases hx
      · simp only [Go.ConcR.ofEvent_cell, MemAct.touch?, Option.some.injEq] at hx
        subst hx
        refine ⟨fun g _ ⟨p, hp, hl⟩ => ?_, fun _ => by simp⟩
        injection hl with hl
        subst hl
        have := (S.warm _ (ice_pos (S.keep g p hp).2.1)).1
        rw [ha, g2] at this; cases this
    · rcases hes e he with h1 | h1 | ⟨a, wr, rfl, ha⟩
      · simp only [Go.ConcR.ofEvent_loc_mark h1]; trivial
      · simp only [Go.ConcR.ofEvent_loc_mark h1]; trivial
      · simp only [Go.ConcR.ofEvent_cell]; exact (by rw [← ha] at hWgB; exact hWgB : a.block < _)
  · intro op hop x
    obtain ⟨e, he, rfl⟩ := Go.Conc.mem_ofEvents hop
    rcases hes e he with h1 | h1 | ⟨a, wr, rfl, ha⟩
    · simp only [Go.ConcR.ofEvent_loc_mark h1]; simp
    · simp only [Go.ConcR.ofEvent_loc_mark h1]; simp
    · simp [Go.ConcR.ofEvent_cell]
  · obtain ⟨r, hr⟩ := S.rel x A s kn B c kk z e h6
    refine ⟨r, hr.appOther hops fun z => ?_⟩
    rw [← z, S.hr] at e; cases e
theorem bk_sem (Wg : Nat) : ∀ e ∈ semEvents (smA Wg), Go.ConcR.Bk Wg e := fun e he => by
  simp only [semEvents, List.mem_toArray, List.mem_cons, List.not_mem_nil, or_false] at he
  rcases he with rfl | rfl | rfl | rfl
  · exact .inl rfl
  · exact Go.ConcN.bk_cell _ _ rfl
  · exact Go.ConcN.bk_cell _ _ rfl
  · exact .inr (.inl rfl)
/-- ████ THE WAIT ████ -/
theorem wait_phase {Wg : Nat} {a : Goroutine} (hwt : b.wait = none) (hear : b.ear = false) (hwg : b.wg Wg = some (lo, hi, 0)) (hall : AllLeave b Wg lo hi) (A : Waits P ty Post lo hi b h Wg a w) :
    ∀ (q : Nat → Nat × Nat) (gs : Array Goroutine) (w₁ : World) (sl : Option (Nat × Nat)) (T : Trace), Stands P ty (b.waits Wg) h (· = h) T gs w₁ q → Off b.shun w w₁ → (gs[h]? = some a ∨ (gs[h]? = some { a with status := .blocked } ∧ w₁.cell? (smA Wg) = some (.int .u32 0))) → Ends P Post (crowd gs w₁ sl) T := by
  intro q
  induction q using (lss_wf b.n).induction with
  | _ q ih =>
    have hag : ∀ w : World, ({ a with status := .blocked } : Goroutine).again w = a := fun w => by
      obtain ⟨f, c, s, d, of⟩ := a
      have h1 := A.run
      have h2 := A.offers
      simp only at h1 h2
      subst h1; subst h2
      simp [Goroutine.again]
    -- a bystander's step, whoever the waiter is
    have by_ : ∀ (x : Goroutine) (gs : Array Goroutine) (w₁ : World) (T : Trace) (sl' : Option (Nat × Nat)), Stands P ty (b.waits Wg) h (· = h) T gs w₁ q → Off b.shun w w₁ → gs[h]? = some x → (x = a ∨ (x = { a with status := .blocked } ∧ w₁.cell? (smA Wg) = some (.int .u32 0))) → ∀ i g, gs[i]? = some g → g.status = .running → i ≠ h → ∃ m' ops, runT P (crowd gs w₁ sl') i = (.next m', ops) ∧ Ends P Post m' (T ++ ops) := by
      intro x gs w₁ T sl' S o hx hxa i g hi' hg e
      obtain ⟨gs', ops, w', s', m', B⟩ := S.by_step (sl := sl') hi' e e hg (fun s _ y gx c hy hgx _ g₂ _ => by
        subst hy
        rw [hx] at hgx
        obtain rfl := Option.some.inj hgx
        rcases hxa with rfl | ⟨rfl, _⟩
        · exact offersAt_of_not_blocked (by rw [A.run]; simp) _ _
        · simp [offersAt, A.offers])
      refine ⟨_, _, B.run, ?_⟩
      have hlt : i < b.n := by have := (Array.getElem?_eq_some_iff.1 hi').1; rw [S.n] at this; exact this
      refine ih (upd q i (s', m')) (lss_upd hlt B.less) gs' w' sl' (T ++ ops) B.stands (o.trans B.off) ?_
      rcases hxa with rfl | ⟨rfl, hsm⟩
      · refine .inl ?_
        rcases B.special h x (fun z => e z.symm) rfl hx with z | z
        · exact z
        · rw [again_of_running (.inl A.run)] at z; exact z
      · by_cases h2 : (q i).1 = 2 → s' = 2
        · rcases B.special h _ (fun z => e z.symm) rfl hx with z | z
          · exact .inr ⟨z, by rw [B.quiet h2]; exact hsm⟩
          · rw [hag] at z; exact .inl z
        · have h2 := Classical.not_imp.1 h2
          have z := B.wake h2.1 h2.2 h _ (fun z => e z.symm) rfl hx
          rw [hag] at z; exact .inl z
    have aw : ∀ (x : Goroutine) (gs : Array Goroutine) (w₁ : World) (T : Trace), Stands P ty (b.waits Wg) h (· = h) T gs w₁ q → gs[h]? = some x → (x = a ∨ x = { a with status := .blocked }) → ∀ g ∈ gs, Go.Conc.awake g := fun x gs w₁ T S hx hxa => S.allAwake hx (by rcases hxa with rfl | rfl; exact .inl A.run; exact .inr rfl)
    -- the waiter sleeps
    have blk : ∀ (gs : Array Goroutine) (w₁ : World) (sl : Option (Nat × Nat)) (T : Trace), Stands P ty (b.waits Wg) h (· = h) T gs w₁ q → Off b.shun w w₁ → gs[h]? = some { a with status := .blocked } → w₁.cell? (smA Wg) = some (.int .u32 0) → Ends P Post (crowd gs w₁ sl) T := by
      intro gs w₁ sl T S o hx hsm
      have hrunning : ∃ (i : Nat) (g : Goroutine), gs[i]? = some g ∧ g.status = .running := by
        obtain ⟨g1, g2, g3, g4⟩ := S.groups Wg lo hi 0 hwg
        have hmem : ∀ i, lo ≤ i → i < hi → 2 ≤ (q i).1 → ∃ g, gs[i]? = some g ∧ g.status = .running := fun i h1 h2 h3 => by
          have hlt : i < gs.size := by rw [S.n]; exact Nat.lt_of_lt_of_le h2 g4
          obtain ⟨s, kn, B, c, kk, z, hr⟩ := hall i h1 h2
          have hih : i ≠ h := fun e => by
            have := S.hr
            rw [← e] at this
            have hr : (b.waits Wg).role i = _ := hr
            rw [hr] at this; cases this
          refine ⟨gs[i], Array.getElem?_eq_getElem hlt, ?_⟩
          have hf := S.fit i _ hih (Array.getElem?_eq_getElem hlt)
          have hr' : (b.waits Wg).role i = _ := hr
          rw [hr'] at hf
          rcases hf.2 with ⟨_, hrun, _⟩ | ⟨_, hl⟩
          · exact hrun
          · have hlive := g1.live
            generalize (q i).1 = s1 at hl h3
            generalize (q i).2 = m1 at hl
            generalize Deaf T i = d1 at hl
            cases hl with
            | r0 h => exact h.running (fun _ x => x.1) hlive
            | k1 h => exact h.running (fun _ x => x.1) hlive
            | d1 h => exact h.running (fun _ x => x.1) hlive
            | d2 h => exact h.running (fun _ x => x.1) hlive
            | d3 h => exact h.running (fun _ x => x.1) hlive
            | d4 h => exact h.running (fun _ x => x.1) hlive
            | quit h => omega
        rcases g1 with ⟨h0, _⟩ | ⟨_, _, ⟨hV, _, _⟩ | ⟨L, h1, h2, _, h5⟩ | ⟨hst, _⟩⟩
        · exact absurd rfl h0
        · have hex : ∃ i, lo ≤ i ∧ i < hi ∧ 5 ≤ (q i).1 := by
            refine Classical.byContradiction fun hn => ?_
            have : cntG lo hi q = 0 := by
              unfold cntG
              have e : sumTo hi (fun i => if lo ≤ i ∧ 5 ≤ (q i).1 then 1 else 0) = sumTo hi fun _ => 0 := Go.ConcN.sumTo_congr fun i hi' => by
                rw [if_neg]
                exact fun ⟨a, c⟩ => hn ⟨i, a, hi', c⟩
              rw [e]
              have := Go.ConcN.sumTo_le (f := fun _ => 0) (c := 0) (j := hi) fun _ _ => Nat.le_refl _
              omega
            omega
          obtain ⟨i, h1, h2, h5⟩ := hex
          obtain ⟨g, hg⟩ := hmem i h1 h2 (by omega)
          exact ⟨i, g, hg⟩
        · obtain ⟨g, hg⟩ := hmem L h1 h2 (by omega)
          exact ⟨L, g, hg⟩
        · have := hst.cellSm
          rw [hsm] at this
          injection this with this
          injection this with _ this
          cases this
      obtain ⟨i, g, d, sl', hi', hg, hst⟩ := crowd_pick (P := P) (w := w₁) (sl := sl) (aw _ gs w₁ T S hx (.inr rfl)) hrunning
      have e : i ≠ h := fun e => by
        subst e
        rw [hx] at hi'
        obtain rfl := Option.some.inj hi'
        cases hg
      obtain ⟨m', ops, hr, hE⟩ := by_ _ gs (w₁.at d) T sl' (S.at d) (o.trans (Off.at _ _ d)) hx (.inr ⟨rfl, hsm⟩) i g hi' hg e
      exact Ends.next (by rw [hst]; exact hr) hE
    intro gs w₁ sl T S o hx
    rcases hx with hx | ⟨hx, hsm⟩
    · obtain ⟨i, g, d, sl', hi', hg, hst⟩ := crowd_pick (P := P) (w := w₁) (sl := sl) (aw _ gs w₁ T S hx (.inl rfl)) ⟨h, a, hx, A.run⟩
      have S' := S.at d
      have o' : Off b.shun w (w₁.at d) := o.trans (Off.at _ _ d)
      have hlt : h < gs.size := (Array.getElem?_eq_some_iff.1 hx).1
      by_cases e : i = h
      · subst e
        obtain rfl : g = a := by rw [hx] at hi'; exact (Option.some.inj hi').symm
        obtain ⟨g1, g2, g3, g4⟩ := S'.groups Wg lo hi 0 hwg
        have sleep : ∀ st, WgAt ty Wg (w₁.at d) st 0 → Ends P Post (crowd gs w₁ sl) T := fun st hst' => by
          have hgo := A.block _ st o' hst'
          refine Ends.next (by rw [hst]; exact runT_crowd_go (sl := sl') hx hgo) ?_
          have hnw : gs.map (woken P g { g with status := .blocked } (w₁.at d)) = gs := by
            have : woken P g { g with status := .blocked } (w₁.at d) = id := by funext y; simp [woken]
            rw [this, Array.map_id]
          rw [hnw]
          refine blk _ (w₁.at d) sl' _ (S'.ownG rfl hlt (by simp) (fun x hx => Array.getElem?_setIfInBounds_ne (fun z => hx z.symm)) (gOwn_still S' (es := #[]) (fun e he => by simp at he))) o' (Array.getElem?_setIfInBounds_self_of_lt hlt) ?_
          have := hst'.cellSm
          exact this
        rcases g1 with ⟨h0, _⟩ | ⟨_, _, ⟨_, hw, _⟩ | ⟨L, _, _, _, ⟨_, hw⟩ | ⟨_, hw⟩ | ⟨_, hw⟩⟩ | ⟨hw, hle⟩⟩
        · exact absurd rfl h0
        · exact sleep _ hw
        · exact sleep _ hw
        · exact sleep _ hw
        · exact sleep _ hw
        · -- the semaphore is free
          obtain ⟨a', hgo, hA⟩ := A.acq _ o' hw
          refine Ends.next (by rw [hst]; exact runT_crowd_go (sl := sl') hx hgo) ?_
          have hasd := aside_setCell (w₁.at d) (smA Wg) (.int .u32 0)
          have hw2 := hw.setSm 0
          obtain ⟨z1, z2, z3, _⟩ := S'.goArr (Off.aside hasd g2 (kind_setCell _ _ _ _)) (g := g) (g' := a') hlt
          have hcnt : cntG lo hi q = 0 := by
            unfold cntG
            have e : sumTo hi (fun i => if lo ≤ i ∧ 5 ≤ (q i).1 then 1 else 0) = sumTo hi fun _ => 0 := Go.ConcN.sumTo_congr fun i hi' => by
              rw [if_neg]
              intro ⟨a, c⟩
              have := hle i a hi'
              omega
            rw [e]
            have := Go.ConcN.sumTo_le (f := fun _ => 0) (c := 0) (j := hi) fun _ _ => Nat.le_refl _
            omega
          have S2 := S'.rewait none hear hwg (fn := g.frame.fn) (pos := g.frame.place) hlt z1 (fun x hx => z2 x hx hx) hasd (bk_sem Wg) rfl (.inl ⟨by simp, by rw [hcnt]; simpa using hw2, fun x a c => by have := hle x a c; unfold okS; omega⟩) (fun Wg' hne => by
            show (none : Option Nat) = some Wg' ↔ some Wg = some Wg'
            constructor
            · intro h; cases h
            · intro h; exact absurd (Option.some.inj h).symm hne)
          have e2 : ({ b.waits Wg with wait := none } : Bd) = b := by
            obtain ⟨x1, x2, x3, x4, x5, x6, x7, x8⟩ := b
            simp only [Bd.waits] at hwt ⊢
            rw [hwt]
          rw [e2] at S2
          exact hA _ _ sl' _ q S2 (by omega) (Off.aside hasd g2 (kind_setCell _ _ _ _)) z3
      · obtain ⟨m', ops, hr, hE⟩ := by_ _ gs (w₁.at d) T sl' S' o' hx (.inl rfl) i g hi' hg e
        exact Ends.next (by rw [hst]; exact hr) hE
    · exact blk gs w₁ sl T S o hx hsm
end
end Go.Proofs.Ytaiinkeendejdaa
namespace Go.Proofs.Ytaiinkeendejdaa
open Go.Conc
open Go.ConcN (sumTo upd sumTo_upd upd_ne upd_same WgLive)
open Go.ConcR (KK wgBlock WgAt stA smA rd wr mk DC0)
section
variable {P : Program} {ty : TypeId} {Post : Value → World → Prop} {b : Bd} {h : Nat} {T : Trace} {gs : Array Goroutine} {w w' : World} {q : Nat → Nat × Nat} {lo hi n : Nat}
/-- at the semaphore -/
theorem At.waits {Wg : Nat} {a : Goroutine} (hwt : b.wait = none) (hear : b.ear = false) (hwg : b.wg Wg = some (lo, hi, 0)) (hall : AllLeave b Wg lo hi) (A : Waits P ty Post lo hi b h Wg a w) : At P ty Post (b.waits Wg) h a w :=
  fun gs w₁ sl T q S o ha => wait_phase hwt hear hwg hall A q gs w₁ sl T S o (.inl ha)
/-- the CompareAndSwap: it hits, or misses -/
theorem AtN.cas {Wg vs : Nat} {a : Goroutine} (hrun : a.status = .running) (hwt : b.wait = none) (hear : b.ear = false) (hwg : b.wg Wg = some (lo, hi, 0))
    (hs : ∀ w₁, RO ty b w w₁ → ∀ V : Nat, V ≤ n → V < 1000000 → WgAt ty Wg w₁ ((V : Int) * KK) 0 →
      (V = vs → 1 ≤ V ∧ ∃ a', stepG P (h == 0) a w₁ = .go a' (w₁.setCell (stA Wg) (.int .u64 ((V : Int) * KK + 1))) #[rd (stA Wg), wr (stA Wg)] ∧ At P ty Post (b.waits Wg) h a' w₁) ∧
      (V ≠ vs → ∃ a', stepG P (h == 0) a w₁ = .go a' w₁ #[rd (stA Wg)] ∧ AtN P ty Post lo hi V b h a' w₁)) : AtN P ty Post lo hi n b h a w :=
  pick_holderN hrun fun gs wp d sl sl' T q S hc o ha hst => by
    obtain ⟨hV, hsh, hV2, hok⟩ := S.state hwt hwg
    obtain ⟨h1, h2⟩ := hs _ (S.ro o) _ hc hV2 hV
    have hlt : h < gs.size := (Array.getElem?_eq_some_iff.1 ha).1
    have hWgB : Wg < (wp.at d).heap.size := (Array.getElem?_eq_some_iff.1 hV).1
    by_cases e : cntG lo hi q = vs
    · obtain ⟨hpos, a', hgo, hA⟩ := h1 e
      have hasd := aside_setCell (wp.at d) (stA Wg) (.int .u64 (((cntG lo hi q : Nat) : Int) * KK + 1))
      obtain ⟨z1, z2, z3, _⟩ := S.goArr (Off.aside hasd hsh (kind_setCell _ _ _ _)) (g := a) (g' := a') hlt
      have S2 := S.rewait (some Wg) hear hwg (fn := a.frame.fn) (pos := a.frame.place) (es := #[rd (stA Wg), wr (stA Wg)]) hlt z1 (fun x hx => z2 x hx hx) hasd (fun e he => by
        simp only [List.mem_toArray, List.mem_cons, List.not_mem_nil, or_false] at he
        rcases he with rfl | rfl <;> exact Go.ConcN.bk_cell _ _ rfl) rfl (.inr ⟨rfl, rfl, .inl ⟨hpos, hV.setSt _, hok⟩⟩) (fun Wg' hne => by
          rw [hwt]
          constructor
          · intro h; exact absurd (Option.some.inj h).symm hne
          · intro h; cases h)
      exact Ends.next (by rw [hst]; exact runT_crowd_go (sl := sl') ha hgo) (hA _ _ sl' _ q S2 (Off.aside hasd hsh (kind_setCell _ _ _ _)) z3)
    · obtain ⟨a', hgo, hA⟩ := h2 e
      have hG : ∀ e ∈ #[rd (stA Wg)], EvO b (wp.at d).heap.size e := fun e he => by
        simp only [List.mem_toArray, List.mem_singleton] at he
        subst he
        exact evO_atomic ((S.ro o).ice Wg hsh) hWgB
      obtain ⟨S', ha'⟩ := S.own rfl (a' := a') ha (gOwn_still S hG)
      exact Ends.next (by rw [hst]; exact runT_crowd_go (sl := sl') ha hgo) (hA _ _ sl' _ q S' (Nat.le_refl _) (Off.refl _ _) ha')
/-- the band behind the wait: the group's members are but mute -/
def Bd.joined (b : Bd) (Wg lo hi : Nat) : Bd := { b with role := fun i => if lo ≤ i ∧ i < hi then .mute else b.role i, wg := upd b.wg Wg none }
/-- ████ THE HOLDER ACQUIRES WHAT THE GROUP's MEMBERS RELEASED ████ -/
theorem AtN.acquire {Wg : Nat} {a : Goroutine} (hrun : a.status = .running) (hwt : b.wait = none) (hear : b.ear = true) (hwg : b.wg Wg = some (lo, hi, 0)) (hall : AllLeave b Wg lo hi)
    (hs : ∀ w₁, RO ty b w w₁ → ∃ a', stepG P (h == 0) a w₁ = .go a' w₁ #[mk (.acquire (stA Wg))] ∧ At P ty Post (b.joined Wg lo hi) h a' w₁) : AtN P ty Post lo hi 0 b h a w :=
  pick_holderN hrun fun gs wp d sl sl' T q S hc o ha hst => by
    obtain ⟨hV, hsh, _, hok⟩ := S.state hwt hwg
    obtain ⟨a', hgo, hA⟩ := hs _ (S.ro o)
    have hlt : h < gs.size := (Array.getElem?_eq_some_iff.1 ha).1
    have hWgB : Wg < (wp.at d).heap.size := (Array.getElem?_eq_some_iff.1 hV).1
    have hMh : Memb b h q h := .inl ⟨rfl, hear⟩
    have hd0 : Deaf T h = 0 := S.past.hears h hMh
    have e1 : MemOp.ofEvents h a.frame.fn a.frame.place #[mk (.acquire (stA Wg))] = #[{ g := h, fn := a.frame.fn, pos := a.frame.place, act := .mark (.acquire (stA Wg)) }] := by rw [ofEvents_eq]; simp [Go.ConcR.ofEvent_mk]
    have hops : ∀ op ∈ MemOp.ofEvents h a.frame.fn a.frame.place #[mk (.acquire (stA Wg))], op.g = h := fun op hop => by obtain ⟨e, _, rfl⟩ := Go.Conc.mem_ofEvents hop; rfl
    obtain ⟨z1, z2, z3, _⟩ := S.goArr (Off.refl b.shun _) (g := a) (g' := a') hlt
    have hin : ∀ i, lo ≤ i → i < hi → i ≠ h ∧ (q i).1 = 1 ∧ QuitsD P (q i).2 (Deaf T i) (gs[i]?.getD default) ∧ 0 < i := fun i h1 h2 => by
      obtain ⟨s, kn, B, c, kk, z, hr⟩ := hall i h1 h2
      have hih : i ≠ h := fun e => by
        have := S.hr
        rw [← e, hr] at this; cases this
      have hlt' : i < gs.size := by rw [S.n]; exact Nat.lt_of_lt_of_le h2 (S.groups Wg lo hi 0 hwg).2.2.2
      have hf := S.fit i _ hih (Array.getElem?_eq_getElem hlt')
      rw [hr] at hf
      have h5 : ¬ 5 ≤ (q i).1 := fun h5 => by have := cntG_pos (q := q) (lo := lo) (hi := hi) ⟨h1, h2⟩ h5; omega
      have hk := hok i h1 h2
      rw [Array.getElem?_eq_getElem hlt', Option.getD_some]
      rcases hf.2 with ⟨h8, _⟩ | ⟨_, hl⟩
      · omega
      · have h1' : (q i).1 = 1 := by
          unfold okS at hk
          generalize (q i).1 = s1 at hl h5 hk ⊢
          generalize (q i).2 = m1 at hl
          generalize Deaf T i = d1 at hl
          cases hl <;> first | rfl | omega
        refine ⟨hih, h1', ?_, hf.1⟩
        rw [h1'] at hl
        generalize (q i).2 = m1 at hl ⊢
        generalize Deaf T i = d1 at hl ⊢
        cases hl with
        | quit h => exact h
    have hnoh : ¬ (lo ≤ h ∧ h < hi) := fun ⟨h1, h2⟩ => (hin h h1 h2).1 rfl
    have p1 := HoldB.acquire (a := stA Wg) (D := fun g => lo ≤ g ∧ g < hi) (h := h) S.past hd0 hWgB (fun g ⟨h1, h2⟩ => by
      obtain ⟨s, kn, B, c, kk, z, hr⟩ := hall g h1 h2
      exact S.rel g Wg s kn B c kk z hr (by rw [(hin g h1 h2).2.1]; omega)) (fun i => by
      intro e
      obtain ⟨op, hop, he⟩ := Option.map_eq_some_iff.1 e
      exact S.norel op (Array.mem_of_getElem? hop) _ he) a.frame.fn a.frame.place
    rw [← e1] at p1
    have hrole : ∀ i, lo ≤ i ∧ i < hi → (b.joined Wg lo hi).role i = .mute := fun i hi' => if_pos hi'
    have hroleN : ∀ i, ¬ (lo ≤ i ∧ i < hi) → (b.joined Wg lo hi).role i = b.role i := fun i hi' => if_neg hi'
    obtain ⟨q', hq'⟩ : ∃ q' : Nat → Nat × Nat, q' = fun i => if lo ≤ i ∧ i < hi then (0, (q i).2) else q i := ⟨_, rfl⟩
    have hqi : ∀ i, lo ≤ i ∧ i < hi → q' i = (0, (q i).2) := fun i hi' => by rw [hq']; exact if_pos hi'
    have hqn : ∀ i, ¬ (lo ≤ i ∧ i < hi) → q' i = q i := fun i hi' => by rw [hq']; exact if_neg hi'
    have hat : ∀ i s, ((b.joined Wg lo hi).role i).at (q' i).1 = some s → ¬ (lo ≤ i ∧ i < hi) ∧ (b.role i).at (q i).1 = some s := fun i s e => by
      by_cases hi' : lo ≤ i ∧ i < hi
      · rw [hrole i hi'] at e; cases e
      · rw [hroleN i hi', hqn i hi'] at e; exact ⟨hi', e⟩
    have hkn : ∀ i p, p ∈ ((b.joined Wg lo hi).role i).kn → ¬ (lo ≤ i ∧ i < hi) ∧ p ∈ (b.role i).kn := fun i p e => by
      by_cases hi' : lo ≤ i ∧ i < hi
      · rw [hrole i hi'] at e; cases e
      · rw [hroleN i hi'] at e; exact ⟨hi', e⟩
    refine Ends.next (by rw [hst]; exact runT_crowd_go (sl := sl') ha hgo) (hA _ _ sl' _ q' ⟨z1.trans S.n, by rw [hroleN h hnoh]; exact S.hr, by rw [hqn h hnoh]; exact S.hq, fun e => (by rw [show (b.joined Wg lo hi).ear = b.ear from rfl, hear] at e; cases e), fun x y hx hy => ?_, fun i x hx => ?_, fun x => ?_, S.warm, ⟨S.shunC.1, fun i s e c hc => S.shunC.2 i s (hat i s e).2 c hc⟩, fun i s e => S.wf i s (hat i s e).2, fun i s e c hc => S.chans i s (hat i s e).2 c hc, fun i s kn B e => ?_, fun i A s kn B c kk z e h8 => ?_, fun j hj => ?_, fun A lo1 hi1 p1 e => ?_, fun A lo1 hi1 p1 A' lo2 hi2 p2 e1 e2 => ?_, fun i A s kn B c kk z e => ?_, S.even, ?_, S.norel.app ?_, fun x A s kn B c kk z e h6 => ?_, ⟨S.old.le, S.old.sys, S.old.same, fun A hA => ?_, fun i A s kn B c kk z e => ?_⟩⟩ (Off.refl _ _) z3)
    · have hxh : x ≠ h := hx
      rw [z2 x hxh hxh] at hy
      rw [Deaf_other T (fun z => hxh z.symm) _ hops]
      by_cases hi' : lo ≤ x ∧ x < hi
      · rw [hrole x hi', hqi x hi']
        obtain ⟨_, _, g3, g4⟩ := hin x hi'.1 hi'.2
        rw [hy, Option.getD_some] at g3
        exact ⟨g4, rfl, g3⟩
      · rw [hroleN x hi', hqn x hi']
        exact S.fit x y hxh hy
    · obtain ⟨hi', hx⟩ := hkn i x hx
      rw [hroleN i hi']
      exact S.keep i x hx
    · by_cases hi' : lo ≤ x ∧ x < hi
      · rw [hrole x hi']; exact Nat.zero_le _
      · rw [hroleN x hi']; exact S.bd x
    · by_cases hi' : lo ≤ i ∧ i < hi
      · rw [hrole i hi'] at e; cases e
      · rw [hroleN i hi'] at e; exact S.dumb i s kn B e
    · by_cases hi' : lo ≤ i ∧ i < hi
      · rw [hrole i hi'] at e; cases e
      · rw [hroleN i hi'] at e; rw [hqn i hi'] at h8
        exact S.bell i A s kn B c kk z e h8
    · have := S.n
      have hj : b.n ≤ j := hj
      rw [Deaf_other T (g' := h) (by omega) _ hops]
      refine ⟨(S.above j hj).1, ?_⟩
      by_cases hi' : lo ≤ j ∧ j < hi
      · exact hrole j hi'
      · rw [hroleN j hi']; exact (S.above j hj).2
    · have e : upd b.wg Wg none A = some (lo1, hi1, p1) := e
      have hne : A ≠ Wg := fun ea => by rw [ea, upd_same] at e; cases e
      rw [upd_ne _ _ hne] at e
      obtain ⟨g1, g2⟩ := S.groups A lo1 hi1 p1 e
      refine ⟨g1.congr (fun x h1 h2 => ?_) rfl, g2⟩
      have hni : ¬ (lo ≤ x ∧ x < hi) := fun ⟨h3, h4⟩ => hne (S.apart A lo1 hi1 p1 Wg lo hi 0 e hwg x h1 h2 h3 h4)
      rw [hqn x hni]; exact .inl rfl
    · have e1 : upd b.wg Wg none A = some (lo1, hi1, p1) := e1
      have e2 : upd b.wg Wg none A' = some (lo2, hi2, p2) := e2
      have h1 : A ≠ Wg := fun ea => by rw [ea, upd_same] at e1; cases e1
      have h2 : A' ≠ Wg := fun ea => by rw [ea, upd_same] at e2; cases e2
      rw [upd_ne _ _ h1] at e1
      rw [upd_ne _ _ h2] at e2
      exact S.apart A lo1 hi1 p1 A' lo2 hi2 p2 e1 e2
    · by_cases hi' : lo ≤ i ∧ i < hi
      · rw [hrole i hi'] at e; cases e
      · rw [hroleN i hi'] at e
        obtain ⟨g1, g2, g3⟩ := S.member i A s kn B c kk z e
        refine ⟨g1, g2, fun hx => ?_⟩
        obtain ⟨lo1, hi1, p1, k1, k2, k3⟩ := g3 hx
        have hne : A ≠ Wg := fun ea => by
          rw [ea, hwg] at k1
          obtain ⟨rfl, rfl, _⟩ : lo = lo1 ∧ hi = hi1 ∧ 0 = p1 := by
            have e1 := Option.some.inj k1
            exact ⟨congrArg (·.1) e1, congrArg (·.2.1) e1, congrArg (·.2.2) e1⟩
          exact hi' ⟨k2, k3⟩
        exact ⟨lo1, hi1, p1, by show upd b.wg Wg none A = _; rw [upd_ne _ _ hne]; exact k1, k2, k3⟩
    · refine ⟨p1.clean, fun i x hx hm => ?_, p1.plain, fun i x hx hw g hg hS => ?_, fun g hg => ?_, p1.seen⟩
      · refine (p1.known i x hx hm).imp id fun z => z.imp (fun ⟨g, hg, ⟨hL, hD⟩, hS⟩ => ⟨g, hg, fun e => ?_, ?_⟩) id
        · rw [hroleN g hD] at e; exact hL e
        · rcases hS with ⟨h1, h2, h3⟩ | hS
          · refine .inl ⟨h1, h2, ?_⟩
            show Sn ((b.joined Wg lo hi).role g).kn x.loc
            rw [hroleN g hD]; exact h3
          · exact .inr hS
      · obtain ⟨p, hp, hl⟩ := hS
        obtain ⟨hi', hp⟩ := hkn g p hp
        refine p1.wrote i x hx hw g (hg.imp id fun hg => ?_) ⟨p, hp, hl⟩
        obtain ⟨s, hs⟩ := Option.isSome_iff_exists.1 hg
        rw [(hat g s hs).2]; rfl
      · refine p1.hears g (hg.imp id fun hg => ?_)
        obtain ⟨s, hs⟩ := Option.isSome_iff_exists.1 hg
        rw [(hat g s hs).2]; rfl
    · intro op hop x
      obtain ⟨e, he, rfl⟩ := Go.Conc.mem_ofEvents hop
      simp only [List.mem_toArray, List.mem_singleton] at he
      subst he; simp [mk, MemAct.ofEvent]
    · by_cases hi' : lo ≤ x ∧ x < hi
      · rw [hrole x hi'] at e; cases e
      · rw [hroleN x hi'] at e; rw [hqn x hi'] at h6
        obtain ⟨r, hr⟩ := S.rel x A s kn B c kk z e h6
        refine ⟨r, hr.appOther hops fun z => ?_⟩
        rw [← z, S.hr] at e; cases e
    · by_cases eA : A = Wg
      · exact absurd (show upd b.wg Wg none A = none by rw [eA, upd_same]) hA
      · exact S.old.wg A (by intro e; exact hA (by show upd b.wg Wg none A = none; rw [upd_ne _ _ eA]; exact e))
    · by_cases hi' : lo ≤ i ∧ i < hi
      · rw [hrole i hi'] at e; cases e
      · rw [hroleN i hi'] at e
        exact S.old.role i A s kn B c kk z e
end
end Go.Proofs.Ytaiinkeendejdaa
