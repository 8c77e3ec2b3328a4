/-
  A BAND OF GOROUTINES OF WHICH ONE HOLDS: THE TOKEN PASSES, on whatever tape. No condition.
  And: A BAND OF GOROUTINES OF WHICH ONE HOLDS: THE TOKEN PASSES: a send on a channel of somebody's seat. No condition.
  And: A BAND OF GOROUTINES OF WHICH ONE HOLDS: 'At': from here the run ends well; the holder's own steps; what runs well alone. No condition.
-/
import Derived.Test.YtaiinkeendejdaaBandBy2
namespace Go.Proofs.Ytaiinkeendejdaa
open Go.Conc
open Go.ConcN (sumTo upd sumTo_upd upd_ne upd_same WgLive)
open Go.ConcR (KK wgBlock WgAt stA smA rd wr mk DC0)
/-- what the holder's step may list -/
structure EvO (b : Bd) (n : Nat) (e : Event) : Prop where
  touch : ∀ x, (MemAct.ofEvent e).touch? = some x → (∀ a, x.loc = .cell a → iceF b.F a = true → x.write = false) ∧ (Shu b x.loc → x.kind ≠ .plain)
  dis : e.loc ≠ .mark .disable
  en : e.loc ≠ .mark .enable
  rel : ∀ a, e.loc ≠ .mark (.release a)
  low : (MemAct.ofEvent e).low n
/-- what the holder's step may do -/
structure GOwn (b : Bd) (w w' : World) (es : Array Event) : Prop where
  evs : ∀ e ∈ es, EvO b w'.heap.size e
  ice : ∀ a, iceF b.F a = true → w'.cell? a = w.cell? a
  warm : ∀ x, b.F x ≠ 0 → ∃ c t, w'.heap[x]? = some (.cells c t (0, 0))
  obj : ∀ (x : Nat) o, w.heap[x]? = some o → isCells o = false → w'.heap[x]? = some o
  z : ∀ x, b.shun x = true → w'.heap[x]? = w.heap[x]?
  size : w.heap.size ≤ w'.heap.size
  even : Even (ZT b.shun w'.heap.size) w'
  sys : w'.os = w.os ∧ w'.output = w.output
theorem evO_off {b : Bd} {n : Nat} {e : Event} (h : OffZ b.shun (iceF b.F) n e) : EvO b n e := by
  rcases h with ⟨a, wr, rfl, hz, hi, hl⟩ | ⟨r, c, rfl, hl⟩ | rfl
  · refine ⟨fun x hx => ?_, by simp, by simp, fun _ => by simp, by cases wr <;> exact hl⟩
    have : x = ⟨.cell a, wr, .plain⟩ := by cases wr <;> simpa [MemAct.ofEvent, MemAct.touch?] using hx.symm
    subst this
    refine ⟨fun a' e h => ?_, fun ⟨a', e, ha⟩ => ?_⟩
    · injection e with e; subst e
      cases hw : wr with
      | false => rfl
      | true => rw [hi hw] at h; cases h
    · injection e with e; subst e
      rw [hz] at ha; cases ha
  · refine ⟨fun x hx => ?_, by simp, by simp, fun _ => by simp, by cases c <;> exact hl⟩
    have : x.loc = .obj r ∧ x.write = false := by cases c <;> simp [MemAct.ofEvent, MemAct.touch?] at hx <;> subst hx <;> exact ⟨rfl, rfl⟩
    refine ⟨fun a' e h => this.2, fun ⟨a', e, ha⟩ => ?_⟩
    rw [this.1] at e; cases e
  · exact ⟨fun x hx => by simp [MemAct.ofEvent, MemAct.touch?] at hx, by simp, by simp, fun _ => by simp, trivial⟩
theorem Lone.own {b : Bd} {w w' : World} {es : Array Event} (L : Lone b.shun b.F w w' es) : GOwn b w w' es := ⟨fun e he => evO_off (L.evs e he), L.ice, L.warm, L.obj, L.z, L.size, L.even, L.sys⟩
section
variable {P : Program} {ty : TypeId} {b : Bd} {h : Nat} {Sp : Nat → Prop} {T : Trace} {gs : Array Goroutine} {w w' : World} {q : Nat → Nat × Nat}
theorem evO_ops {i n : Nat} {fn : FuncId} {pos : String} {es : Array Event} (h : ∀ e ∈ es, EvO b n e) :
    (∀ op ∈ MemOp.ofEvents i fn pos es, op.g = i) ∧ (∀ op ∈ MemOp.ofEvents i fn pos es, ∀ x, op.act.touch? = some x → (∀ a, x.loc = .cell a → iceF b.F a = true → x.write = false) ∧ (Shu b x.loc → x.kind ≠ .plain)) ∧ (∀ op ∈ MemOp.ofEvents i fn pos es, op.act.low n) ∧ (∀ t : Trace, Deaf (t ++ MemOp.ofEvents i fn pos es) i = Deaf t i) ∧ NoRel (MemOp.ofEvents i fn pos es) := by
  refine ⟨fun op hop => by obtain ⟨e, _, rfl⟩ := Go.Conc.mem_ofEvents hop; rfl, fun op hop x hx => by obtain ⟨e, he, rfl⟩ := Go.Conc.mem_ofEvents hop; exact (h e he).touch x hx, fun op hop => by obtain ⟨e, he, rfl⟩ := Go.Conc.mem_ofEvents hop; exact (h e he).low,
    fun t => by rw [Deaf_own]; exact deafBehind_still (fun e he => ⟨(h e he).dis, (h e he).en⟩) _, fun op hop a => ?_⟩
  obtain ⟨e, he, rfl⟩ := Go.Conc.mem_ofEvents hop
  intro ec
  have hr := (h e he).rel a
  obtain ⟨loc, wr, sy⟩ := e
  cases loc with
  | mark m => simp only [MemAct.ofEvent, MemAct.mark.injEq] at ec; subst ec; exact hr rfl
  | obj c => cases wr <;> cases sy <;> simp [MemAct.ofEvent] at ec
  | _ => simp [MemAct.ofEvent] at ec
/-- the trace behind what the holder lists -/
theorem Stands.pastOwn (S : Stands P ty b h Sp T gs w q) {n : Nat} (hn : w.heap.size ≤ n) {fn : FuncId} {pos : String} {es : Array Event} (he : ∀ e ∈ es, EvO b n e) :
    PastB (Stil b) (Shu b) (Memb b h q) (Loos b) n (Knows (T ++ MemOp.ofEvents h fn pos es) h) (T ++ MemOp.ofEvents h fn pos es) := by
  obtain ⟨hops, hs, hl, hd, _⟩ := evO_ops (i := h) (fn := fn) (pos := pos) he
  refine HoldB.appH (S.past.mono hn) hops (fun op hop x hx => ⟨fun g _ hst => ?_, (hs op hop x hx).2⟩) (fun _ => hd T) hl
  obtain ⟨p, hp, hloc⟩ := hst
  exact (hs op hop x hx).1 p.1 hloc (S.keep g p hp).2.1
theorem Stands.ownW (S : Stands P ty b h Sp T gs w q) {es : Array Event} (G : GOwn b w w' es) : (∀ i, Kn (b.role i).kn w') ∧ ∀ i s, (b.role i).at (q i).1 = some s → ∀ c, s.has c → ∃ k, w'.heap[c]? = some (.chan 0 #[] (b.rung c) k k false) :=
  ⟨fun i p hp => by rw [G.ice _ (S.keep i p hp).2.1]; exact S.kn i p hp, fun i s e c hc => by
    obtain ⟨k, hk⟩ := S.chans i s e c hc
    exact ⟨k, G.obj c _ hk rfl⟩⟩
/-- the holder lists, and turns the world -/
theorem Stands.ownG (S : Stands P ty b h Sp T gs w q) (hSp : Sp h) {fn : FuncId} {pos : String} {es : Array Event} {gs' : Array Goroutine} (hlt : h < gs.size) (hsz : gs'.size = gs.size) (hoth : ∀ x, ¬ Sp x → gs'[x]? = gs[x]?) (G : GOwn b w w' es) :
    Stands P ty b h Sp (T ++ MemOp.ofEvents h fn pos es) gs' w' q := by
  obtain ⟨hops, hs, hl, hd, hn⟩ := evO_ops (i := h) (fn := fn) (pos := pos) G.evs
  obtain ⟨hK, hC⟩ := S.ownW G
  have wg : ∀ Wg, b.shun Wg = true → ∀ st sm, WgAt ty Wg w st sm → WgAt ty Wg w' st sm := fun Wg hz st sm hx => by unfold WgAt at hx ⊢; rw [G.z Wg hz]; exact hx
  refine ⟨hsz.trans S.n, S.hr, S.hq, fun e => by rw [hd T]; exact S.deaf e, fun x y hx hy => ?_, fun i p hp => ⟨hK i p hp, (S.keep i p hp).2⟩, fun i => Nat.le_trans (S.bd i) G.size, fun x hx => ⟨(S.warm x hx).1, G.warm x hx⟩, ⟨fun x hx => Nat.lt_of_lt_of_le (S.shunC.1 x hx) G.size, S.shunC.2⟩, S.wf, hC, S.dumb, S.bell, fun j hj => ?_, fun Wg lo hi p hw => ?_, S.apart, fun i Wg s kn B c kk z e => ?_, G.even, S.pastOwn G.size G.evs, S.norel.app hn, fun i Wg s kn B c kk z e h6 => ?_, S.old.turn G.size G.sys fun x _ h2 => G.z x h2⟩
  · have hxh : x ≠ h := fun e => hx (e ▸ hSp)
    rw [hoth x hx] at hy
    rw [Deaf_other T (fun z => hxh z.symm) _ hops]
    exact S.fit x y hx hy
  · have := S.n
    rw [Deaf_other T (g' := h) (by omega) _ hops]
    exact S.above j hj
  · obtain ⟨h1, h2, h3⟩ := S.groups Wg lo hi p hw
    exact ⟨h1.heap (G.z Wg h2), h2, h3⟩
  · obtain ⟨h1, ⟨st, sm, h2⟩, h3⟩ := S.member i Wg s kn B c kk z e
    exact ⟨h1, ⟨st, sm, wg Wg h1 _ _ h2⟩, h3⟩
  · obtain ⟨r, hr⟩ := S.rel i Wg s kn B c kk z e h6
    refine ⟨r, hr.appOther hops fun z => ?_⟩
    rw [← z, S.hr] at e; cases e
/-- THE HOLDER's OWN STEP -/
theorem Stands.own (S : Stands P ty b h Sp T gs w q) (hSp : Sp h) {a a' : Goroutine} {es : Array Event} (ha : gs[h]? = some a) (G : GOwn b w w' es) :
    Stands P ty b h Sp (T ++ MemOp.ofEvents h a.frame.fn a.frame.place es) ((gs.map (woken P a a' w')).setIfInBounds h a') w' q ∧ ((gs.map (woken P a a' w')).setIfInBounds h a')[h]? = some a' := by
  have hlt : h < gs.size := (Array.getElem?_eq_some_iff.1 ha).1
  obtain ⟨hK, hC⟩ := S.ownW G
  refine ⟨S.ownG hSp hlt (by simp) (fun x hx => ?_) G, Array.getElem?_setIfInBounds_self_of_lt (by simpa using hlt)⟩
  have hxh : x ≠ h := fun e => hx (e ▸ hSp)
  rw [Array.getElem?_setIfInBounds_ne (fun e => hxh e.symm), Array.getElem?_map]
  cases e : gs[x]? with
  | none => rfl
  | some y => simp [woken_of_again (x := a) (x' := a') (S.fixedG hK hC hx e)]
/-- ████ FROM HERE THE RUN ENDS WELL ████ -/
def At (P : Program) (ty : TypeId) (Post : Value → World → Prop) (b : Bd) (h : Nat) (a : Goroutine) (w : World) : Prop :=
  ∀ gs w₁ sl T q, Stands P ty b h (· = h) T gs w₁ q → Off b.shun w w₁ → gs[h]? = some a → Ends P Post (crowd gs w₁ sl) T
variable {Post : Value → World → Prop}
theorem At.off {a : Goroutine} (hA : At P ty Post b h a w) (o : Off b.shun w w') : At P ty Post b h a w' := fun gs w₁ sl T q S o₁ ha => hA gs w₁ sl T q S (o.trans o₁) ha
theorem Stands.allAwake (S : Stands P ty b h (· = h) T gs w q) {a : Goroutine} (ha : gs[h]? = some a) (hr : a.status = .running ∨ a.status = .blocked) : ∀ g ∈ gs, Go.Conc.awake g := by
  intro g hg
  obtain ⟨i, hi, rfl⟩ := Array.mem_iff_getElem.1 hg
  by_cases e : i = h
  · subst e
    have : gs[i] = a := by simpa [Array.getElem?_eq_getElem hi] using ha
    rw [this]; exact awake_of (hr.elim .inl fun x => .inr (.inl x))
  · exact S.awake (x := i) e (Array.getElem?_eq_getElem hi)
/-- the holder, running, is picked in the end -/
theorem pick_holder {a : Goroutine} (hrun : a.status = .running)
    (fin : ∀ gs wp d sl sl' T q, Stands P ty b h (· = h) T gs (wp.at d) q → Off b.shun w (wp.at d) → gs[h]? = some a → stepT P (crowd gs wp sl) = runT P (crowd gs (wp.at d) sl') h → Ends P Post (crowd gs wp sl) T) : At P ty Post b h a w := by
  intro gs w₁ sl T q S o ha
  induction q using (lss_wf b.n).induction generalizing gs w₁ sl T with
  | _ q ih =>
    obtain ⟨i, g, d, sl', hi, hg, hst⟩ := crowd_pick (P := P) (w := w₁) (sl := sl) (S.allAwake ha (.inl hrun)) ⟨h, a, ha, hrun⟩
    have S' := S.at d
    have o' : Off b.shun w (w₁.at d) := o.trans (Off.at _ _ d)
    by_cases e : i = h
    · subst e
      exact fin gs w₁ d sl sl' T q S' o' ha hst
    · obtain ⟨gs', ops, w', s', m', B⟩ := S'.by_step (sl := sl') hi e e hg (fun s _ x gx c hx hgx _ g₂ _ => by
        subst hx
        rw [ha] at hgx
        obtain rfl := Option.some.inj hgx
        exact offersAt_of_not_blocked (by rw [hrun]; simp) _ _)
      refine Ends.next (by rw [hst]; exact B.run) ?_
      have hlt : i < b.n := by have := (Array.getElem?_eq_some_iff.1 hi).1; rw [S.n] at this; exact this
      refine ih (upd q i (s', m')) (lss_upd hlt B.less) gs' w' sl' (T ++ ops) B.stands (o'.trans B.off) ?_
      rcases B.special h a (fun z => e z.symm) rfl ha with z | z
      · exact z
      · rw [again_of_running (.inl hrun)] at z; exact z
/-- ████ AN OWN STEP ████ -/
theorem At.own {a : Goroutine} (hrun : a.status = .running) (hs : ∀ w₁, Off b.shun w w₁ → ∃ a' w' es, stepG P (h == 0) a w₁ = .go a' w' es ∧ GOwn b w₁ w' es ∧ At P ty Post b h a' w') : At P ty Post b h a w :=
  pick_holder hrun fun gs wp d sl sl' T q S o ha hst => by
    obtain ⟨a', w', es, hgo, hG, hA⟩ := hs _ o
    obtain ⟨S', ha'⟩ := S.own rfl (a' := a') ha hG
    exact Ends.next (by rw [hst]; exact runT_crowd_go (sl := sl') ha hgo) (hA _ _ sl' _ q S' (Off.refl _ _) ha')
/-- a counted stretch of own steps -/
theorem At.goes {n : Nat} {a : Goroutine} (hg : Goes P (h == 0) (Off b.shun) (GOwn b) (fun a w => At P ty Post b h a w) n a w) : At P ty Post b h a w := by
  induction n generalizing a w with
  | zero => exact hg w (Off.refl _ w)
  | succ n ih =>
    rcases hg with hstop | ⟨hrun, hstep⟩
    · exact hstop w (Off.refl _ w)
    · refine At.own hrun fun w₁ o => ?_
      have hs := hstep w₁ o
      cases hgo : stepG P (h == 0) a w₁ with
      | go a' w' es =>
        rw [hgo, goes_go] at hs
        exact ⟨a', w', es, rfl, hs.1, ih hs.2⟩
      | _ => rw [hgo] at hs; exact hs.elim
/-- ████ WHAT RUNS WELL ALONE ████ -/
theorem At.will {bb : Bool} {Stop : Cl → Bool → World → Prop} {tl : List Item} {base : List Frame} (htl : bb = true → tl = []) {x : Cfg} (hw : Will bb P b.shun b.F Stop x)
    (fin : ∀ c r v, Stop c r v → ∀ w, Sim b.shun b.F v w → At P ty Post b h (conf c r [] tl base) w) : ∀ w, Sim b.shun b.F x.v w → At P ty Post b h (conf x.c x.r x.mid tl base) w := by
  refine hw (fun x => ∀ w, Sim b.shun b.F x.v w → At P ty Post b h (conf x.c x.r x.mid tl base) w) (fun c r v hst w hs => fin c r v hst w hs) fun x hx w hs => ?_
  refine At.own rfl fun w₁ o => ?_
  obtain ⟨y, w', es, hW, hy⟩ := hx w₁ (o.sim hs)
  exact ⟨_, w', es, hW.step _ _ _ htl, hW.lone.own, hy w' hW.sim⟩
end
end Go.Proofs.Ytaiinkeendejdaa
namespace Go.Proofs.Ytaiinkeendejdaa
open Go.Conc
open Go.ConcN (sumTo upd sumTo_upd upd_ne upd_same WgLive)
open Go.ConcR (KK wgBlock WgAt stA smA rd wr mk DC0)
/-- what goroutine i may become that is at record g in world w -/
structure NewRole (P : Program) (ty : TypeId) (b : Bd) (i : Nat) (w : World) (ρ : Role) (sm : Nat × Nat) (g : Goroutine) : Prop where
  fit : Fit P ty i 0 sm g ρ
  keep : ∀ p ∈ ρ.kn, w.cell? p.1 = some p.2 ∧ iceF b.F p.1 = true ∧ p.1.block < ρ.bd
  bd : ρ.bd ≤ w.heap.size
  wf : ∀ s, ρ.at sm.1 = some s → s.Wf
  chans : ∀ s, ρ.at sm.1 = some s → ∀ c, s.has c → ∃ k, w.heap[c]? = some (.chan 0 #[] (b.rung c) k k false)
  nsh : ∀ s, ρ.at sm.1 = some s → ∀ c, s.has c → b.shun c = false
  dumb : ∀ s kn B, ρ = .seat s kn B → ∀ c, s.has c → b.rung c = false
  leave : ∀ Wg s kn B c kk z, ρ = .leave Wg s kn B c kk z → sm.1 = 7 ∧ b.shun Wg = true ∧ ∃ lo hi p, b.wg Wg = some (lo, hi, p) ∧ lo ≤ i ∧ i < hi
  some : ρ ≠ .mute
theorem RelBy.appNot {a : Addr} {t u : Trace} {k r : Nat} (h : Go.ConcN.RelBy a t k r) (hu : ∀ op ∈ u, op.g ≠ k) : Go.ConcN.RelBy a (t ++ u) k r := by
  refine h.app (fun i hi hgi => ?_)
  obtain ⟨op, ho, hog⟩ := Option.map_eq_some_iff.1 hgi
  rcases getElem?_append_cases ho with ⟨hlt, _⟩ | ⟨_, hou⟩
  · omega
  · exact absurd hog (hu op hou)
theorem Deaf_not {t u : Trace} {g : Nat} (hu : ∀ op ∈ u, op.g ≠ g) : Deaf (t ++ u) g = Deaf t g := by
  obtain ⟨l⟩ := u
  rw [Deaf_append]
  induction l generalizing t with
  | nil => rfl
  | cons y l ih =>
    have hy : y.g ≠ g := hu y (by simp)
    have e1 : deafStep g (Deaf t g) y = Deaf t g := by
      unfold deafStep
      split <;> simp [hy]
    rw [List.foldl_cons, e1]
    exact ih (fun op hop => hu op (by simp at hop ⊢; exact .inr hop))
section
variable {w w' : World} {c : Nat}
theorem cell_setChan {o : Obj} (hc : w.heap[c]? = some o) (ho : isCells o = false) (cap : Nat) (buf : Array Value) (cl : Bool) (s r : Nat) (tm : Bool) (a : Addr) : (w.setChan c cap buf cl s r tm).cell? a = w.cell? a := by
  unfold World.cell?
  by_cases e : c = a.block
  · subst e
    rw [heap_setChan_self w hc, hc]
    cases o <;> first | rfl | cases ho
  · rw [heap_setChan_ne w _ _ _ _ _ _ e]
theorem size_setChan (w : World) (c cap : Nat) (buf : Array Value) (cl : Bool) (s r : Nat) (tm : Bool) : (w.setChan c cap buf cl s r tm).heap.size = w.heap.size := by simp [World.setChan]
theorem Off.setChan {Z : Nat → Bool} (o : Off Z w w') (c cap : Nat) (buf : Array Value) (cl : Bool) (s r : Nat) (tm : Bool) : Off Z (w.setChan c cap buf cl s r tm) (w'.setChan c cap buf cl s r tm) := by
  refine ⟨fun x hx => ?_, by rw [size_setChan, size_setChan, o.size], o.tape, o.os, o.output, fun x hx => ?_⟩
  · simp only [World.setChan, Array.getElem?_setIfInBounds, o.size, o.heap x hx]
  · simp only [World.setChan, Array.getElem?_setIfInBounds, o.size]
    split
    · rfl
    · exact o.kind x hx
theorem even_setChan {Z : Nat → Bool} (he : Even Z w) (c cap : Nat) (buf : Array Value) (cl : Bool) (s r : Nat) (tm : Bool) : Even Z (w.setChan c cap buf cl s r tm) := fun x o hx e => by
  simp only [World.setChan, Array.getElem?_setIfInBounds] at e
  split at e
  · split at e
    · injection e with e; subst e; exact ⟨rfl, trivial⟩
    · cases e
  · exact he x o hx e
end
section
variable {P : Program} {ty : TypeId} {b : Bd} {h : Nat} {Sp : Nat → Prop} {T : Trace} {gs : Array Goroutine} {w w' : World} {q : Nat → Nat × Nat}
/-- the band behind it -/
def Bd.pass (b : Bd) (h : Nat) (ρ : Role) (j : Nat) : Bd := { b with role := upd (upd b.role h ρ) j .mute }
theorem Bd.pass_h (b : Bd) {h j : Nat} (ρ : Role) (hjh : j ≠ h) : (b.pass h ρ j).role h = ρ := by simp [Bd.pass, upd, hjh.symm]
theorem Bd.pass_j (b : Bd) {h j : Nat} (ρ : Role) : (b.pass h ρ j).role j = .mute := by simp [Bd.pass, upd]
theorem Bd.pass_x (b : Bd) {h j x : Nat} (ρ : Role) (h1 : x ≠ h) (h2 : x ≠ j) : (b.pass h ρ j).role x = b.role x := by simp [Bd.pass, upd, h1, h2]
theorem NewRole.stage {ρ : Role} {sm : Nat × Nat} {i : Nat} {g : Goroutine} (N : NewRole P ty b i w ρ sm g) : 5 ≤ sm.1 := by
  cases hρ : ρ with
  | mute => exact absurd hρ N.some
  | seat s kn B => have := N.fit; rw [hρ] at this; rw [this.1]; omega
  | leave Wg s kn B c kk z => rw [(N.leave Wg s kn B c kk z hρ).1]; omega
/-- the trace behind the meeting -/
theorem meet_past {ops₀ : Trace} {j c k : Nat} {s : Seat} {kn : List (Addr × Value)} {B : Nat} (S : Stands P ty b h (· = h) T gs w q) (hjh : j ≠ h) (hj : b.role j = .seat s kn B) (hear : b.ear = true) (hcB : c < w.heap.size)
    (hpast : PastB (Stil b) (Shu b) (Memb b h q) (Loos b) w.heap.size (Knows (T ++ ops₀) h) (T ++ ops₀)) {ρ : Role} {sm : Nat × Nat} {H' : Goroutine} (N : NewRole P ty b h w ρ sm H') (fh : FuncId) (ph : String) (fj : FuncId) (pj : String) :
    PastB (Stil (b.pass h ρ j)) (Shu (b.pass h ρ j)) (Memb (b.pass h ρ j) j (upd (upd q h sm) j (9, 0))) (Loos (b.pass h ρ j)) w.heap.size (Knows (T ++ ops₀ ++ met h j fh ph fj pj c k 0) j) (T ++ ops₀ ++ met h j fh ph fj pj c k 0) := by
  have hMh : Memb b h q h := .inl ⟨rfl, hear⟩
  have hMj : Memb b h q j := .inr (by rw [hj]; rfl)
  have p2 := HoldB.give (h := h) (j := j) hpast hMh hMj fh ph fj pj k 0 hcB
  have hsame : ∀ x, x ≠ h → x ≠ j → ∀ l, Stil (b.pass h ρ j) x l ↔ Stil b x l := fun x h1 h2 l => by unfold Stil; rw [b.pass_x ρ h1 h2]
  have hmem : ∀ g, Memb (b.pass h ρ j) j (upd (upd q h sm) j (9, 0)) g → Memb b h q g := by
    rintro g (⟨rfl, _⟩ | hg)
    · exact hMj
    · by_cases e1 : g = j
      · subst e1; exact hMj
      · by_cases e2 : g = h
        · subst e2; exact hMh
        · rw [b.pass_x ρ e2 e1, upd_ne _ _ e1, upd_ne _ _ e2] at hg
          exact .inr hg
  refine ⟨p2.clean, fun i x hx hm => ?_, p2.plain, fun i x hx hw g hg hS => ?_, fun g hg => p2.hears g (hmem g hg), p2.seen⟩
  · rcases p2.known i x hx hm with hk | ⟨g, hgi, ⟨hL, hgj⟩, hS⟩ | hs
    · exact .inl hk
    · have hgh : g ≠ h := fun e => hL (by rw [e]; exact S.hr)
      refine .inr (.inl ⟨g, hgi, by unfold Loos; rw [b.pass_x ρ hgh hgj]; exact hL, ?_⟩)
      rcases hS with ⟨h1, h2, h3⟩ | hS
      · exact .inl ⟨h1, h2, (hsame g hgh hgj _).2 h3⟩
      · exact .inr hS
    · exact .inr (.inr hs)
  · by_cases e1 : g = j
    · subst e1
      obtain ⟨p, hp, _⟩ := hS
      rw [b.pass_j] at hp
      cases hp
    by_cases e2 : g = h
    · subst e2
      obtain ⟨p, hp, hloc⟩ := hS
      rw [b.pass_h ρ hjh] at hp
      obtain ⟨_, hice, _⟩ := N.keep p hp
      obtain ⟨y, hy, hya⟩ := touch_of hx
      rcases getElem?_append_cases hy with ⟨hi, hy'⟩ | ⟨_, hyu⟩
      · rcases hpast.known i x (by rw [touchAt_of hy']; exact hya) (by rw [hloc]; rfl) with hk | ⟨_, _, _, ⟨h1, _⟩ | ⟨⟨a, ha, hsh⟩, _⟩⟩ | ⟨⟨a, ha, hsh⟩, _⟩
        · exact hk.app _
        · rw [h1] at hw; cases hw
        all_goals
          rw [hloc] at ha
          injection ha with ha
          subst ha
          rw [(S.warm _ (ice_pos hice)).1] at hsh
          cases hsh
      · rw [met_mute _ _ _ _ _ _ _ _ _ y hyu] at hya; cases hya
    · exact p2.wrote i x hx hw g (hmem g hg) ((hsame g e2 e1 _).1 hS)
/-- ████ THE FRAME BEHIND A MEETING ████ -/
theorem Stands.meet {ops₀ : Trace} {j c k kk : Nat} {z : Value} {s : Seat} {kn : List (Addr × Value)} {B : Nat} (S : Stands P ty b h (· = h) T gs w q) (hjh : j ≠ h) (hj : b.role j = .seat s kn B) (hear : b.ear = true) (hk : s.cases[kk]? = some (rcase c z)) (hc : w.heap[c]? = some (.chan 0 #[] false k k false))
    (hg : ∀ op ∈ ops₀, op.g = h ∨ op.g = j) (hdeaf : ∀ x, Deaf (T ++ ops₀) x = Deaf T x) (hnr : NoRel ops₀)
    (hpast : PastB (Stil b) (Shu b) (Memb b h q) (Loos b) w.heap.size (Knows (T ++ ops₀) h) (T ++ ops₀)) {ρ : Role} {sm : Nat × Nat} {H' : Goroutine} (N : NewRole P ty b h w ρ sm H') (fh : FuncId) (ph : String) (fj : FuncId) (pj : String)
    {gs' : Array Goroutine} (hsz : gs'.size = gs.size) (hoth : ∀ x, x ≠ h → x ≠ j → gs'[x]? = gs[x]?) (hH : gs'[h]? = some H') :
    Stands P ty (b.pass h ρ j) j (· = j) (T ++ (ops₀ ++ met h j fh ph fj pj c k 0)) gs' (w.setChan c 0 #[] false (k + 1) (k + 1) false) (upd (upd q h sm) j (9, 0)) := by
  have hcB : c < w.heap.size := (Array.getElem?_eq_some_iff.1 hc).1
  have hcell := cell_setChan hc rfl 0 #[] false (k + 1) (k + 1) false
  have hD : ∀ x, Deaf (T ++ (ops₀ ++ met h j fh ph fj pj c k 0)) x = Deaf T x := fun x => by rw [← Array.append_assoc, Deaf_quiet (met_quiet _ _ _ _ _ _ _ _ _ x), hdeaf]
  have hMh : Memb b h q h := .inl ⟨rfl, hear⟩
  have hrung : b.rung c = false := S.dumb j s kn B hj c ⟨kk, z, hk⟩
  have h9 : ∀ x, x ≠ h → x ≠ j → upd (upd q h sm) j (9, 0) x = q x := fun x h1 h2 => by rw [upd_ne _ _ h2, upd_ne _ _ h1]
  have hqj : 5 ≤ (q j).1 := by
    by_cases hlt : j < gs.size
    · have := S.fit j _ hjh (Array.getElem?_eq_getElem hlt)
      rw [hj] at this
      rw [this.1]; omega
    · have := (S.above j (by rw [← S.n]; omega)).2
      rw [hj] at this; cases this
  have hheap : ∀ x, x ≠ c → (w.setChan c 0 #[] false (k + 1) (k + 1) false).heap[x]? = w.heap[x]? := fun x hx => heap_setChan_ne w _ _ _ _ _ _ (fun e => hx e.symm)
  have hnc : ∀ {x : Nat} {cs : Array Value} {t : TypeId} {f : Nat × Nat}, w.heap[x]? = some (.cells cs t f) → x ≠ c := fun hx e => by rw [e, hc] at hx; cases hx
  have wg : ∀ Wg st sm, WgAt ty Wg w st sm → WgAt ty Wg (w.setChan c 0 #[] false (k + 1) (k + 1) false) st sm := fun Wg st sm hx => by unfold WgAt at hx ⊢; rw [hheap Wg (hnc hx)]; exact hx
  have hch : ∀ c' : Nat, (∃ k', w.heap[c']? = some (.chan 0 #[] (b.rung c') k' k' false)) → ∃ k', (w.setChan c 0 #[] false (k + 1) (k + 1) false).heap[c']? = some (.chan 0 #[] (b.rung c') k' k' false) := fun c' ⟨k', hk'⟩ => by
    by_cases e : c' = c
    · subst e; exact ⟨k + 1, by rw [heap_setChan_self w hc, hrung]⟩
    · exact ⟨k', by rw [hheap c' e]; exact hk'⟩
  have hat : ∀ x s', ((b.pass h ρ j).role x).at (upd (upd q h sm) j (9, 0) x).1 = some s' → (x = h ∧ ρ.at sm.1 = some s') ∨ (x ≠ h ∧ x ≠ j ∧ (b.role x).at (q x).1 = some s') := by
    intro x s' e
    by_cases e1 : x = j
    · subst e1; rw [b.pass_j] at e; cases e
    · by_cases e2 : x = h
      · subst e2
        rw [b.pass_h ρ hjh, upd_ne _ _ e1, upd_same] at e
        exact .inl ⟨rfl, e⟩
      · rw [b.pass_x ρ e2 e1, h9 x e2 e1] at e
        exact .inr ⟨e2, e1, e⟩
  refine ⟨hsz.trans S.n, b.pass_j ρ, by rw [upd_same], fun e => (by rw [show (b.pass h ρ j).ear = b.ear from rfl, hear] at e; cases e), fun x y hx hy => ?_, fun x p hp => ?_, fun x => ?_, fun x hx => ?_, ⟨fun x hx => by rw [size_setChan]; exact S.shunC.1 x hx, fun x s' e c' hc' => ?_⟩, fun x s' e => ?_, fun x s' e c' hc' => ?_, fun x s' kn' B' e => ?_, fun x Wg s' kn' B' c' kk' z' e h8 => ?_, fun x hx => ?_, fun Wg lo hi p hw => ?_, S.apart, fun x Wg s' kn' B' c' kk' z' e => ?_, (by rw [size_setChan]; exact even_setChan S.even _ _ _ _ _ _ _), ?_, ?_, fun x Wg s' kn' B' c' kk' z' e h6 => ?_, ⟨by rw [size_setChan]; exact S.old.le, S.old.sys, fun x h1 h2 => (hheap x (fun e => by have h3 : b.shun x = true := h2; rw [e, S.shunC.2 j s (by rw [hj]; rfl) c ⟨kk, z, hk⟩] at h3; cases h3)).trans (S.old.same x h1 h2), S.old.wg, fun x Wg s' kn' B' c' kk' z' e => ?_⟩⟩
  · by_cases e : x = h
    · subst e
      rw [hH] at hy
      obtain rfl := Option.some.inj hy
      rw [b.pass_h ρ hjh, hD, upd_ne _ _ hx, upd_same, S.past.hears x hMh]
      exact N.fit
    · rw [hoth x e hx] at hy
      rw [b.pass_x ρ e hx, hD, h9 x e hx]
      exact S.fit x y e hy
  · by_cases e1 : x = j
    · subst e1; rw [b.pass_j] at hp; cases hp
    · by_cases e2 : x = h
      · subst e2
        rw [b.pass_h ρ hjh] at hp ⊢
        rw [hcell]; exact N.keep p hp
      · rw [b.pass_x ρ e2 e1] at hp ⊢
        rw [hcell]; exact S.keep x p hp
  · rw [size_setChan]
    by_cases e1 : x = j
    · subst e1; rw [b.pass_j]; exact Nat.zero_le _
    · by_cases e2 : x = h
      · subst e2; rw [b.pass_h ρ hjh]; exact N.bd
      · rw [b.pass_x ρ e2 e1]; exact S.bd x
  · obtain ⟨h1, cs, t, h2⟩ := S.warm x hx
    exact ⟨h1, cs, t, by rw [hheap x (hnc h2)]; exact h2⟩
  · rcases hat x s' e with ⟨_, e⟩ | ⟨_, _, e⟩
    · exact N.nsh s' e c' hc'
    · exact S.shunC.2 x s' e c' hc'
  · rcases hat x s' e with ⟨_, e⟩ | ⟨_, _, e⟩
    · exact N.wf s' e
    · exact S.wf x s' e
  · rcases hat x s' e with ⟨_, e⟩ | ⟨_, _, e⟩
    · exact hch c' (N.chans s' e c' hc')
    · exact hch c' (S.chans x s' e c' hc')
  · by_cases e1 : x = j
    · subst e1; rw [b.pass_j] at e; cases e
    · by_cases e2 : x = h
      · subst e2; rw [b.pass_h ρ hjh] at e; exact N.dumb s' kn' B' e
      · rw [b.pass_x ρ e2 e1] at e; exact S.dumb x s' kn' B' e
  · by_cases e1 : x = j
    · subst e1; rw [b.pass_j] at e; cases e
    · by_cases e2 : x = h
      · subst e2
        rw [b.pass_h ρ hjh] at e
        rw [upd_ne _ _ e1, upd_same, (N.leave Wg s' kn' B' c' kk' z' e).1] at h8
        cases h8
      · rw [b.pass_x ρ e2 e1] at e
        rw [h9 x e2 e1] at h8
        exact S.bell x Wg s' kn' B' c' kk' z' e h8
  · rw [hD]
    obtain ⟨h1, h2⟩ := S.above x hx
    refine ⟨h1, ?_⟩
    have hn : b.n ≤ x := hx
    by_cases e1 : x = j
    · subst e1; exact b.pass_j ρ
    · by_cases e2 : x = h
      · subst e2
        have := (Array.getElem?_eq_some_iff.1 hH).1
        have := S.n
        omega
      · rw [b.pass_x ρ e2 e1]; exact h2
  · obtain ⟨h1, h2, h3⟩ := S.groups Wg lo hi p hw
    obtain ⟨_, _, _, hbl⟩ := h1.block
    exact ⟨h1.congr (fun x _ _ => by
      by_cases e1 : x = j
      · subst e1; rw [upd_same]; exact .inr ⟨hqj, by simp⟩
      · rw [upd_ne _ _ e1]
        by_cases e2 : x = h
        · subst e2; rw [upd_same]; exact .inr ⟨by rw [S.hq]; omega, N.stage⟩
        · rw [upd_ne _ _ e2]; exact .inl rfl) (hheap Wg (hnc hbl)), h2, h3⟩
  · by_cases e1 : x = j
    · subst e1; rw [b.pass_j] at e; cases e
    · by_cases e2 : x = h
      · subst e2
        rw [b.pass_h ρ hjh] at e
        obtain ⟨_, h2, lo, hi, p, h3, h4⟩ := N.leave Wg s' kn' B' c' kk' z' e
        obtain ⟨st, sm', hl⟩ := (S.groups Wg lo hi p h3).1.live
        exact ⟨h2, ⟨st, sm', wg Wg _ _ hl⟩, fun _ => ⟨lo, hi, p, h3, h4⟩⟩
      · rw [b.pass_x ρ e2 e1] at e
        obtain ⟨h1, ⟨st, sm', h2⟩, h3⟩ := S.member x Wg s' kn' B' c' kk' z' e
        exact ⟨h1, ⟨st, sm', wg Wg _ _ h2⟩, fun _ => h3 e2⟩
  · rw [size_setChan, ← Array.append_assoc]
    exact meet_past S hjh hj hear hcB hpast N fh ph fj pj
  · refine S.norel.app (hnr.app fun op hop a => ?_)
    simp only [met, List.mem_toArray, List.mem_cons, List.not_mem_nil, or_false] at hop
    rcases hop with rfl | rfl | rfl | rfl <;> simp
  · by_cases e1 : x = j
    · subst e1; rw [b.pass_j] at e; cases e
    · by_cases e2 : x = h
      · subst e2
        rw [b.pass_h ρ hjh] at e
        rw [upd_ne _ _ e1, upd_same, (N.leave Wg s' kn' B' c' kk' z' e).1] at h6
        omega
      · rw [b.pass_x ρ e2 e1] at e
        rw [h9 x e2 e1] at h6
        obtain ⟨r, hr⟩ := S.rel x Wg s' kn' B' c' kk' z' e h6
        refine ⟨r, RelBy.appNot hr fun op hop => ?_⟩
        rcases Array.mem_append.1 hop with hop | hop
        · rcases hg op hop with z | z <;> rw [z]
          · exact fun z => e2 z.symm
          · exact fun z => e1 z.symm
        · simp only [met, List.mem_toArray, List.mem_cons, List.not_mem_nil, or_false] at hop
          rcases hop with rfl | rfl | rfl | rfl
          · exact fun z => e2 z.symm
          · exact fun z => e1 z.symm
          · exact fun z => e2 z.symm
          · exact fun z => e1 z.symm
  · by_cases e1 : x = j
    · subst e1; rw [b.pass_j] at e; cases e
    · by_cases e2 : x = h
      · subst e2; rw [b.pass_h ρ hjh] at e
        obtain ⟨_, _, lo, hi, p, h1, _⟩ := N.leave Wg s' kn' B' c' kk' z' e
        exact S.old.wg Wg (by rw [h1]; simp)
      · rw [b.pass_x ρ e2 e1] at e; exact S.old.role x Wg s' kn' B' c' kk' z' e
end
end Go.Proofs.Ytaiinkeendejdaa
namespace Go.Proofs.Ytaiinkeendejdaa
open Go.Conc
open Go.ConcN (sumTo upd sumTo_upd upd_ne upd_same WgLive)
section
variable {P : Program} {ty : TypeId} {Post : Value → World → Prop} {b : Bd} {h : Nat} {T : Trace} {gs : Array Goroutine} {w w' : World} {q : Nat → Nat × Nat}
theorem gOwn_still (S : Stands P ty b h (· = h) T gs w q) {es : Array Event} (hes : ∀ e ∈ es, EvO b w.heap.size e) : GOwn b w w es := ⟨hes, fun _ _ => rfl, fun x hx => (S.warm x hx).2, fun _ _ h _ => h, fun _ _ => rfl, Nat.le_refl _, S.even, rfl, rfl⟩
/-- the holder's new role, a little later -/
theorem NewRole.off {i : Nat} {ρ : Role} {sm : Nat × Nat} {H' : Goroutine} (N : NewRole P ty b i w ρ sm H') (S : Stands P ty b h (· = h) T gs w' q) (o : Off b.shun w w') : NewRole P ty b i w' ρ sm H' :=
  ⟨N.fit, fun p hp => by
    obtain ⟨h1, h2, h3⟩ := N.keep p hp
    exact ⟨by rw [o.cell (S.warm _ (ice_pos h2)).1]; exact h1, h2, h3⟩, by rw [o.size]; exact N.bd, N.wf, fun s e c hc => by
    obtain ⟨k, hk⟩ := N.chans s e c hc
    exact ⟨k, by rw [o.heap c (N.nsh s e c hc)]; exact hk⟩, N.nsh, N.dumb, N.leave, N.some⟩
section
variable {a a₂ : Goroutine} {j c kk : Nat} {s : Seat} {kn : List (Addr × Value)} {B : Nat} {v z z' : Value} {es : Array Event} {ρ : Role} {sm : Nat × Nat}
/-- the holder is parked at its send: j comes to it -/
theorem give_parked (hjh : j ≠ h) (hj : b.role j = .seat s kn B) (hk : s.cases[kk]? = some (rcase c z)) (huniq : ∀ i st s', i ≠ j → (b.role i).at st = some s' → ¬ s'.has c) (hear : b.ear = true) {k : Nat} (hc : w.heap[c]? = some (.chan 0 #[] false k k false))
    (N : NewRole P ty b h w ρ sm (Go.Conc.served a₂ undef))
    (fin : ∀ g₂, s.home g₂ → At P ty Post (b.pass h ρ j) j (Go.Conc.served g₂ (commResult s.cases s.shape kk v true)) (w.setChan c 0 #[] false (k + 1) (k + 1) false)) :
    ∀ (q : Nat → Nat × Nat) (gs : Array Goroutine) (w₁ : World) (sl : Option (Nat × Nat)) (T : Trace), Stands P ty b h (· = h) T gs w₁ q → Off b.shun w w₁ → gs[h]? = some (parked a₂ #[scase c v z'] .send) → 0 < (q j).2 → Ends P Post (crowd gs w₁ sl) T := by
  intro q
  induction q using (lss_wf b.n).induction with
  | _ q ih =>
    intro gs w₁ sl T S o ha hjq
    have hjlt : j < gs.size := by
      by_cases hlt : j < gs.size
      · exact hlt
      · have := (S.above j (by rw [← S.n]; omega)).2
        rw [hj] at this; cases this
    obtain ⟨gj, hgj⟩ : ∃ gj, gs[j]? = some gj := ⟨gs[j], Array.getElem?_eq_getElem hjlt⟩
    have hfj := S.fit j gj hjh hgj
    have hKj := S.kn j
    rw [hj] at hfj hKj
    have hjr : gj.status = .running := (Sits.status (show Kn kn w₁ from hKj) hfj.2).elim (·.1) fun x => by omega
    obtain ⟨i, g, d, sl', hi, hg, hst⟩ := crowd_pick (P := P) (w := w₁) (sl := sl) (S.allAwake ha (.inr rfl)) ⟨j, gj, hgj, hjr⟩
    have S' := S.at d
    have o' : Off b.shun w (w₁.at d) := o.trans (Off.at _ _ d)
    have hatj : (b.role j).at (q j).1 = some s := by rw [hj]; rfl
    have hsc : s.has c := ⟨kk, z, hk⟩
    have hsh : b.shun c = false := by
      exact S'.shunC.2 j s hatj c hsc
    have hcd : (w₁.at d).heap[c]? = some (.chan 0 #[] false k k false) := by rw [o'.heap c hsh]; exact hc
    by_cases e : i = h
    · subst e
      rw [ha] at hi
      obtain rfl := Option.some.inj hi
      cases hg
    by_cases ej : i = j ∧ ∃ g₂, AtIn P (i == 0) (Kn kn) (Sn kn) B s g g₂
    · -- the meeting
      obtain ⟨rfl, g₂, hat⟩ := ej
      obtain ⟨_, _, _, _, hhome, esj, hesj, hstp⟩ := hat
      obtain ⟨hops, hr, hl, hd, hnr⟩ := evC_ops' (i := i) (fn := g.frame.fn) (pos := g.frame.place) hesj
      have hlth : h < gs.size := (Array.getElem?_eq_some_iff.1 ha).1
      have hp : partners (gs.setIfInBounds i ph) c true = [(h, 0)] := by
        rw [partners_one (stand_get (Ne.symm hjh) ha) fun x y hxh hy => by
          rcases getElem?_stand gs i x y hy with ⟨_, rfl⟩ | ⟨_, hy'⟩
          · exact offersAt_ph _ _
          · exact S'.noSend hxh hy' _]
        simp [offersAt_parked_send]
      have ho : ∀ (m : Nat) (c' : CommCase), m ≠ kk → s.cases[m]? = some c' → NoWays (w₁.at d) (gs.setIfInBounds i ph) c' := by
        intro m c' hm hc'
        obtain ⟨c₂, z₂, rfl⟩ := (S'.wf i s hatj).recvs c' (Array.mem_of_getElem? hc')
        have hne : c ≠ c₂ := fun ec => hm ((S'.wf i s hatj).apart m kk c z₂ z (by rw [ec]; exact hc') hk)
        obtain ⟨k₂, hc₂⟩ := S'.chans i s hatj c₂ ⟨m, z₂, hc'⟩
        rw [S'.dumb i s kn B hj c₂ ⟨m, z₂, hc'⟩] at hc₂
        refine ways_recv_none hc₂ (partners_nil fun x y hy => ?_)
        rcases getElem?_stand gs i x y hy with ⟨_, rfl⟩ | ⟨_, hy'⟩
        · exact offersAt_ph _ _
        · by_cases hxh : x = h
          · subst hxh
            rw [ha] at hy'
            obtain rfl := Option.some.inj hy'
            rw [offersAt_parked_send, if_neg hne]
          · exact S'.noSend hxh hy' _
      have hKd : Kn kn (w₁.at d) := by have := S'.kn i; rw [hj] at this; exact this
      refine Ends.next (by rw [hst]; exact crowd_sel_recv_meets (sl := sl') hi (hstp _ hKd) hk ho hcd (Ne.symm hjh) ha hp) ?_
      have hMj : Memb b h q i := .inr (by rw [hatj]; rfl)
      have hLj : Loos b i := fun e => by rw [hj] at e; cases e
      have hbd : B ≤ w₁.heap.size := by have := S.bd i; rw [hj] at this; exact this
      have hsn : Stil b i = Sn kn := by unfold Stil; rw [hj]; rfl
      have M := S'.meet (gs' := (gs.setIfInBounds h (a₂.finishComm P #[scase c v z'] .send 0 undef false)).setIfInBounds i (g₂.finishComm P s.cases s.shape kk v true)) (H' := Go.Conc.served a₂ undef) hjh hj hear hk hcd (ops₀ := MemOp.ofEvents i g.frame.fn g.frame.place esj) (fun op hop => .inr (hops op hop)) (fun x => by
          by_cases ex : x = i
          · subst ex; exact hd T
          · exact Deaf_other T (fun z => ex z.symm) _ hops) hnr
        (S'.past.appRead (fun _ => Knows.app _) hMj hLj (S'.stillShun i) hops (by rw [hsn]; exact hr) (hd T) (fun op hop => MemAct.low_mono hbd (hl op hop)))
        (N.off S' o') a₂.frame.fn a₂.frame.place g₂.frame.fn g₂.frame.place (by simp) (fun x hx hxj => by rw [Array.getElem?_setIfInBounds_ne (fun z => hxj z.symm), Array.getElem?_setIfInBounds_ne (fun z => hx z.symm)])
        (by rw [Array.getElem?_setIfInBounds_ne hjh, Array.getElem?_setIfInBounds_self_of_lt hlth, finishComm_send])
      exact fin g₂ hhome _ _ sl' _ _ M (o'.setChan c 0 #[] false (k + 1) (k + 1) false) (by rw [Array.getElem?_setIfInBounds_self_of_lt (by simpa using hjlt), finishComm_served])
    · -- a bystander's step
      obtain ⟨gs', ops, w', s', m', Y⟩ := S'.by_step (sl := sl') hi e e hg (fun s' hs' x gx c' hx hgx hc' g₂ hat => by
        subst hx
        rw [ha] at hgx
        obtain rfl := Option.some.inj hgx
        rw [offersAt_parked_send, if_neg]
        intro ec
        subst ec
        by_cases hij : i = j
        · subst hij
          rw [hj] at hs' hat
          simp only [Role.at, Option.some.injEq] at hs'
          subst hs'
          exact ej ⟨rfl, g₂, hat⟩
        · exact huniq i _ s' hij hs' hc')
      refine Ends.next (by rw [hst]; exact Y.run) ?_
      have hlt : i < b.n := by have := (Array.getElem?_eq_some_iff.1 hi).1; rw [S.n] at this; exact this
      refine ih (upd q i (s', m')) (lss_upd hlt Y.less) gs' w' sl' (T ++ ops) Y.stands (o'.trans Y.off) ?_ ?_
      · have hag : (parked a₂ #[scase c v z'] .send).again w' = parked a₂ #[scase c v z'] .send := again_send_open (by rw [Y.off.heap c hsh]; exact hcd)
        rcases Y.special h _ (fun z => e z.symm) rfl ha with z | z
        · exact z
        · rw [hag] at z; exact z
      · by_cases hij : j = i
        · subst hij
          rw [upd_same]
          rcases Nat.eq_zero_or_pos m' with h0 | h0
          · obtain ⟨g', g₂, hg', hat⟩ := Y.far s kn B hj h0
            rw [hi] at hg'
            obtain rfl := Option.some.inj hg'
            exact absurd ⟨rfl, g₂, hat⟩ ej
          · exact h0
        · rw [upd_ne q _ hij]; exact hjq
/-- ████ THE HOLDER STANDS AT A SEND ON ONE OF j's SEAT's CHANNELS; behind it it takes the role ρ: THE TOKEN COMES TO j ████ -/
theorem At.give (hjh : j ≠ h) (hj : b.role j = .seat s kn B) (hk : s.cases[kk]? = some (rcase c z)) (huniq : ∀ i st s', i ≠ j → (b.role i).at st = some s' → ¬ s'.has c) (hear : b.ear = true) (hrun : a.status = .running)
    (hsend : ∀ w₁, Off b.shun w w₁ → stepG P (h == 0) a w₁ = .comm a₂ #[scase c v z'] true .send w₁ es) (hes : ∀ e ∈ es, EvO b w.heap.size e) (N : NewRole P ty b h w ρ sm (Go.Conc.served a₂ undef))
    (fin : ∀ g₂ k, s.home g₂ → w.heap[c]? = some (.chan 0 #[] false k k false) → At P ty Post (b.pass h ρ j) j (Go.Conc.served g₂ (commResult s.cases s.shape kk v true)) (w.setChan c 0 #[] false (k + 1) (k + 1) false)) : At P ty Post b h a w :=
  pick_holder hrun fun gs wp d sl sl' T q S o ha hst => by
    have hlth : h < gs.size := (Array.getElem?_eq_some_iff.1 ha).1
    have hjlt : j < gs.size := by
      by_cases hlt : j < gs.size
      · exact hlt
      · have := (S.above j (by rw [← S.n]; omega)).2
        rw [hj] at this; cases this
    obtain ⟨gj, hgj⟩ : ∃ gj, gs[j]? = some gj := ⟨gs[j], Array.getElem?_eq_getElem hjlt⟩
    have hfj := S.fit j gj hjh hgj
    have hKj : Kn kn (wp.at d) := by have := S.kn j; rw [hj] at this; exact this
    rw [hj] at hfj
    have hatj : (b.role j).at (q j).1 = some s := by rw [hj]; rfl
    have hsc : s.has c := ⟨kk, z, hk⟩
    obtain ⟨k, hcd⟩ := S.chans j s hatj c hsc
    rw [S.dumb j s kn B hj c hsc] at hcd
    have hc : w.heap[c]? = some (.chan 0 #[] false k k false) := by rw [← o.heap c (S.shunC.2 j s hatj c hsc)]; exact hcd
    have hoff : ∀ (x : Nat) (y : Goroutine), x ≠ j → (gs.setIfInBounds h ph)[x]? = some y → offersAt y c false = [] := by
      intro x y hxj hy
      rcases getElem?_stand gs h x y hy with ⟨_, rfl⟩ | ⟨hx, hy'⟩
      · exact offersAt_ph _ _
      · exact S.noRecv hx hy' fun s' kn' B' hs' hc' => huniq x 0 s' hxj (by rw [hs']; rfl) hc'
    have hesn : ∀ e ∈ es, EvO b (wp.at d).heap.size e := by rw [o.size]; exact hes
    obtain ⟨hops, hs, hl, hdf, hnr⟩ := evO_ops (b := b) (i := h) (fn := a.frame.fn) (pos := a.frame.place) hesn
    rcases hfj.2 with ⟨k', w₀, hq, hG⟩ | ⟨hq0, g₀, g₂, rfl, hat⟩
    · -- j is on its way: the holder is parked
      have hjr : gj.status = .running := (Sits.status hKj (.inl ⟨k', w₀, hq, hG⟩)).elim (·.1) (fun z => by omega)
      have hp : partners (gs.setIfInBounds h ph) c false = [] := partners_nil fun x y hy => by
        by_cases hxj : x = j
        · subst hxj
          rw [stand_get hjh hgj] at hy
          obtain rfl := Option.some.inj hy
          exact offersAt_of_not_blocked (by rw [hjr]; simp) _ _
        · exact hoff x y hxj hy
      have hw : ∀ cc ∈ #[scase c v z'], NoWays (wp.at d) (gs.setIfInBounds h ph) cc := by
        intro cc hcc
        simp only [List.mem_toArray, List.mem_cons, List.not_mem_nil, or_false] at hcc
        subst hcc
        exact ways_send_none hcd (Nat.le_refl _) hp
      refine Ends.next (by rw [hst]; exact crowd_waits (sl := sl') ha (hsend _ o) hw) ?_
      exact give_parked hjh hj hk huniq hear hc N (fun g₂ hh => fin g₂ k hh hc) q _ (wp.at d) sl' _ (S.ownG rfl hlth (by simp) (fun x hx => Array.getElem?_setIfInBounds_ne (fun z => hx z.symm)) (gOwn_still S hesn)) o (Array.getElem?_setIfInBounds_self_of_lt hlth) (by omega)
    · -- j is parked: the meeting
      have hu : ∀ (m : Nat) (cc : CommCase), m ≠ kk → s.cases[m]? = some cc → cc.chan ≠ .chan (some c) := by
        intro m cc hm hcc ec
        obtain ⟨c₂, z₂, rfl⟩ := (S.wf j s hatj).recvs cc (Array.mem_of_getElem? hcc)
        simp only [rcase, Value.chan.injEq, Option.some.injEq] at ec
        subst ec
        exact hm ((S.wf j s hatj).apart m kk _ _ _ hcc hk)
      have hp : partners (gs.setIfInBounds h ph) c false = [(j, kk)] := by
        rw [partners_one (stand_get hjh hgj) fun x y hxj hy => hoff x y hxj hy, offersAt_parked_at hk hu]
        rfl
      refine Ends.next (by rw [hst]; exact crowd_send_meets_sel (sl := sl') ha (hsend _ o) hcd hjh hgj hk hp) ?_
      have M := S.meet (gs' := (gs.setIfInBounds j (g₂.finishComm P s.cases s.shape kk v true)).setIfInBounds h (a₂.finishComm P #[scase c v z'] .send 0 undef false)) (H' := Go.Conc.served a₂ undef) hjh hj hear hk hcd (ops₀ := MemOp.ofEvents h a.frame.fn a.frame.place es) (fun op hop => .inl (hops op hop)) (fun x => by
          by_cases ex : x = h
          · subst ex; exact hdf T
          · exact Deaf_other T (fun z => ex z.symm) _ hops) hnr (S.pastOwn (Nat.le_refl _) hesn) (N.off S o) a₂.frame.fn a₂.frame.place g₂.frame.fn g₂.frame.place (by simp) (fun x hx hxj => by rw [Array.getElem?_setIfInBounds_ne (fun z => hx z.symm), Array.getElem?_setIfInBounds_ne (fun z => hxj z.symm)])
        (by rw [Array.getElem?_setIfInBounds_self_of_lt (by simpa using hlth), finishComm_send])
      exact fin g₂ k hat.2.2.2.2.1 hc _ _ sl' _ _ M (o.setChan c 0 #[] false (k + 1) (k + 1) false) (by rw [Array.getElem?_setIfInBounds_ne (fun z => hjh z.symm), Array.getElem?_setIfInBounds_self_of_lt hjlt, finishComm_served])
end
end
end Go.Proofs.Ytaiinkeendejdaa
