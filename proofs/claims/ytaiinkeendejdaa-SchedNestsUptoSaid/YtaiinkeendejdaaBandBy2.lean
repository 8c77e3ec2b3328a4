/-
  A BAND OF GOROUTINES OF WHICH ONE HOLDS: A BYSTANDER's STEP, whatever its role. No condition.
  And: A BAND OF GOROUTINES OF WHICH ONE HOLDS: A BYSTANDER's STEP: a leaver slips; a seated one goes a step of its way, or sits down; one whose bell has rung comes to it; one says Done. No condition.
  And: A BAND OF GOROUTINES OF WHICH ONE HOLDS: what a bystander's step leaves; the trace behind it. No condition.
-/
import Derived.Test.YtaiinkeendejdaaBandDef
namespace Go.Proofs.Ytaiinkeendejdaa
open Go.Conc
open Go.ConcN (sumTo upd sumTo_upd upd_ne upd_same WgLive)
open Go.ConcR (KK wgBlock WgAt stA smA rd wr mk DC0)
section
variable {Still : Nat → Loc → Prop} {Shun : Loc → Prop} {Mem Loose : Nat → Prop} {B h : Nat} {K K' : Nat → Prop} {t : Trace}
/-- what a leaver lists does not count -/
theorem lev_quiet {Wg i : Nat} {fn : FuncId} {pos : String} {es : Array Event} (hb : ∀ e ∈ es, Go.ConcR.Bk Wg e) (h : ∀ j e, es[j]? = some e → (MemAct.ofEvent e).touch? = none ∨ 0 < deafBehind (Deaf t i) (es.extract 0 j)) :
    ∀ x, t.size ≤ x → ¬ (t ++ MemOp.ofEvents i fn pos es).counts x := by
  intro x hi hc
  obtain ⟨y, hx, _, hk⟩ := hc
  obtain ⟨act, hact, hxt⟩ := Option.bind_eq_some_iff.1 hx
  obtain ⟨op, ho, rfl⟩ := Option.map_eq_some_iff.1 hact
  have hj : (MemOp.ofEvents i fn pos es)[x - t.size]? = some op := by
    rw [Array.getElem?_append] at ho
    simpa [Nat.not_lt.2 hi] using ho
  rw [ofEvents_eq, Array.getElem?_map] at hj
  obtain ⟨e, he, rfl⟩ := Option.map_eq_some_iff.1 hj
  have hjs : x - t.size ≤ es.size := by
    rcases Nat.lt_or_ge (x - t.size) es.size with h' | h'
    · omega
    · rw [Array.getElem?_eq_none h'] at he; cases he
  rcases h _ e he with h0 | hd
  · simp only at hxt; rw [h0] at hxt; cases hxt
  · have hxk : y.kind = .atomic := by
      rcases hb e (Array.mem_of_getElem? he) with h1 | h1 | ⟨a, wr, rfl, _⟩
      · simp only [Go.ConcR.ofEvent_loc_mark h1] at hxt; cases hxt
      · simp only [Go.ConcR.ofEvent_loc_mark h1] at hxt; cases hxt
      · cases wr <;> simp [MemAct.ofEvent, MemAct.touch?] at hxt <;> subst hxt <;> rfl
    rcases hk with hk | ⟨g, hg, hdf⟩
    · exact hk hxk
    · have hg1 : g = i := by simp [Trace.g?, ho] at hg; exact hg.symm
      subst hg1
      have := Go.Conc.deaf_inside t g fn pos es (x - t.size) hjs
      rw [show t.size + (x - t.size) = x by omega, hdf] at this
      omega
theorem past_leave {Wg i : Nat} {fn : FuncId} {pos : String} {es : Array Event} (H : PastB Still Shun Mem Loose B K t) (hK : ∀ i, K i → K' i) (hnm : ¬ Mem i) (hSh : ∀ a : Addr, a.block = Wg → Shun (.cell a)) (hSS : ∀ g l, Still g l → ¬ Shun l) (hB : Wg < B) (hev : LEv Wg (Deaf t i) es) :
    PastB Still Shun Mem Loose B K' (t ++ MemOp.ofEvents i fn pos es) := by
  have hops : ∀ op ∈ MemOp.ofEvents i fn pos es, op.g = i := fun op hop => by obtain ⟨e, _, rfl⟩ := Go.Conc.mem_ofEvents hop; rfl
  rcases hev with rfl | ⟨hb, hq⟩
  · refine PastB.appMute H hK hops (fun op hop => ?_) (fun hm => absurd hm hnm) (fun op hop => ?_)
    all_goals
      obtain ⟨e, he, rfl⟩ := Go.Conc.mem_ofEvents hop
      simp only [List.mem_toArray, List.mem_singleton] at he
      subst he
    · rfl
    · exact hB
  · refine PastB.appShun H hK hSS hops (fun op hop x hx => ?_) (lev_quiet hb hq) (fun hm => absurd hm hnm) (fun op hop => ?_)
    all_goals
      obtain ⟨e, he, rfl⟩ := Go.Conc.mem_ofEvents hop
    · rcases hb e he with h1 | h1 | ⟨a, wr, rfl, ha⟩
      · simp only [Go.ConcR.ofEvent_loc_mark h1] at hx; cases hx
      · simp only [Go.ConcR.ofEvent_loc_mark h1] at hx; cases hx
      · simp only [Go.ConcR.ofEvent_cell, MemAct.touch?, Option.some.injEq] at hx
        subst hx
        exact ⟨hSh a ha, rfl⟩
    · rcases hb e he with h1 | h1 | ⟨a, wr, rfl, ha⟩
      · simp only [Go.ConcR.ofEvent_loc_mark h1]; trivial
      · simp only [Go.ConcR.ofEvent_loc_mark h1]; trivial
      · simp only [Go.ConcR.ofEvent_cell]; exact (by rw [← ha] at hB; exact hB : a.block < B)
/-- reads on the way to a seat -/
theorem evC_ops' {i : Nat} {fn : FuncId} {pos : String} {es : Array Event} {St : Loc → Prop} {B : Nat} (h : ∀ e ∈ es, EvC St B e) :
    (∀ op ∈ MemOp.ofEvents i fn pos es, op.g = i) ∧ (∀ op ∈ MemOp.ofEvents i fn pos es, ∀ b, op.act.touch? = some b → b.write = false ∧ b.kind = .plain ∧ St b.loc) ∧ (∀ op ∈ MemOp.ofEvents i fn pos es, op.act.low B) ∧ (∀ t : Trace, Deaf (t ++ MemOp.ofEvents i fn pos es) i = Deaf t i) ∧ NoRel (MemOp.ofEvents i fn pos es) := by
  obtain ⟨h1, _, h3, h4⟩ := evC_ops (i := i) (fn := fn) (pos := pos) h
  refine ⟨h1, fun op hop b hb => ?_, h3, h4, fun op hop a => ?_⟩
  all_goals
    obtain ⟨e, he, rfl⟩ := Go.Conc.mem_ofEvents hop
    obtain ⟨a', rfl, hS, _⟩ := h e he
  · simp only [ofEvent_cell0, MemAct.touch?, Option.some.injEq] at hb
    subst hb
    exact ⟨rfl, rfl, hS⟩
  · rw [ofEvent_cell0]; simp
theorem NoRel.app {T u : Trace} (h : NoRel T) (hu : NoRel u) : NoRel (T ++ u) := fun op hop a => (Array.mem_append.1 hop).elim (fun x => h op x a) fun x => hu op x a
theorem norel_mute {i : Nat} {fn : FuncId} {pos : String} {es : Array Event} (h : ∀ e ∈ es, Event.mute e = true) : NoRel (MemOp.ofEvents i fn pos es) := fun op hop a => by
  obtain ⟨e, he, rfl⟩ := Go.Conc.mem_ofEvents hop
  have := h e he
  obtain ⟨loc, wr, sy⟩ := e
  cases loc <;> simp [Event.mute] at this
  rename_i m
  cases m <;> simp at this <;> simp [MemAct.ofEvent]
theorem norel_lev {Wg dd i : Nat} {fn : FuncId} {pos : String} {es : Array Event} (h : LEv Wg dd es) : NoRel (MemOp.ofEvents i fn pos es) := fun op hop a => by
  obtain ⟨e, he, rfl⟩ := Go.Conc.mem_ofEvents hop
  rcases h with rfl | ⟨hb, _⟩
  · simp only [List.mem_toArray, List.mem_singleton] at he
    subst he
    simp [mk, MemAct.ofEvent]
  · rcases hb e he with h1 | h1 | ⟨a, wr, rfl, ha⟩
    · simp only [Go.ConcR.ofEvent_loc_mark h1]; simp
    · simp only [Go.ConcR.ofEvent_loc_mark h1]; simp
    · simp [Go.ConcR.ofEvent_cell]
end
def Lss (n : Nat) (q' q : Nat → Nat × Nat) : Prop := sumTo n (fun i => (q' i).1) < sumTo n (fun i => (q i).1) ∨ (sumTo n (fun i => (q' i).1) = sumTo n (fun i => (q i).1) ∧ sumTo n (fun i => (q' i).2) < sumTo n (fun i => (q i).2))
theorem lss_upd {n i : Nat} {q : Nat → Nat × Nat} {x : Nat × Nat} (hi : i < n) (h : x.1 < (q i).1 ∨ (x.1 = (q i).1 ∧ x.2 < (q i).2)) : Lss n (upd q i x) q := by
  have e1 := sumTo_upd q x Prod.fst hi
  have e2 := sumTo_upd q x Prod.snd hi
  unfold Lss
  rcases h with h | ⟨h1, h2⟩
  · exact .inl (by omega)
  · exact .inr ⟨by omega, by omega⟩
theorem lss_wf (n : Nat) : WellFounded (Lss n) :=
  Subrelation.wf (r := InvImage (Prod.Lex (· < ·) (· < ·)) fun q : Nat → Nat × Nat => (sumTo n (fun i => (q i).1), sumTo n (fun i => (q i).2)))
    (fun {a b} h => by
      rcases h with h | ⟨h1, h2⟩
      · exact Prod.Lex.left _ _ h
      · show Prod.Lex (· < ·) (· < ·) (sumTo n (fun i => (a i).1), sumTo n (fun i => (a i).2)) (sumTo n (fun i => (b i).1), sumTo n (fun i => (b i).2))
        rw [h1]; exact Prod.Lex.right _ h2)
    (InvImage.wf _ (Prod.lex Nat.lt_wfRel Nat.lt_wfRel).wf)
section
variable {P : Program} {ty : TypeId} {b : Bd} {h : Nat} {Sp : Nat → Prop} {T : Trace} {gs : Array Goroutine} {w w' : World} {q : Nat → Nat × Nat}
/-- one goroutine's record is laid anew; the groups' blocks may turn -/
theorem Stands.put (S : Stands P ty b h Sp T gs w q) {i s' m' : Nat} {g' : Goroutine} {ops : Trace} {gs' : Array Goroutine} (hih : i ≠ h) (hlt : i < gs.size) (hsz : gs'.size = gs.size) (hother : ∀ x, x ≠ i → ¬ Sp x → gs'[x]? = gs[x]?) (hself : gs'[i]? = some g') (hops : ∀ op ∈ ops, op.g = i) (o : Off b.shun w w')
    (hs8 : s' = 8 → (q i).1 = 8) (hold : ∀ x, x < b.oldN → b.shun x = true → w'.heap[x]? = w.heap[x]?)
    (hgroups : ∀ Wg lo hi p, b.wg Wg = some (lo, hi, p) → GSt ty b.wait Wg lo hi p (upd q i (s', m')) w')
    (hlive : ∀ Wg, b.shun Wg = true → WgLive ty Wg w → WgLive ty Wg w') (hfit : ¬ Sp i → Fit P ty i (Deaf (T ++ ops) i) (s', m') g' (b.role i))
    (hpast : PastB (Stil b) (Shu b) (Memb b h q) (Loos b) w.heap.size (Knows (T ++ ops) h) (T ++ ops)) (hnr : NoRel ops)
    (hrel : ∀ Wg s kn B c kk z, b.role i = .leave Wg s kn B c kk z → s' ≤ 6 → ∃ r, Go.ConcN.RelBy (stA Wg) (T ++ ops) i r) : Stands P ty b h Sp (T ++ ops) gs' w' (upd q i (s', m')) := by
  have hat : ∀ x s, (b.role x).at (upd q i (s', m') x).1 = some s → (b.role x).at (q x).1 = some s := by
    intro x s e
    by_cases ex : x = i
    · subst ex
      rw [upd_same] at e
      rcases Role.at_seat e with ⟨kn, B, hr⟩ | ⟨Wg, kn, B, c, kk, z, hr, h8⟩
      · rw [hr]; rfl
      · rw [hr, hs8 h8]; rfl
    · rw [upd_ne q _ ex] at e; exact e
  refine ⟨hsz.trans S.n, S.hr, by rw [upd_ne q _ (fun e => hih e.symm)]; exact S.hq, fun hd => by rw [Deaf_other T hih ops hops]; exact S.deaf hd, fun x y hx hy => ?_, fun x p hp => ?_, fun x => by rw [o.size]; exact S.bd x, fun x hx => ?_, ⟨fun x hx => by rw [o.size]; exact S.shunC.1 x hx, fun x s e c hc => S.shunC.2 x s (hat x s e) c hc⟩, fun x s e => S.wf x s (hat x s e), fun x s e c hc => S.chansOff o (hat x s e) hc, S.dumb, fun x Wg s kn B c kk z hr h8 => ?_, fun j hj => ?_, fun Wg lo hi p hw => ⟨hgroups Wg lo hi p hw, (S.groups Wg lo hi p hw).2⟩, S.apart, fun x Wg s kn B c kk z hr => ?_, o.even S.even, ?_, S.norel.app hnr, fun x Wg s kn B c kk z hr h6 => ?_, S.old.off o hold⟩
  · by_cases e : x = i
    · subst e
      rw [hself] at hy
      obtain rfl := Option.some.inj hy
      rw [upd_same]
      exact hfit hx
    · rw [hother x e hx] at hy
      rw [upd_ne q _ e, Deaf_other T (fun z => e z.symm) ops hops]
      exact S.fit x y hx hy
  · obtain ⟨h1, h2, h3⟩ := S.keep x p hp
    exact ⟨S.knOff o x p hp, h2, h3⟩
  · obtain ⟨h1, c, t, h2⟩ := S.warm x hx
    exact ⟨h1, c, t, by rw [o.heap x h1]; exact h2⟩
  · by_cases e : x = i
    · subst e
      rw [upd_same] at h8
      exact S.bell x Wg s kn B c kk z hr (hs8 h8)
    · rw [upd_ne q _ e] at h8
      exact S.bell x Wg s kn B c kk z hr h8
  · rw [Deaf_other T (g' := i) (by have := S.n; omega) ops hops]
    exact S.above j hj
  · obtain ⟨h1, h2, h3⟩ := S.member x Wg s kn B c kk z hr
    exact ⟨h1, hlive Wg h1 h2, h3⟩
  · rw [o.size]
    refine hpast.fewer fun g hg => hg.imp id fun hg => ?_
    obtain ⟨s, hs⟩ := Option.isSome_iff_exists.1 hg
    rw [hat g s hs]; rfl
  · by_cases e : x = i
    · subst e
      rw [upd_same] at h6
      exact hrel Wg s kn B c kk z hr h6
    · rw [upd_ne q _ e] at h6
      obtain ⟨r, hr⟩ := S.rel x Wg s kn B c kk z hr h6
      exact ⟨r, hr.appOther hops fun z => e z.symm⟩
/-- what is still for somebody is not shunned -/
theorem Stands.stillShun (S : Stands P ty b h Sp T gs w q) (g : Nat) (l : Loc) (hl : Stil b g l) : ¬ Shu b l := by
  obtain ⟨p, hp, rfl⟩ := hl
  rintro ⟨a, e, ha⟩
  injection e with e
  subst e
  obtain ⟨_, h2, _⟩ := S.keep g p hp
  rw [(S.warm _ (ice_pos h2)).1] at ha
  cases ha
end
end Go.Proofs.Ytaiinkeendejdaa
namespace Go.Proofs.Ytaiinkeendejdaa
open Go.Conc
open Go.ConcN (sumTo upd sumTo_upd upd_ne upd_same WgLive)
open Go.ConcR (KK wgBlock WgAt stA smA rd wr mk DC0)
section
variable {P : Program} {ty : TypeId} {b : Bd} {h : Nat} {Sp : Nat → Prop} {T : Trace} {gs : Array Goroutine} {w w' : World} {q : Nat → Nat × Nat}
/-- what a bystander's step leaves -/
structure ByStep (P : Program) (ty : TypeId) (b : Bd) (h : Nat) (Sp : Nat → Prop) (T : Trace) (gs : Array Goroutine) (w : World) (q : Nat → Nat × Nat) (sl : Option (Nat × Nat)) (i : Nat) (gs' : Array Goroutine) (ops : Trace) (w' : World) (s' m' : Nat) : Prop where
  run : runT P (crowd gs w sl) i = (.next (crowd gs' w' sl), ops)
  other : ∀ x, x ≠ i → ¬ Sp x → gs'[x]? = gs[x]?
  special : ∀ x gx, x ≠ i → Sp x → gs[x]? = some gx → gs'[x]? = some gx ∨ gs'[x]? = some (gx.again w')
  off : Off b.shun w w'
  stands : Stands P ty b h Sp (T ++ ops) gs' w' (upd q i (s', m'))
  less : s' < (q i).1 ∨ (s' = (q i).1 ∧ m' < (q i).2)
  wake : (q i).1 = 2 → s' ≠ 2 → ∀ x gx, x ≠ i → Sp x → gs[x]? = some gx → gs'[x]? = some (gx.again w')
  quiet : ((q i).1 = 2 → s' = 2) → ∀ Wg, w'.cell? (smA Wg) = w.cell? (smA Wg)
  far : ∀ s kn B, b.role i = .seat s kn B → m' = 0 → ∃ g g₂, gs[i]? = some g ∧ AtIn P (i == 0) (Kn kn) (Sn kn) B s g g₂
theorem woken_or {a a' : Goroutine} (gx : Goroutine) (w' : World) : woken P a a' w' gx = gx ∨ woken P a a' w' gx = gx.again w' := by
  unfold woken
  split
  · exact .inr rfl
  · exact .inl rfl
/-- the machine behind an own step of goroutine i's -/
theorem Stands.goArr (S : Stands P ty b h Sp T gs w q) (o : Off b.shun w w') {i : Nat} {g g' : Goroutine} (hlt : i < gs.size) :
    ((gs.map (woken P g g' w')).setIfInBounds i g').size = gs.size ∧ (∀ x, x ≠ i → ¬ Sp x → ((gs.map (woken P g g' w')).setIfInBounds i g')[x]? = gs[x]?) ∧ ((gs.map (woken P g g' w')).setIfInBounds i g')[i]? = some g' ∧
    ∀ x gx, x ≠ i → Sp x → gs[x]? = some gx → ((gs.map (woken P g g' w')).setIfInBounds i g')[x]? = some gx ∨ ((gs.map (woken P g g' w')).setIfInBounds i g')[x]? = some (gx.again w') := by
  refine ⟨by simp, fun x hx hsp => ?_, Array.getElem?_setIfInBounds_self_of_lt (by simpa using hlt), fun x gx hx _ hg => ?_⟩
  · rw [Array.getElem?_setIfInBounds_ne (fun e => hx e.symm), Array.getElem?_map]
    cases e : gs[x]? with
    | none => rfl
    | some y => simp [woken_of_again (x := g) (x' := g') (S.fixed o hsp e)]
  · rw [Array.getElem?_setIfInBounds_ne (fun e => hx e.symm), Array.getElem?_map, hg]
    simp only [Option.map_some]
    rcases woken_or (P := P) (a := g) (a' := g') gx w' with e | e <;> rw [e]
    · exact .inl rfl
    · exact .inr rfl
/-- the frame where neither the world nor the groups' counts turn -/
theorem Stands.putStill (S : Stands P ty b h Sp T gs w q) {i s' m' : Nat} {g' : Goroutine} {ops : Trace} {gs' : Array Goroutine} (hih : i ≠ h) (hlt : i < gs.size) (hsz : gs'.size = gs.size) (hother : ∀ x, x ≠ i → ¬ Sp x → gs'[x]? = gs[x]?) (hself : gs'[i]? = some g') (hops : ∀ op ∈ ops, op.g = i)
    (hs8 : s' = 8 → (q i).1 = 8) (hs5 : s' = (q i).1 ∨ (5 ≤ (q i).1 ∧ 5 ≤ s')) (hfit : ¬ Sp i → Fit P ty i (Deaf (T ++ ops) i) (s', m') g' (b.role i))
    (hpast : PastB (Stil b) (Shu b) (Memb b h q) (Loos b) w.heap.size (Knows (T ++ ops) h) (T ++ ops)) (hnr : NoRel ops)
    (hrel : ∀ Wg s kn B c kk z, b.role i = .leave Wg s kn B c kk z → s' ≤ 6 → ∃ r, Go.ConcN.RelBy (stA Wg) (T ++ ops) i r) : Stands P ty b h Sp (T ++ ops) gs' w (upd q i (s', m')) :=
  S.put hih hlt hsz hother hself hops (Off.refl _ _) hs8 (fun _ _ _ => rfl) (fun Wg lo hi p hw => (S.groups Wg lo hi p hw).1.congr (fun x _ _ => by
    by_cases e : x = i
    · subst e; rw [upd_same]; exact hs5
    · rw [upd_ne _ _ e]; exact .inl rfl) rfl) (fun _ _ h => h) hfit hpast hnr hrel
/-- a step on the way to the seat, or the sitting down -/
theorem Stands.walk (S : Stands P ty b h Sp T gs w q) {i : Nat} {g : Goroutine} {sl : Option (Nat × Nat)} (hi : gs[i]? = some g) (hih : i ≠ h) (hrun : g.status = .running) {s : Seat} (hat : (b.role i).at (q i).1 = some s) (hst : 8 ≤ (q i).1)
    (hsits : Sits P (i == 0) (Kn (b.role i).kn) (Sn (b.role i).kn) (b.role i).bd s (q i).2 g)
    (hfit : ∀ g' m' d, (g'.status = .running ∨ b.rung = b.rung) → Sits P (i == 0) (Kn (b.role i).kn) (Sn (b.role i).kn) (b.role i).bd s m' g' → (g'.status = .running ∨ ∀ c, s.has c → b.rung c = false) → Fit P ty i d ((q i).1, m') g' (b.role i))
    (hSpO : ∀ x gx c, Sp x → gs[x]? = some gx → s.has c → ∀ g₂, AtIn P (i == 0) (Kn (b.role i).kn) (Sn (b.role i).kn) (b.role i).bd s g g₂ → offersAt gx c true = []) :
    (∃ g₂, AtIn P (i == 0) (Kn (b.role i).kn) (Sn (b.role i).kn) (b.role i).bd s g g₂ ∧ ∃ c, s.has c ∧ b.rung c = true) ∨ ∃ gs' ops m', ByStep P ty b h Sp T gs w q sl i gs' ops w (q i).1 m' := by
  have hlt : i < gs.size := (Array.getElem?_eq_some_iff.1 hi).1
  have hK : Kn (b.role i).kn w := S.kn i
  have hm : Memb b h q i := .inr (by rw [hat]; rfl)
  have hL : Loos b i := fun e => by rw [e] at hat; cases hat
  have hbd := S.bd i
  obtain ⟨k, w₀, hqi, hg⟩ : ∃ k w₀, (q i).2 = k + 1 ∧ Goes P (i == 0) (RK (Kn (b.role i).kn)) (DS (Sn (b.role i).kn) (b.role i).bd) (fun g _ => ∃ g₂, AtIn P (i == 0) (Kn (b.role i).kn) (Sn (b.role i).kn) (b.role i).bd s g g₂) k g w₀ := by
    rcases hsits with h | ⟨_, _, g₂, rfl, _⟩
    · exact h
    · cases hrun
  have hcase : (∃ g₂, AtIn P (i == 0) (Kn (b.role i).kn) (Sn (b.role i).kn) (b.role i).bd s g g₂) ∨ ∃ k' g' es, k = k' + 1 ∧ stepG P (i == 0) g w = .go g' w es ∧ (∀ e ∈ es, EvC (Sn (b.role i).kn) (b.role i).bd e) ∧ Goes P (i == 0) (RK (Kn (b.role i).kn)) (DS (Sn (b.role i).kn) (b.role i).bd) (fun g _ => ∃ g₂, AtIn P (i == 0) (Kn (b.role i).kn) (Sn (b.role i).kn) (b.role i).bd s g g₂) k' g' w := by
    cases k with
    | zero => exact .inl (hg w hK)
    | succ k' =>
      rcases hg with hstop | ⟨_, hstep⟩
      · exact .inl (hstop w hK)
      · have hs := hstep w hK
        cases hgo : stepG P (i == 0) g w with
        | go g' w' es =>
          rw [hgo, goes_go] at hs
          obtain ⟨⟨rfl, hes⟩, hG'⟩ := hs
          exact .inr ⟨k', g', es, rfl, rfl, hes, hG'⟩
        | _ => rw [hgo] at hs; exact hs.elim
  have hrel : ∀ Wg s kn B c kk z, b.role i = .leave Wg s kn B c kk z → (q i).1 ≤ 6 → ∀ ops : Trace, ∃ r, Go.ConcN.RelBy (stA Wg) (T ++ ops) i r := fun _ _ _ _ _ _ _ _ h6 => by omega
  rcases hcase with ⟨g₂, hat'⟩ | ⟨k', g', es, rfl, hgo, hes, hG'⟩
  · by_cases hr : ∃ c, s.has c ∧ b.rung c = true
    · exact .inl ⟨g₂, hat', hr⟩
    refine .inr ?_
    have hopen : ∀ c, s.has c → b.rung c = false := fun c hc => by
      cases e : b.rung c with
      | false => rfl
      | true => exact absurd ⟨c, hc, e⟩ hr
    obtain ⟨_, _, _, _, _, es, hes, hstp⟩ := id hat'
    obtain ⟨hops, hr, hl, hd, hn⟩ := evC_ops' (i := i) (fn := g.frame.fn) (pos := g.frame.place) hes
    have hw : ∀ cc ∈ s.cases, NoWays w (gs.setIfInBounds i ph) cc := by
      intro cc hcc
      obtain ⟨c, z, rfl⟩ := (S.wf i s hat).recvs cc hcc
      have hsc := Seat.has_of_mem hcc
      obtain ⟨kk, hc⟩ := S.chans i s hat c hsc
      rw [hopen c hsc] at hc
      refine ways_recv_none hc (partners_nil fun x y hy => ?_)
      rcases getElem?_stand gs i x y hy with ⟨_, rfl⟩ | ⟨hx, hy'⟩
      · exact offersAt_ph _ _
      · by_cases hS : Sp x
        · exact hSpO x y c hS hy' hsc g₂ hat'
        · exact S.noSend hS hy' _
    refine ⟨_, _, 0, crowd_waits (sl := sl) hi (hstp w hK) hw, fun x hx _ => Array.getElem?_setIfInBounds_ne (fun z => hx z.symm), fun x gx hx _ hgx => .inl (by rw [Array.getElem?_setIfInBounds_ne (fun z => hx z.symm)]; exact hgx), Off.refl _ _, ?_, .inr ⟨rfl, by omega⟩, fun h2 => by omega, fun _ _ => rfl, fun s' kn B he _ => ?_⟩
    · refine S.putStill hih hlt (by simp) (fun x hx _ => Array.getElem?_setIfInBounds_ne (fun z => hx z.symm)) (Array.getElem?_setIfInBounds_self_of_lt hlt) hops (fun h => h) (.inl rfl) (fun _ => hfit _ _ _ (.inr rfl) (.inr ⟨rfl, g, g₂, rfl, hat'⟩) (.inr hopen)) ?_ hn (fun Wg s kn B c kk z e h6 => hrel Wg s kn B c kk z e h6 _)
      exact S.past.appRead (fun _ => Knows.app _) hm hL (S.stillShun i) hops hr (hd T) (fun op hop => MemAct.low_mono hbd (hl op hop))
    · rw [he] at hat hat'
      simp only [Role.at, Option.some.injEq] at hat
      subst hat
      exact ⟨g, g₂, hi, hat'⟩
  · refine .inr ?_
    obtain ⟨hops, hr, hl, hd, hn⟩ := evC_ops' (i := i) (fn := g.frame.fn) (pos := g.frame.place) hes
    obtain ⟨z1, z2, z3, z4⟩ := S.goArr (Off.refl _ _) (g := g) (g' := g') hlt
    have hrun' : g'.status = .running := (Sits.status hK (.inl ⟨k', w, rfl, hG'⟩)).elim (·.1) (fun z => by omega)
    refine ⟨_, _, k' + 1, runT_crowd_go (sl := sl) hi hgo, z2, fun x gx hx hsp hgx => z4 x gx hx hsp hgx, Off.refl _ _, ?_, .inr ⟨rfl, by omega⟩, fun h2 => by omega, fun _ _ => rfl, fun _ _ _ _ h0 => by omega⟩
    refine S.putStill hih hlt z1 z2 z3 hops (fun h => h) (.inl rfl) (fun _ => hfit _ _ _ (.inr rfl) (.inl ⟨k', w, rfl, hG'⟩) (.inl hrun')) ?_ hn (fun Wg s kn B c kk z e h6 => hrel Wg s kn B c kk z e h6 _)
    exact S.past.appRead (fun _ => Knows.app _) hm hL (S.stillShun i) hops hr (hd T) (fun op hop => MemAct.low_mono hbd (hl op hop))
end
end Go.Proofs.Ytaiinkeendejdaa
namespace Go.Proofs.Ytaiinkeendejdaa
open Go.Conc
open Go.ConcN (sumTo upd sumTo_upd upd_ne upd_same WgLive)
open Go.ConcR (KK wgBlock WgAt stA smA rd wr mk DC0)
section
variable {P : Program} {ty : TypeId} {b : Bd} {h : Nat} {Sp : Nat → Prop} {T : Trace} {gs : Array Goroutine} {w w' : World} {q : Nat → Nat × Nat}
theorem Stands.by_mute (S : Stands P ty b h Sp T gs w q) {i : Nat} {g : Goroutine} {sl : Option (Nat × Nat)} (hi : gs[i]? = some g) (hih : i ≠ h) (hrun : g.status = .running) (hr : b.role i = .mute) (h0 : 0 < i) (hs : (q i).1 = 0) (hq : QuitsD P (q i).2 (Deaf T i) g) :
    ∃ gs' ops w' s' m', ByStep P ty b h Sp T gs w q sl i gs' ops w' s' m' := by
  have hlt : i < gs.size := (Array.getElem?_eq_some_iff.1 hi).1
  have hi0 : (i == 0) = false := by simp; omega
  cases hqi : (q i).2 with
  | zero => rw [hqi] at hq; rw [hq.1] at hrun; cases hrun
  | succ k =>
    rw [hqi] at hq
    rcases hq with ⟨hf, _⟩ | ⟨_, g', es, hm, hstp, hq'⟩
    · rw [hf] at hrun; cases hrun
    have hops : ∀ op ∈ MemOp.ofEvents i g.frame.fn g.frame.place es, op.g = i := fun op hop => by obtain ⟨e, _, rfl⟩ := Go.Conc.mem_ofEvents hop; rfl
    obtain ⟨z1, z2, z3, z4⟩ := S.goArr (Off.refl _ _) (g := g) (g' := g') hlt
    refine ⟨_, _, w, 0, k, runT_crowd_go (sl := sl) hi (by rw [hi0]; exact hstp w), z2, fun x gx hx hsp hgx => z4 x gx hx hsp hgx, Off.refl _ _, ?_, .inr ⟨hs.symm, by omega⟩, fun h2 => by omega, fun _ _ => rfl, fun s kn B e => by rw [hr] at e; cases e⟩
    refine S.putStill hih hlt z1 z2 z3 hops (fun h => by cases h) (.inl hs.symm) (fun _ => by rw [hr]; exact ⟨h0, rfl, by rw [Deaf_own]; exact hq'⟩) ?_ (norel_mute hm) (fun _ _ _ _ _ _ _ e => by rw [hr] at e; cases e)
    refine PastB.appMute S.past (fun _ => Knows.app _) hops (fun op hop => by obtain ⟨e, he, rfl⟩ := Go.Conc.mem_ofEvents hop; exact touch_mute (hm e he)) (fun hM => ?_) (fun op hop => by obtain ⟨e, he, rfl⟩ := Go.Conc.mem_ofEvents hop; exact low_mute (hm e he) _)
    rcases hM with ⟨e, _⟩ | hM
    · exact absurd e hih
    · rw [hr] at hM; cases hM
theorem Stands.by_bell (S : Stands P ty b h Sp T gs w q) {i : Nat} {g : Goroutine} {sl : Option (Nat × Nat)} (hi : gs[i]? = some g) (hih : i ≠ h) {Wg : Nat} {s : Seat} {kn : List (Addr × Value)} {B c kk : Nat} {z : Value} (hr : b.role i = .leave Wg s kn B c kk z) (h0 : 0 < i) (hs : (q i).1 = 8)
    (hk : s.cases[kk]? = some (rcase c z)) (hhome : ∀ g₂, s.home g₂ → ∃ m, LSit P ty Wg 7 m 0 (Go.Conc.served g₂ (commResult s.cases s.shape kk z false))) {g₂ : Goroutine} (hat : AtIn P (i == 0) (Kn kn) (Sn kn) B s g g₂)
    (hSpO : ∀ x gx c, Sp x → gs[x]? = some gx → s.has c → offersAt gx c true = []) : ∃ gs' ops w' s' m', ByStep P ty b h Sp T gs w q sl i gs' ops w' s' m' := by
  have hlt : i < gs.size := (Array.getElem?_eq_some_iff.1 hi).1
  have hatS : (b.role i).at (q i).1 = some s := by rw [hr, hs]; rfl
  have hK : Kn kn w := by have := S.kn i; rw [hr] at this; exact this
  have hm : Memb b h q i := .inr (by rw [hatS]; rfl)
  have hL : Loos b i := fun e => by rw [e] at hr; cases hr
  have hbd : B ≤ w.heap.size := by have := S.bd i; rw [hr] at this; exact this
  obtain ⟨hbell, hoth⟩ := S.bell i Wg s kn B c kk z hr hs
  have hsc : s.has c := ⟨kk, z, hk⟩
  obtain ⟨kc, hc⟩ := S.chans i s hatS c hsc
  rw [hbell] at hc
  obtain ⟨_, _, _, _, hh, es, hes, hstp⟩ := hat
  obtain ⟨hops, hrd, hl, hd, hn⟩ := evC_ops' (i := i) (fn := g.frame.fn) (pos := g.frame.place) hes
  have hns : ∀ c, s.has c → partners (gs.setIfInBounds i ph) c true = [] := fun c hc => partners_nil fun x y hy => by
    rcases getElem?_stand gs i x y hy with ⟨_, rfl⟩ | ⟨hx, hy'⟩
    · exact offersAt_ph _ _
    · by_cases hS : Sp x
      · exact hSpO x y c hS hy' hc
      · exact S.noSend hS hy' _
  have ho : ∀ (m' : Nat) (c' : CommCase), m' ≠ kk → s.cases[m']? = some c' → NoWays w (gs.setIfInBounds i ph) c' := by
    intro m' c' hm hc'
    obtain ⟨c₂, z₂, rfl⟩ := (S.wf i s hatS).recvs c' (Array.mem_of_getElem? hc')
    have hne : c₂ ≠ c := fun ec => hm ((S.wf i s hatS).apart m' kk c z₂ z (ec ▸ hc') hk)
    have hs2 : s.has c₂ := ⟨m', z₂, hc'⟩
    obtain ⟨k₂, hc₂⟩ := S.chans i s hatS c₂ hs2
    rw [hoth c₂ hs2 hne] at hc₂
    exact ways_recv_none hc₂ (hns c₂ hs2)
  obtain ⟨m, hsit⟩ := hhome g₂ hh
  have hst2 : Stil b i = Sn kn := by unfold Stil; rw [hr]; rfl
  have hall : ∀ op ∈ MemOp.ofEvents i g.frame.fn g.frame.place es ++ #[{ g := i, fn := g₂.frame.fn, pos := g₂.frame.place, act := .recvClosed c }], op.g = i := by
    intro op hop
    rcases Array.mem_append.1 hop with z | z
    · exact hops op z
    · simp only [List.mem_toArray, List.mem_cons, List.not_mem_nil, or_false] at z; subst z; rfl
  have hcB : c < w.heap.size := (Array.getElem?_eq_some_iff.1 hc).1
  have p1 : PastB (Stil b) (Shu b) (Memb b h q) (Loos b) w.heap.size (Knows (T ++ MemOp.ofEvents i g.frame.fn g.frame.place es) h) (T ++ MemOp.ofEvents i g.frame.fn g.frame.place es) :=
    S.past.appRead (fun _ => Knows.app _) hm hL (S.stillShun i) hops (by rw [hst2]; exact hrd) (hd T) (fun op hop => MemAct.low_mono hbd (hl op hop))
  have hq1 : ∀ t : Trace, Deaf (t ++ #[({ g := i, fn := g₂.frame.fn, pos := g₂.frame.place, act := .recvClosed c } : MemOp)]) i = Deaf t i := fun t => by rw [Deaf_push]; rfl
  have p2 := PastB.appMute (K' := Knows (T ++ MemOp.ofEvents i g.frame.fn g.frame.place es ++ #[({ g := i, fn := g₂.frame.fn, pos := g₂.frame.place, act := .recvClosed c } : MemOp)]) h) p1 (fun _ => Knows.app _) (g := i) (u := #[({ g := i, fn := g₂.frame.fn, pos := g₂.frame.place, act := .recvClosed c } : MemOp)])
    (fun op hop => by simp only [List.mem_toArray, List.mem_singleton] at hop; subst hop; rfl) (fun op hop => by simp only [List.mem_toArray, List.mem_singleton] at hop; subst hop; rfl) (fun _ => hq1 _) (fun op hop => by simp only [List.mem_toArray, List.mem_singleton] at hop; subst hop; exact hcB)
  rw [Array.append_assoc] at p2
  have hdeaf : Deaf (T ++ (MemOp.ofEvents i g.frame.fn g.frame.place es ++ #[({ g := i, fn := g₂.frame.fn, pos := g₂.frame.place, act := .recvClosed c } : MemOp)])) i = 0 := by
    rw [← Array.append_assoc, hq1, hd]; exact S.past.hears i hm
  refine ⟨_, _, w, 7, m, crowd_sel_recv_closed (sl := sl) hi (hstp w hK) hk ho hc (hns c hsc), fun x hx _ => Array.getElem?_setIfInBounds_ne (fun z => hx z.symm), fun x gx hx _ hgx => .inl (by rw [Array.getElem?_setIfInBounds_ne (fun z => hx z.symm)]; exact hgx), Off.refl _ _, ?_, .inl (by omega), fun h2 => by omega, fun _ _ => rfl, fun s kn B e => by rw [hr] at e; cases e⟩
  refine S.putStill hih hlt (by simp) (fun x hx _ => Array.getElem?_setIfInBounds_ne (fun z => hx z.symm)) (Array.getElem?_setIfInBounds_self_of_lt hlt) hall (fun h => by cases h) (.inr ⟨by omega, by omega⟩) (fun _ => ?_) p2 ?_ (fun _ _ _ _ _ _ _ _ h6 => by omega)
  · rw [hr, hdeaf]
    exact ⟨h0, .inr ⟨Nat.le_refl _, hsit⟩⟩
  · refine hn.app fun op hop a => ?_
    simp only [List.mem_toArray, List.mem_singleton] at hop; subst hop; simp
/-- a leaver's step, and what it makes of its group -/
theorem Stands.leaverStep (S : Stands P ty b h Sp T gs w q) {i : Nat} {g : Goroutine} (hrun : g.status = .running) {Wg lo hi p : Nat} (hwg : b.wg Wg = some (lo, hi, p)) (hlo : lo ≤ i) (hhi : i < hi) (h7 : (q i).1 ≤ 7)
    (hsit : LSit P ty Wg (q i).1 (q i).2 (Deaf T i) g) : ∃ g' w' es s' m' dd', LStep P ty Wg (q i).1 (q i).2 (Deaf T i) g w g' w' es s' m' dd' ∧ s' ≤ 7 ∧ GSt ty b.wait Wg lo hi p (upd q i (s', m')) w' ∧ ((q i).1 = 2 → s' ≠ 2 → mayWake P g = true ∧ g'.status ≠ .blocked ∧ g'.status ≠ .waiting) := by
  obtain ⟨hst, _, hsm, _⟩ := S.groups Wg lo hi p hwg
  have hcl := cntG_le2 lo hi q
  have hcu : ∀ s' m', cntG lo hi (upd q i (s', m')) + (if 5 ≤ (q i).1 then 1 else 0) = cntG lo hi q + (if 5 ≤ s' then 1 else 0) := fun s' m' => cntG_upd (x := (s', m')) (q := q) ⟨hlo, hhi⟩
  have hps := fun h5 => cntG_pos (q := q) (lo := lo) (hi := hi) ⟨hlo, hhi⟩ h5
  have hbl : ∀ s : Nat, s ≤ 7 → okS s → 1 ≤ s → s = 7 ∨ s = 6 ∨ s = 5 ∨ s = 1 := fun s h1 h2 h3 => by unfold okS at h2; omega
  have hs1 : 1 ≤ (q i).1 := by
    generalize (q i).1 = s at hsit
    generalize (q i).2 = m at hsit
    generalize Deaf T i = dd at hsit
    cases hsit <;> omega
  have okU : ∀ s' m', (∀ x, lo ≤ x → x < hi → okS (q x).1) → okS s' → ∀ x, lo ≤ x → x < hi → okS (upd q i (s', m') x).1 := fun s' m' ho hk x h1 h2 => by
    by_cases e : x = i
    · subst e; rw [upd_same]; exact hk
    · rw [upd_ne _ _ e]; exact ho x h1 h2
  -- the quiet steps of the last one
  have quit1 : (q i).1 = 1 → ∃ g' es m' dd', LStep P ty Wg (q i).1 (q i).2 (Deaf T i) g w g' w es 1 m' dd' := fun h1 => by
    obtain ⟨st, sm, hl⟩ := hst.live
    generalize (q i).1 = s at hsit h1
    subst h1
    generalize (q i).2 = m at hsit
    generalize Deaf T i = dd at hsit
    cases hsit with
    | quit h =>
      cases m with
      | zero => rw [h.1] at hrun; cases hrun
      | succ k =>
        rcases h with ⟨hf, _⟩ | ⟨_, g', es, hmute, hstep, hq⟩
        · rw [hf] at hrun; cases hrun
        · refine ⟨g', es, k, _, hstep w, .quit hq, .inr ⟨rfl, rfl⟩, rfl, Aside.refl _ _, .inr ⟨fun e he => Go.ConcR.bk_of_mute (hmute e he), fun j e he => .inl (touch_mute (hmute e (Array.mem_of_getElem? he)))⟩, fun _ h => by omega, fun h => ?_, fun _ => rfl⟩
          subst h
          have := hmute (Go.ConcR.mk (.releaseMerge (stA Wg))) (by simp)
          simp [Go.ConcR.mk, Event.mute] at this
  rcases hst with ⟨hw0, hst, hok⟩ | ⟨hw0, hp0, ⟨hV, hst, hok⟩ | ⟨L, hL1, hL2, hoth, hLs⟩ | ⟨hst, hall⟩⟩
  · -- nobody waits
    obtain ⟨g', w', es, s', m', dd', hL, hst', hs', _, _⟩ := leave_step (V := cntG lo hi q + p) (wt := 0) hsit hrun (hbl _ h7 (hok i hlo hhi) hs1) (by omega) (by simpa using hst) (fun h5 => by have := hps h5; omega) (by omega)
    have hop : s' = 7 ∨ s' = 6 ∨ s' = 5 ∨ s' = 1 := by
      rcases hs' with h | h | h | h | ⟨_, _, _, h⟩
      · exact .inl h
      · exact .inr (.inl h)
      · exact .inr (.inr (.inl h))
      · exact .inr (.inr (.inr h))
      · omega
    refine ⟨g', w', es, s', m', dd', hL, by omega, .inl ⟨hw0, ?_, okU s' m' hok (by unfold okS; omega)⟩, fun h2 => ?_⟩
    · have hc := hcu s' m'
      have heq : (if 5 ≤ (q i).1 ∧ s' < 5 then cntG lo hi q + p - 1 else cntG lo hi q + p) = cntG lo hi (upd q i (s', m')) + p := by
        have hless := hL.less
        by_cases h5 : 5 ≤ (q i).1
        · have := hps h5
          by_cases h5' : 5 ≤ s'
          · rw [if_neg (by omega)]; simp only [h5, h5', if_true] at hc; omega
          · rw [if_pos ⟨h5, by omega⟩]; simp only [h5, h5', if_true, if_false] at hc; omega
        · rw [if_neg (by omega)]
          have h5' : ¬ 5 ≤ s' := by omega
          simp only [h5, h5', if_false] at hc; omega
      rw [heq] at hst'
      simpa using hst'
    · have := hok i hlo hhi
      unfold okS at this; omega
  · -- somebody is registered
    subst hp0
    obtain ⟨g', w', es, s', m', dd', hL, hst', hs', hlast, hjump⟩ := leave_step (V := cntG lo hi q) (wt := 1) hsit hrun (hbl _ h7 (hok i hlo hhi) hs1) (by omega) (by simpa using hst) (fun _ => hV) (by omega)
    have hc := hcu s' m'
    have hless := hL.less
    have hno2 : (q i).1 = 2 → s' ≠ 2 → mayWake P g = true ∧ g'.status ≠ .blocked ∧ g'.status ≠ .waiting := fun h2 => by
      have := hok i hlo hhi
      unfold okS at this; omega
    by_cases h4 : s' = 4
    · obtain ⟨h5, hV1⟩ : (q i).1 = 5 ∧ cntG lo hi q = 1 := by
        rcases hs' with h | h | h | h | ⟨h1, _, h2, _⟩
        · omega
        · omega
        · omega
        · omega
        · exact ⟨h1, h2⟩
      refine ⟨g', w', es, s', m', dd', hL, by omega, .inr ⟨hw0, rfl, .inr (.inl ⟨i, hlo, hhi, fun x h1 h2 hx => ?_, .inl ⟨by rw [upd_same]; exact h4, ?_⟩⟩)⟩, hno2⟩
      · rw [upd_ne _ _ hx]
        have hc0 : cntG lo hi (upd q i (s', m')) = 0 := by
          have e1 : (5 ≤ (q i).1) := by omega
          have e2 : ¬ 5 ≤ s' := by omega
          simp only [e1, e2, if_true, if_false] at hc
          omega
        have hx5 : ¬ 5 ≤ (q x).1 := fun h5 => by
          have := cntG_pos (q := upd q i (s', m')) (lo := lo) (hi := hi) ⟨h1, h2⟩ (by rw [upd_ne _ _ hx]; exact h5)
          omega
        have hok' := hok x h1 h2
        unfold okS at hok'
        omega
      · rw [if_pos ⟨by omega, by omega⟩, hV1] at hst'
        simpa using hst'
    · have hop : s' = 7 ∨ s' = 6 ∨ s' = 5 ∨ s' = 1 := by
        rcases hs' with h | h | h | h | ⟨_, h, _⟩
        · exact .inl h
        · exact .inr (.inl h)
        · exact .inr (.inr (.inl h))
        · exact .inr (.inr (.inr h))
        · exact absurd h h4
      have heq : (if 5 ≤ (q i).1 ∧ s' < 5 then cntG lo hi q - 1 else cntG lo hi q) = cntG lo hi (upd q i (s', m')) := by
        by_cases h5 : 5 ≤ (q i).1
        · by_cases h5' : 5 ≤ s'
          · rw [if_neg (by omega)]; simp only [h5, h5', if_true] at hc; omega
          · rw [if_pos ⟨h5, by omega⟩]; simp only [h5, h5', if_true, if_false] at hc; omega
        · rw [if_neg (by omega)]
          have h5' : ¬ 5 ≤ s' := by omega
          simp only [h5, h5', if_false] at hc; omega
      rw [heq] at hst'
      refine ⟨g', w', es, s', m', dd', hL, by omega, .inr ⟨hw0, rfl, .inl ⟨?_, hst', okU s' m' hok (by unfold okS; omega)⟩⟩, hno2⟩
      rw [← heq]
      by_cases h5 : 5 ≤ (q i).1 ∧ s' < 5
      · rw [if_pos h5]
        have hne : cntG lo hi q ≠ 1 := fun h1 => by
          have h5' : (q i).1 = 5 := hjump h5.1 h5.2
          exact h4 (hlast h5' h5.2 h1 rfl)
        omega
      · rw [if_neg h5]; exact hV
  · -- the last one is on its way
    have last : ∀ s' m' w', (s' = 4 ∧ WgAt ty Wg w' 1 0) ∨ (s' = 3 ∧ WgAt ty Wg w' 1 0) ∨ (s' = 2 ∧ WgAt ty Wg w' 0 0) → i = L → GSt ty b.wait Wg lo hi p (upd q i (s', m')) w' := fun s' m' w' hc e => by
      subst e
      refine .inr ⟨hw0, hp0, .inr (.inl ⟨i, hlo, hhi, fun x h1 h2 hx => by rw [upd_ne _ _ hx]; exact hoth x h1 h2 hx, ?_⟩)⟩
      rw [upd_same]; exact hc
    by_cases e : i = L
    · subst e
      have hl : WgLive ty Wg w := by rcases hLs with ⟨_, h⟩ | ⟨_, h⟩ | ⟨_, h⟩ <;> exact ⟨_, _, h⟩
      rcases hLs with ⟨h4, hw⟩ | ⟨h4, hw⟩ | ⟨h4, hw⟩
      · generalize (q i).1 = s at hsit h4
        subst h4
        generalize (q i).2 = m at hsit
        generalize Deaf T i = dd at hsit
        cases hsit with
        | d2 h =>
          rcases h.cases hl with ⟨_, hst⟩ | ⟨m', g', rfl, hst, hk⟩
          · obtain ⟨g', m', hgo, hk⟩ := hst w hw
            refine ⟨g', w, _, 3, m', 1, ⟨hgo, .d3 hk, .inl (by omega), rfl, Aside.refl _ _, .inr ⟨fun e he => ?_, fun j e he => ?_⟩, fun _ h => by omega, fun h => ?_, fun _ => rfl⟩, by omega, last 3 m' w (.inr (.inl ⟨rfl, hw⟩)) rfl, fun h => by omega⟩
            · simp only [List.mem_toArray, List.mem_singleton] at he; subst he; exact Go.ConcN.bk_cell _ _ rfl
            · match j, he with
              | 0, _ => exact .inr (by simp [deafBehind])
              | j + 1, he => simp at he
            · have := congrArg (·[0]?) h
              simp [Go.ConcR.mk, rd] at this
          · exact ⟨g', w, _, 4, m', 1, lstep_still hst (.d2 hk) rfl, by omega, last 4 m' w (.inl ⟨rfl, hw⟩) rfl, fun h => by omega⟩
      · generalize (q i).1 = s at hsit h4
        subst h4
        generalize (q i).2 = m at hsit
        generalize Deaf T i = dd at hsit
        cases hsit with
        | d3 h =>
          rcases h.cases hl with ⟨_, hst⟩ | ⟨m', g', rfl, hst, hk⟩
          · obtain ⟨g', m', hgo, hk⟩ := hst w hw
            refine ⟨g', _, _, 2, m', 1, ⟨hgo, .d4 hk, .inl (by omega), rfl, aside_setCell w (stA Wg) _, .inr ⟨fun e he => ?_, fun j e he => ?_⟩, fun _ h => by omega, fun h => ?_, fun _ => sem_st _ _ _⟩, by omega, last 2 m' _ (.inr (.inr ⟨rfl, hw.setSt 0⟩)) rfl, fun h => by omega⟩
            · simp only [List.mem_toArray, List.mem_singleton] at he; subst he; exact Go.ConcN.bk_cell _ _ rfl
            · match j, he with
              | 0, _ => exact .inr (by simp [deafBehind])
              | j + 1, he => simp at he
            · have := congrArg (·[0]?) h
              simp [Go.ConcR.mk, wr] at this
          · exact ⟨g', w, _, 3, m', 1, lstep_still hst (.d3 hk) rfl, by omega, last 3 m' w (.inr (.inl ⟨rfl, hw⟩)) rfl, fun h => by omega⟩
      · generalize (q i).1 = s at hsit h4
        subst h4
        generalize (q i).2 = m at hsit
        generalize Deaf T i = dd at hsit
        cases hsit with
        | d4 h =>
          rcases h.cases hl with ⟨_, hwk, hst⟩ | ⟨m', g', rfl, hst, hk⟩
          · obtain ⟨g', m', hgo, hk⟩ := hst w hw
            refine ⟨g', _, _, 1, m', 1, ⟨hgo, .quit hk, .inl (by omega), rfl, aside_setCell w (smA Wg) _, .inr ⟨fun e he => ?_, fun j e he => ?_⟩, fun _ h => by omega, fun h => ?_, fun h => absurd (h rfl) (by omega)⟩, by omega, .inr ⟨hw0, hp0, .inr (.inr ⟨hw.setSm 1, fun x a c => ?_⟩)⟩, fun _ _ => ⟨hwk, ?_, ?_⟩⟩
            · simp only [semEvents, List.mem_toArray, List.mem_cons, List.not_mem_nil, or_false] at he
              rcases he with rfl | rfl | rfl | rfl
              · exact .inl rfl
              · exact Go.ConcN.bk_cell _ _ rfl
              · exact Go.ConcN.bk_cell _ _ rfl
              · exact .inr (.inl rfl)
            · match j, he with
              | 0, he => simp [semEvents] at he; subst he; exact .inl rfl
              | 1, _ => exact .inr (by simp [semEvents, deafBehind])
              | 2, _ => exact .inr (by simp [semEvents, deafBehind])
              | 3, he => simp [semEvents] at he; subst he; exact .inl rfl
              | j + 4, he => simp [semEvents] at he
            · have := congrArg Array.size h
              simp [semEvents] at this
            · by_cases e : x = i
              · subst e; rw [upd_same]; exact Nat.le_refl _
              · rw [upd_ne _ _ e]; exact hoth x a c e
            · intro e; rcases hk.status with h | h <;> rw [h] at e <;> cases e
            · intro e; rcases hk.status with h | h <;> rw [h] at e <;> cases e
          · exact ⟨g', w, _, 2, m', 1, lstep_still hst (.d4 hk) rfl, by omega, last 2 m' w (.inr (.inr ⟨rfl, hw⟩)) rfl, fun _ h => absurd rfl h⟩
    · have h1 : (q i).1 = 1 := by have := hoth i hlo hhi e; omega
      obtain ⟨g', es, m', dd', hL'⟩ := quit1 h1
      refine ⟨g', w, es, 1, m', dd', hL', by omega, .inr ⟨hw0, hp0, .inr (.inl ⟨L, hL1, hL2, fun x a c d => ?_, ?_⟩)⟩, fun h2 => by omega⟩
      · by_cases ex : x = i
        · subst ex; rw [upd_same]; exact Nat.le_refl _
        · rw [upd_ne _ _ ex]; exact hoth x a c d
      · rw [upd_ne _ _ (fun h => e h.symm)]; exact hLs
  · -- released
    have h1 : (q i).1 = 1 := by have := hall i hlo hhi; omega
    obtain ⟨g', es, m', dd', hL⟩ := quit1 h1
    refine ⟨g', w, es, 1, m', dd', hL, by omega, .inr ⟨hw0, hp0, .inr (.inr ⟨hst, fun x a c => ?_⟩)⟩, fun h2 => by omega⟩
    by_cases e : x = i
    · subst e; rw [upd_same]; exact Nat.le_refl _
    · rw [upd_ne _ _ e]; exact hall x a c
/-- the leaver says Done -/
theorem Stands.by_done (S : Stands P ty b h Sp T gs w q) {i : Nat} {g : Goroutine} {sl : Option (Nat × Nat)} (hi : gs[i]? = some g) (hsp : ¬ Sp i) (hih : i ≠ h) (hrun : g.status = .running) {Wg : Nat} {s : Seat} {kn : List (Addr × Value)} {B c kk : Nat} {z : Value} (hr : b.role i = .leave Wg s kn B c kk z) (h0 : 0 < i) (h7 : (q i).1 ≤ 7)
    (hsit : LSit P ty Wg (q i).1 (q i).2 (Deaf T i) g) : ∃ gs' ops w' s' m', ByStep P ty b h Sp T gs w q sl i gs' ops w' s' m' := by
  have hlt : i < gs.size := (Array.getElem?_eq_some_iff.1 hi).1
  have hi0 : (i == 0) = false := by simp; omega
  obtain ⟨hshu, _, hmem⟩ := S.member i Wg s kn B c kk z hr
  obtain ⟨lo, hi', p, hwg, hlo, hhi⟩ := hmem hsp
  obtain ⟨hgst, _, hsm, _⟩ := S.groups Wg lo hi' p hwg
  obtain ⟨g', w', es, s', m', dd', hL, hs7, hg', hwk⟩ := S.leaverStep hrun hwg hlo hhi h7 hsit
  have o : Off b.shun w w' := Off.aside hL.aside hshu ((kind_live hg'.live).trans (kind_live hgst.live).symm)
  obtain ⟨z1, z2, z3, z4⟩ := S.goArr o (g := g) (g' := g') hlt
  have hnm : ¬ Memb b h q i := by
    rintro (⟨e, _⟩ | hM)
    · exact hih e
    · rw [hr] at hM
      simp only [Role.at] at hM
      rw [if_neg (by omega)] at hM
      cases hM
  have hops : ∀ op ∈ MemOp.ofEvents i g.frame.fn g.frame.place es, op.g = i := fun op hop => by obtain ⟨e, _, rfl⟩ := Go.Conc.mem_ofEvents hop; rfl
  obtain ⟨c0, t0, f0, hblk⟩ := hgst.block
  have hWgB : Wg < w.heap.size := (Array.getElem?_eq_some_iff.1 hblk).1
  refine ⟨_, _, w', s', m', runT_crowd_go (sl := sl) hi (by rw [hi0]; exact hL.go), z2, fun x gx hx hsp hgx => z4 x gx hx hsp hgx, o, ?_, hL.less.imp id fun ⟨a, c⟩ => ⟨a, by omega⟩, fun h2 h2' x gx hx _ hgx => ?_, fun hq Wg' => ?_, fun s kn B e => by rw [hr] at e; cases e⟩
  refine S.put hih hlt z1 z2 z3 hops o (fun h8 => by omega) (fun x h1 _ => hL.aside.block x (by have := S.old.wg Wg (by rw [hwg]; simp); omega)) (fun Wg' lo2 hi2 p2 hw2 => ?_) (fun Wg' hsh hl => ?_) (fun _ => ?_) ?_ (norel_lev hL.evs) (fun Wg' s2 kn2 B2 c2 kk2 z2 e h6 => ?_)
  · by_cases e : Wg' = Wg
    · subst e
      obtain ⟨rfl, rfl, rfl⟩ : lo = lo2 ∧ hi' = hi2 ∧ p = p2 := by
        have e1 := Option.some.inj (hwg.symm.trans hw2)
        exact ⟨congrArg (·.1) e1, congrArg (·.2.1) e1, congrArg (·.2.2) e1⟩
      exact hg'
    · refine (S.groups Wg' lo2 hi2 p2 hw2).1.congr (fun x h1 h2 => ?_) (hL.aside.block Wg' e)
      have hne : x ≠ i := fun ex => e (by subst ex; exact S.apart Wg' lo2 hi2 p2 Wg lo hi' p hw2 hwg x h1 h2 hlo hhi)
      rw [upd_ne _ _ hne]; exact .inl rfl
  · by_cases e : Wg' = Wg
    · subst e; exact hg'.live
    · obtain ⟨st, sm, hx⟩ := hl
      exact ⟨st, sm, by unfold WgAt at hx ⊢; rw [hL.aside.block Wg' e]; exact hx⟩
  · rw [hr, Deaf_own, ← hL.deaf]
    exact ⟨h0, .inr ⟨hs7, hL.sit⟩⟩
  · exact past_leave S.past (fun _ => Knows.app _) hnm (fun a ha => ⟨a, rfl, by rw [ha]; exact hshu⟩) (S.stillShun) hWgB hL.evs
  · rw [hr] at e
    injection e with e1
    subst e1
    by_cases h7' : (q i).1 = 7
    · have he := hL.rel h6 h7'
      subst he
      exact ⟨_, Go.ConcN.RelBy.new (hL.rel2 rfl) _ _⟩
    · obtain ⟨r, hrel⟩ := S.rel i Wg s kn B c kk z hr (by omega)
      refine ⟨r, hrel.appOwn _ _ _ fun j e he => ?_⟩
      rcases hL.evs with rfl | ⟨hb, hq⟩
      · have := Array.mem_of_getElem? he
        simp only [List.mem_toArray, List.mem_singleton] at this
        subst this; exact .inl rfl
      · rcases hq j e he with h1 | h1
        · exact .inl h1
        · rcases hb e (Array.mem_of_getElem? he) with h2 | h2 | ⟨a, wr, rfl, _⟩
          · exact .inl (by simp only [Go.ConcR.ofEvent_loc_mark h2]; rfl)
          · exact .inl (by simp only [Go.ConcR.ofEvent_loc_mark h2]; rfl)
          · exact .inr ⟨⟨a, wr, rfl⟩, h1⟩
  · obtain ⟨w1, w2, w3⟩ := hwk h2 h2'
    rw [Array.getElem?_setIfInBounds_ne (fun e => hx e.symm), Array.getElem?_map, hgx]
    have : woken P g g' w' gx = gx.again w' := by
      unfold woken
      rw [if_pos]
      cases e : g'.status <;> simp_all
    simp [this]
  · by_cases e : Wg' = Wg
    · subst e; exact hL.sem hq
    · unfold World.cell?
      rw [show (smA Wg').block = Wg' from rfl, hL.aside.block Wg' e]
/-- ████ WHATEVER STEP OF A BYSTANDER's ████ -/
theorem Stands.by_step (S : Stands P ty b h Sp T gs w q) {i : Nat} {g : Goroutine} {sl : Option (Nat × Nat)} (hi : gs[i]? = some g) (hsp : ¬ Sp i) (hih : i ≠ h) (hrun : g.status = .running)
    (hSpO : ∀ s, (b.role i).at (q i).1 = some s → ∀ x gx c, Sp x → gs[x]? = some gx → s.has c → ∀ g₂, AtIn P (i == 0) (Kn (b.role i).kn) (Sn (b.role i).kn) (b.role i).bd s g g₂ → offersAt gx c true = []) : ∃ gs' ops w' s' m', ByStep P ty b h Sp T gs w q sl i gs' ops w' s' m' := by
  have hf := S.fit i g hsp hi
  cases hr : b.role i with
  | mute => rw [hr] at hf; exact S.by_mute hi hih hrun hr hf.1 hf.2.1 hf.2.2
  | seat s kn B =>
    rw [hr] at hf
    have hat : (b.role i).at (q i).1 = some s := by rw [hr]; rfl
    rcases S.walk (sl := sl) hi hih hrun hat (by rw [hf.1]; omega) (by rw [hr]; exact hf.2) (fun g' m' d _ h1 _ => by rw [hr] at h1 ⊢; exact ⟨hf.1, h1⟩) (fun x gx c h1 h2 h3 g₂ h4 => hSpO s hat x gx c h1 h2 h3 g₂ h4) with ⟨_, _, c, hc, hru⟩ | ⟨gs', ops, m', h⟩
    · rw [S.dumb i s kn B hr c hc] at hru; cases hru
    · exact ⟨gs', ops, w, _, m', h⟩
  | leave Wg s kn B c kk z =>
    rw [hr] at hf
    obtain ⟨h0, hf | ⟨hs, hsit⟩⟩ := hf
    · obtain ⟨hs, _, hsits, hk, hhome⟩ := hf
      have hi0 : (i == 0) = false := by simp; omega
      have hat : (b.role i).at (q i).1 = some s := by rw [hr, hs]; rfl
      have hbell := S.bell i Wg s kn B c kk z hr hs
      rcases S.walk (sl := sl) hi hih hrun hat (by omega) (by rw [hr, hi0]; exact hsits) (fun g' m' d _ h1 h2 => by
          rw [hr, hi0] at h1
          rw [hr]
          refine ⟨h0, .inl ⟨hs, ?_, h1, hk, hhome⟩⟩
          rcases h2 with h2 | h2
          · exact h2
          · have := h2 c ⟨kk, z, hk⟩
            rw [hbell.1] at this; cases this) (fun x gx c h1 h2 h3 g₂ h4 => hSpO s hat x gx c h1 h2 h3 g₂ h4) with ⟨g₂, hat', _⟩ | ⟨gs', ops, m', h⟩
      · rw [hr] at hat'
        exact S.by_bell hi hih hr h0 hs hk hhome hat' (fun x gx c h1 h2 h3 => hSpO s hat x gx c h1 h2 h3 g₂ (by rw [hr]; exact hat'))
      · exact ⟨gs', ops, w, _, m', h⟩
    · exact S.by_done hi hsp hih hrun hr h0 hs hsit
end
end Go.Proofs.Ytaiinkeendejdaa
