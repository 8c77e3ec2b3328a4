/-
  A BAND OF GOROUTINES OF WHICH ONE HOLDS: what each of the others is, and the frame. No condition.
  And: A BAND OF GOROUTINES OF WHICH ONE HOLDS: A LEAVER (it says Done to a WaitGroup), from its end backwards: its stages, and one step of it while nobody waits. No condition.
  And: A BAND OF GOROUTINES OF WHICH ONE HOLDS: 'the run from here ends well', told backwards: each law carries the goal on to the next machine. No condition.
  And: A BAND OF GOROUTINES OF WHICH ONE HOLDS, THE TRACE's SIDE: as the library's TokenTrace, but (1) what is still is said for each goroutine by itself; (2) some places are shunned: touched atomically alone, by goroutines that nobody hears. No condition.
-/
import Derived.Conc.TokenTrace
import Derived.Conc.CrowdTrace
import Derived.Test.YtaiinkeendejdaaLiftWill
import Derived.Conc.CrowdStepW
import Derived.Conc.Token
namespace Go.Proofs.Ytaiinkeendejdaa
open Go.Conc
/-- what a loose goroutine may have touched that nobody knows yet: a plain read of what is still for it; an atomic touch of a shunned place -/
def Lets (Still : Nat → Loc → Prop) (Shun : Loc → Prop) (g : Nat) (a : Touch) : Prop := (a.write = false ∧ a.kind = .plain ∧ Still g a.loc) ∨ (Shun a.loc ∧ a.kind = .atomic)
structure PastB (Still : Nat → Loc → Prop) (Shun : Loc → Prop) (Mem Loose : Nat → Prop) (B : Nat) (K : Nat → Prop) (t : Trace) : Prop where
  clean : ∀ said, ¬ Race said t
  known : ∀ i a, touchAt t i = some a → a.loc.isMemory = true → K i ∨ (∃ g, t.g? i = some g ∧ Loose g ∧ Lets Still Shun g a) ∨ (Shun a.loc ∧ a.kind = .atomic ∧ ¬ t.counts i)
  plain : ∀ i a, touchAt t i = some a → Shun a.loc → a.kind ≠ .plain
  wrote : ∀ i a, touchAt t i = some a → a.write = true → ∀ g, Mem g → Still g a.loc → Knows t g i
  hears : ∀ g, Mem g → Deaf t g = 0
  seen : ∀ op ∈ t, op.act.low B
section
variable {Still : Nat → Loc → Prop} {Shun : Loc → Prop} {Mem Loose : Nat → Prop} {B h : Nat} {K K' : Nat → Prop} {t u : Trace}
theorem PastB.mono {B' : Nat} (H : PastB Still Shun Mem Loose B K t) (hB : B ≤ B') : PastB Still Shun Mem Loose B' K t := ⟨H.clean, H.known, H.plain, H.wrote, H.hears, fun op hop => MemAct.low_mono hB (H.seen op hop)⟩
theorem PastB.fewer {Mem' : Nat → Prop} (H : PastB Still Shun Mem Loose B K t) (hM : ∀ g, Mem' g → Mem g) : PastB Still Shun Mem' Loose B K t := ⟨H.clean, H.known, H.plain, fun i a ha hw g hg => H.wrote i a ha hw g (hM g hg), fun g hg => H.hears g (hM g hg), H.seen⟩
theorem PastB.loosen {Loose' : Nat → Prop} (H : PastB Still Shun Mem Loose B K t) (hL : ∀ g, Loose g → Loose' g) : PastB Still Shun Mem Loose' B K t :=
  ⟨H.clean, fun i a ha hm => (H.known i a ha hm).imp id fun x => x.imp (fun ⟨g, hg, hl, hs⟩ => ⟨g, hg, hL g hl, hs⟩) id, H.plain, H.wrote, H.hears, H.seen⟩
theorem PastB.old_known (H : PastB Still Shun Mem Loose B K t) (hK : ∀ i, K i → K' i) {i : Nat} {a : Touch} {x : MemOp} (hx' : t[i]? = some x) (hxa : x.act.touch? = some a) (hm : a.loc.isMemory = true) :
    K' i ∨ (∃ g, (t ++ u).g? i = some g ∧ Loose g ∧ Lets Still Shun g a) ∨ (Shun a.loc ∧ a.kind = .atomic ∧ ¬ (t ++ u).counts i) := by
  have hlt := lt_size_of_getElem? hx'
  refine (H.known i a (by rw [touchAt_of hx']; exact hxa) hm).imp (hK i) fun z => z.imp (fun ⟨g, hg, hl, hs⟩ => ⟨g, by rw [g?_old hlt]; exact hg, hl, hs⟩) fun ⟨p, q, hc⟩ => ⟨p, q, fun c => hc ((counts_old hlt).1 c)⟩
theorem PastB.old_hears {g : Nat} (H : PastB Still Shun Mem Loose B K t) (hu : ∀ op ∈ u, op.g = g) (hd : Mem g → Deaf (t ++ u) g = Deaf t g) : ∀ g', Mem g' → Deaf (t ++ u) g' = 0 := fun g' hg' => by
  by_cases e : g' = g
  · subst e; exact (hd hg').trans (H.hears g' hg')
  · exact (Deaf_other t (fun x => e x.symm) u hu).trans (H.hears g' hg')
/-- Operations of one goroutine that touch nothing. -/
theorem PastB.appMute {g : Nat} (H : PastB Still Shun Mem Loose B K t) (hK : ∀ i, K i → K' i) (hu : ∀ op ∈ u, op.g = g) (hn : ∀ op ∈ u, op.act.touch? = none) (hd : Mem g → Deaf (t ++ u) g = Deaf t g) (hl : ∀ op ∈ u, op.act.low B) : PastB Still Shun Mem Loose B K' (t ++ u) := by
  refine ⟨fun said => noRace_appendMute (H.clean said) hn, fun i a ha hm => ?_, fun i a ha hS => ?_, fun i a ha hw g' hg' hS => ?_, H.old_hears hu hd, seen_app H.seen hl⟩
  all_goals
    obtain ⟨x, hx, hxa⟩ := touch_of ha
    rcases getElem?_append_cases hx with ⟨_, hx'⟩ | ⟨_, hxu⟩
    rotate_left
    · rw [hn x hxu] at hxa; cases hxa
  · exact H.old_known hK hx' hxa hm
  · exact H.plain i a (by rw [touchAt_of hx']; exact hxa) hS
  · exact (H.wrote i a (by rw [touchAt_of hx']; exact hxa) hw g' hg' hS).app u
/-- A loose member reads places that are still for it. -/
theorem PastB.appRead {g : Nat} (H : PastB Still Shun Mem Loose B K t) (hK : ∀ i, K i → K' i) (hg : Mem g) (hL : Loose g) (hSS : ∀ l, Still g l → ¬ Shun l) (hu : ∀ op ∈ u, op.g = g) (hr : ∀ op ∈ u, ∀ b, op.act.touch? = some b → b.write = false ∧ b.kind = .plain ∧ Still g b.loc) (hd : Deaf (t ++ u) g = Deaf t g)
    (hl : ∀ op ∈ u, op.act.low B) : PastB Still Shun Mem Loose B K' (t ++ u) := by
  refine ⟨fun said => noRace_append (H.clean said) hu fun i a ha op hop b hb hc => ?_, fun i a ha hm => ?_, fun i a ha hS => ?_, fun i a ha hw g' hg' hS => ?_, H.old_hears hu (fun _ => hd), seen_app H.seen hl⟩
  · obtain ⟨hb0, _, hbS⟩ := hr op hop b hb
    rcases hc.2.2.1 with x | x
    · exact H.wrote i a ha x g hg (hc.1 ▸ hbS)
    · rw [hb0] at x; cases x
  all_goals
    obtain ⟨x, hx, hxa⟩ := touch_of ha
    rcases getElem?_append_cases hx with ⟨_, hx'⟩ | ⟨_, hxu⟩
  · exact H.old_known hK hx' hxa hm
  · exact .inr (.inl ⟨g, by rw [g?_of hx, hu x hxu], hL, .inl (hr x hxu a hxa)⟩)
  · exact H.plain i a (by rw [touchAt_of hx']; exact hxa) hS
  · exact absurd hS (hSS _ (hr x hxu a hxa).2.2)
  · exact (H.wrote i a (by rw [touchAt_of hx']; exact hxa) hw g' hg' hS).app u
  · rw [(hr x hxu a hxa).1] at hw; cases hw
/-- Goroutine h holds. -/
def HoldB (Still : Nat → Loc → Prop) (Shun : Loc → Prop) (Mem Loose : Nat → Prop) (B h : Nat) (t : Trace) : Prop := PastB Still Shun Mem Loose B (Knows t h) t
/-- THE HOLDER's OWN OPERATIONS: whatever, but no write of what is still for another, no plain touch of a shunned place. -/
theorem HoldB.appH (H : HoldB Still Shun Mem Loose B h t) (hu : ∀ op ∈ u, op.g = h) (hs : ∀ op ∈ u, ∀ b, op.act.touch? = some b → (∀ g, Mem g ∨ Loose g → Still g b.loc → b.write = false) ∧ (Shun b.loc → b.kind ≠ .plain)) (hd : Mem h → Deaf (t ++ u) h = Deaf t h) (hl : ∀ op ∈ u, op.act.low B) :
    HoldB Still Shun Mem Loose B h (t ++ u) := by
  refine ⟨fun said => noRace_append (H.clean said) hu fun i a ha op hop b hb hc => ?_, fun i a ha hm => ?_, fun i a ha hS => ?_, fun i a ha hw g hg hS => ?_, H.old_hears hu hd, seen_app H.seen hl⟩
  · rcases H.known i a ha hc.2.1 with hk | ⟨g, hg, hL, ⟨hw, _, hS⟩ | ⟨hS, hk⟩⟩ | ⟨hS, hk, _⟩
    · exact hk
    · have hb0 := (hs op hop b hb).1 g (.inr hL) (hc.1 ▸ hS)
      rcases hc.2.2.1 with x | x
      · rw [hw] at x; cases x
      · rw [hb0] at x; cases x
    all_goals
      have hkb := (hs op hop b hb).2 (hc.1 ▸ hS)
      rcases hc.2.2.2 with x | x | ⟨_, x, _⟩
      · rw [hk] at x; cases x
      · exact absurd x hkb
      · rw [hk] at x; cases x
  all_goals
    obtain ⟨x, hx, hxa⟩ := touch_of ha
    rcases getElem?_append_cases hx with ⟨_, hx'⟩ | ⟨_, hxu⟩
  · exact H.old_known (fun i => Knows.app u) hx' hxa hm
  · have := knows_own hx
    rw [hu x hxu] at this
    exact .inl this
  · exact H.plain i a (by rw [touchAt_of hx']; exact hxa) hS
  · exact (hs x hxu a hxa).2 hS
  · exact (H.wrote i a (by rw [touchAt_of hx']; exact hxa) hw g hg hS).app u
  · rw [(hs x hxu a hxa).1 g (.inl hg) hS] at hw; cases hw
/-- A LEAVER's ATOMIC TOUCHES of shunned places, which nobody hears. -/
theorem PastB.appShun {g : Nat} (H : PastB Still Shun Mem Loose B K t) (hK : ∀ i, K i → K' i) (hSS : ∀ g l, Still g l → ¬ Shun l) (hu : ∀ op ∈ u, op.g = g) (hr : ∀ op ∈ u, ∀ b, op.act.touch? = some b → Shun b.loc ∧ b.kind = .atomic) (hc : ∀ i, t.size ≤ i → ¬ (t ++ u).counts i) (hd : Mem g → Deaf (t ++ u) g = Deaf t g)
    (hl : ∀ op ∈ u, op.act.low B) : PastB Still Shun Mem Loose B K' (t ++ u) := by
  refine ⟨fun said => noRace_append (H.clean said) hu fun i a ha op hop b hb hc => ?_, fun i a ha hm => ?_, fun i a ha hS => ?_, fun i a ha hw g' hg' hS => ?_, H.old_hears hu hd, seen_app H.seen hl⟩
  · obtain ⟨h1, h2⟩ := hr op hop b hb
    have := H.plain i a ha (hc.1 ▸ h1)
    rcases hc.2.2.2 with x | x | ⟨_, _, x⟩
    · exact absurd x this
    · rw [h2] at x; cases x
    · rw [h2] at x; cases x
  all_goals
    obtain ⟨x, hx, hxa⟩ := touch_of ha
    rcases getElem?_append_cases hx with ⟨_, hx'⟩ | ⟨hge, hxu⟩
  · exact H.old_known hK hx' hxa hm
  · exact .inr (.inr ⟨(hr x hxu a hxa).1, (hr x hxu a hxa).2, hc i hge⟩)
  · exact H.plain i a (by rw [touchAt_of hx']; exact hxa) hS
  · rw [(hr x hxu a hxa).2]; simp
  · exact (H.wrote i a (by rw [touchAt_of hx']; exact hxa) hw g' hg' hS).app u
  · exact absurd (hr x hxu a hxa).1 (hSS _ _ hS)
/-- ████ THE TOKEN PASSES: a send is met: the taker knows all that the giver knew, and what it read itself. ████ -/
theorem HoldB.give {j : Nat} (H : HoldB Still Shun Mem Loose B h t) (hh : Mem h) (hj : Mem j) (fh : FuncId) (ph : String) (fj : FuncId) (pj : String) {c : Nat} (k cap : Nat) (hc : c < B) :
    HoldB Still Shun Mem (fun g => Loose g ∧ g ≠ j) B j (t ++ met h j fh ph fj pj c k cap) := by
  have hn := met_mute h j fh ph fj pj c k cap
  have hq : ∀ g, ∀ op ∈ met h j fh ph fj pj c k cap, ∀ d, deafStep g d op = d := fun g => met_quiet h j fh ph fj pj c k cap g
  have e0 : (t ++ met h j fh ph fj pj c k cap)[t.size]? = some { g := h, fn := fh, pos := ph, act := .send c k } := by simp [met]
  have e3 : (t ++ met h j fh ph fj pj c k cap)[t.size + 3]? = some { g := j, fn := fj, pos := pj, act := .recvDone c k } := by simp [met]
  have edge : HappensBefore (t ++ met h j fh ph fj pj c k cap) t.size (t.size + 3) :=
    Relation.TransGen.single (.inr ⟨.handOver (act?_of e0) (act?_of e3), ⟨h, g?_of e0, by rw [deaf_old (Nat.le_refl _)]; exact H.hears h hh⟩, ⟨j, g?_of e3, by rw [deaf_quiet (hq j) 3 (by simp [met])]; exact H.hears j hj⟩⟩)
  refine ⟨fun said => noRace_appendMute (H.clean said) hn, fun i a ha hm => ?_, fun i a ha hS => ?_, fun i a ha hw g hg hS => ?_, fun g hg => (Deaf_quiet (hq g)).trans (H.hears g hg), seen_app H.seen fun op hop => ?_⟩
  rotate_right
  · simp only [met, List.mem_toArray, List.mem_cons, List.not_mem_nil, or_false] at hop
    rcases hop with rfl | rfl | rfl | rfl <;> exact hc
  all_goals
    obtain ⟨x, hx, hxa⟩ := touch_of ha
    rcases getElem?_append_cases hx with ⟨hi, hx'⟩ | ⟨_, hxu⟩
    rotate_left
    · rw [hn x hxu] at hxa; cases hxa
  · rcases H.known i a (by rw [touchAt_of hx']; exact hxa) hm with hk | ⟨g, hg, hl, hs⟩ | ⟨p, q, hcc⟩
    · exact .inl ⟨t.size + 3, _, e3, rfl, .inr ((hk.hb_new (Nat.le_refl _) e0 rfl).trans edge)⟩
    · by_cases e : g = j
      · subst e
        have := knows_own hx
        rw [show x.g = g from by have := g?_of hx'; rw [hg] at this; exact (Option.some.inj this).symm] at this
        exact .inl this
      · exact .inr (.inl ⟨g, by rw [g?_old hi]; exact hg, ⟨hl, e⟩, hs⟩)
    · exact .inr (.inr ⟨p, q, fun c => hcc ((counts_old hi).1 c)⟩)
  · exact H.plain i a (by rw [touchAt_of hx']; exact hxa) hS
  · exact (H.wrote i a (by rw [touchAt_of hx']; exact hxa) hw g hg hS).app _
/-- A go STATEMENT OF THE HOLDER's: the child c, of which the trace knows nothing yet, is a member, and loose: what is still for it is whatever the holder may have written. -/
theorem HoldB.hire {c : Nat} {Still' : Nat → Loc → Prop} (H : HoldB Still Shun Mem Loose B h t) (hh : Mem h) (hc0 : Deaf t c = 0) (hS' : ∀ g, g ≠ c → Still' g = Still g) (hcM : ¬ Mem c) (hcL : ¬ Loose c) (hSS : ∀ l, Still' c l → l.isMemory = true ∧ ¬ Shun l) (fh : FuncId) (ph : String) (fc : FuncId) :
    HoldB Still' Shun (fun g => Mem g ∨ g = c) (fun g => Loose g ∨ g = c) B h (t ++ #[{ g := h, fn := fh, pos := ph, act := .go c }, { g := c, fn := fc, pos := ph, act := .start }]) := by
  generalize hu : (#[{ g := h, fn := fh, pos := ph, act := .go c }, { g := c, fn := fc, pos := ph, act := .start }] : Trace) = u
  have hn : ∀ op ∈ u, op.act.touch? = none := by
    intro op hop
    subst hu
    simp only [List.mem_toArray, List.mem_cons, List.not_mem_nil, or_false] at hop
    rcases hop with rfl | rfl <;> rfl
  have hq : ∀ g, ∀ op ∈ u, ∀ d, deafStep g d op = d := by
    intro g op hop d
    subst hu
    simp only [List.mem_toArray, List.mem_cons, List.not_mem_nil, or_false] at hop
    rcases hop with rfl | rfl <;> rfl
  have e0 : (t ++ u)[t.size]? = some { g := h, fn := fh, pos := ph, act := .go c } := by subst hu; simp
  have e1 : (t ++ u)[t.size + 1]? = some { g := c, fn := fc, pos := ph, act := .start } := by subst hu; simp
  have edge : HappensBefore (t ++ u) t.size (t.size + 1) :=
    Relation.TransGen.single (.inr ⟨.spawn (act?_of e0) (act?_of e1) (g?_of e1), ⟨h, g?_of e0, by rw [deaf_old (Nat.le_refl _)]; exact H.hears h hh⟩, ⟨c, g?_of e1, by rw [deaf_quiet (hq c) 1 (by subst hu; simp)]; exact hc0⟩⟩)
  refine ⟨fun said => noRace_appendMute (H.clean said) hn, fun i a ha hm => ?_, fun i a ha hS => ?_, fun i a ha hw g hg hS => ?_, fun g hg => (Deaf_quiet (hq g)).trans (hg.elim (H.hears g) fun e => e ▸ hc0), seen_app H.seen fun op hop => ?_⟩
  rotate_right
  · subst hu
    simp only [List.mem_toArray, List.mem_cons, List.not_mem_nil, or_false] at hop
    rcases hop with rfl | rfl <;> trivial
  all_goals
    obtain ⟨x, hx, hxa⟩ := touch_of ha
    rcases getElem?_append_cases hx with ⟨hi, hx'⟩ | ⟨_, hxu⟩
    rotate_left
    · rw [hn x hxu] at hxa; cases hxa
  · refine (PastB.old_known H (fun i => Knows.app u) hx' hxa hm).imp id fun z => z.imp (fun ⟨g, hg, hl, hs⟩ => ⟨g, hg, .inl hl, ?_⟩) id
    unfold Lets at hs ⊢
    rw [hS' g (fun e => hcL (e ▸ hl))]; exact hs
  · exact H.plain i a (by rw [touchAt_of hx']; exact hxa) hS
  · rcases hg with hg | rfl
    · have hne : g ≠ c := fun e => hcM (e ▸ hg)
      rw [hS' g hne] at hS
      exact (H.wrote i a (by rw [touchAt_of hx']; exact hxa) hw g hg hS).app u
    · obtain ⟨hm, hns⟩ := hSS _ hS
      rcases H.known i a (by rw [touchAt_of hx']; exact hxa) hm with hk | ⟨_, _, _, ⟨p, _⟩ | ⟨p, _⟩⟩ | ⟨p, _⟩
      · exact ⟨t.size + 1, _, e1, rfl, .inr ((hk.hb_new (Nat.le_refl _) e0 rfl).trans edge)⟩
      · rw [p] at hw; cases hw
      · exact absurd p hns
      · exact absurd p hns
/-- NOTHING HAS BEEN DONE. -/
theorem hold_nil : HoldB (fun _ _ => False) (fun _ => False) (fun g => g = 0) (fun _ => False) 0 0 #[] :=
  ⟨past_nil.clean, fun i a ha => by simp [touchAt, Trace.act?] at ha, fun i a ha => by simp [touchAt, Trace.act?] at ha, fun i a ha => by simp [touchAt, Trace.act?] at ha, fun g _ => rfl, by simp⟩
/-- a block of which the trace knows nothing is shunned from now on -/
theorem PastB.shun {Shun' : Loc → Prop} (H : PastB Still Shun Mem Loose B K t) (h1 : ∀ l, Shun l → Shun' l) (h2 : ∀ l, Shun' l → Shun l ∨ ¬ l.low B) : PastB Still Shun' Mem Loose B K t := by
  refine ⟨H.clean, fun i a ha hm => (H.known i a ha hm).imp id fun z => z.imp (fun ⟨g, hg, hl, hs⟩ => ⟨g, hg, hl, hs.imp id fun ⟨p, q⟩ => ⟨h1 _ p, q⟩⟩) fun ⟨p, q⟩ => ⟨h1 _ p, q⟩, fun i a ha hS => ?_, H.wrote, H.hears, H.seen⟩
  rcases h2 _ hS with hS | hn
  · exact H.plain i a ha hS
  · obtain ⟨x, hx, hxa⟩ := touch_of ha
    have hl := H.seen x (Array.mem_of_getElem? hx)
    refine absurd ?_ hn
    unfold MemAct.touch? at hxa
    split at hxa
    · rename_i e he
      injection hxa with hxa
      subst hxa
      rw [he] at hl
      exact hl
    · rename_i a' he
      injection hxa with hxa
      subst hxa
      rw [he] at hl
      exact hl
    · rename_i a' he
      injection hxa with hxa
      subst hxa
      rw [he] at hl
      exact hl
    · cases hxa
/-- THE HOLDER ACQUIRES WHAT LEAVERS RELEASED: nobody of D is loose any more. -/
theorem HoldB.acquire {a : Addr} {D : Nat → Prop} (H : HoldB Still Shun Mem Loose B h t) (hd : Deaf t h = 0) (hB : a.block < B) (hr : ∀ g, D g → ∃ r, Go.ConcN.RelBy a t g r) (hnr : NoRelease a t) (fn : FuncId) (pos : String) :
    HoldB Still Shun Mem (fun g => Loose g ∧ ¬ D g) B h (t ++ #[{ g := h, fn, pos, act := .mark (.acquire a) }]) := by
  generalize hu : (#[{ g := h, fn := fn, pos := pos, act := .mark (.acquire a) }] : Trace) = u
  have hn : ∀ op ∈ u, op.act.touch? = none := by
    intro op hop
    subst hu
    simp only [List.mem_toArray, List.mem_cons, List.not_mem_nil, or_false] at hop
    subst hop; rfl
  have hg : ∀ op ∈ u, op.g = h := by
    intro op hop
    subst hu
    simp only [List.mem_toArray, List.mem_cons, List.not_mem_nil, or_false] at hop
    subst hop; rfl
  have hq : ∀ g, ∀ op ∈ u, ∀ d, deafStep g d op = d := by
    intro g op hop d
    subst hu
    simp only [List.mem_toArray, List.mem_cons, List.not_mem_nil, or_false] at hop
    subst hop; rfl
  have e0 : (t ++ u)[t.size]? = some { g := h, fn := fn, pos := pos, act := .mark (.acquire a) } := by subst hu; simp
  have H2 := PastB.appMute (K' := Knows (t ++ u) h) H (fun i => Knows.app u) hg hn (fun _ => Deaf_quiet (hq h)) (fun op hop => by
    subst hu
    simp only [List.mem_toArray, List.mem_cons, List.not_mem_nil, or_false] at hop
    subst hop; exact hB)
  refine ⟨H2.clean, fun i x hx hm => ?_, H2.plain, H2.wrote, H2.hears, H2.seen⟩
  rcases H2.known i x hx hm with hk | ⟨g, hgi, hL, hS⟩ | hs
  · exact .inl hk
  · by_cases hD : D g ∧ (t ++ u).counts i
    · obtain ⟨hD, hcnt⟩ := hD
      obtain ⟨r, hr⟩ := hr g hD
      have hrl := lt_of_act? hr.act
      have hi : i < t.size := by
        obtain ⟨y, hy, hya⟩ := touch_of hx
        rcases getElem?_append_cases hy with ⟨hi, _⟩ | ⟨_, hyu⟩
        · exact hi
        · rw [hn y hyu] at hya; cases hya
      have hgi' : t.g? i = some g := by rw [← g?_old (u := u) hi]; exact hgi
      have hle : i ≤ r := Nat.le_of_not_lt fun hlt => hr.after i hlt hgi' ((counts_old hi).1 hcnt)
      have edge : HappensBefore (t ++ u) r t.size := .single (.inr ⟨.marked hrl (.inr (by rw [act?_old hrl]; exact hr.act)) (act?_of e0) (fun k hk1 hk2 => by rw [act?_old hk2]; exact hnr k), (heard_old hrl).2 hr.heard, ⟨h, g?_of e0, by rw [deaf_old (Nat.le_refl _)]; exact hd⟩⟩)
      refine .inl ⟨t.size, _, e0, rfl, .inr ?_⟩
      rcases Nat.lt_or_ge i r with hlt | hge
      · exact .trans (.single (.inl ⟨hlt, g, hgi, by rw [g?_old hrl]; exact hr.g⟩)) edge
      · obtain rfl : i = r := by omega
        exact edge
    · by_cases hD2 : D g
      · have hnc : ¬ (t ++ u).counts i := fun c => hD ⟨hD2, c⟩
        rcases hS with ⟨hw, hk, hS⟩ | ⟨hS, hk⟩
        · exact absurd ⟨x, hx, hm, .inl (by rw [hk]; simp)⟩ hnc
        · exact .inr (.inr ⟨hS, hk, hnc⟩)
      · exact .inr (.inl ⟨g, hgi, ⟨hL, hD2⟩, hS⟩)
  · exact .inr (.inr hs)
/-- AT THE END: goroutine 0 holds and nobody is loose. -/
theorem HoldB.toPast (H : HoldB Still Shun Mem Loose B 0 t) (h0 : Mem 0) (hL : ∀ g, ¬ Loose g) : Past Shun B t := by
  refine ⟨H.clean, fun i a ha hm => ?_, fun i g hg hne ⟨x, hx, hm, hc⟩ => ?_, H.hears 0 h0, H.seen⟩
  · rcases H.known i a ha hm with hk | ⟨g, _, hl, _⟩ | ⟨p, q, _⟩
    · exact .inl hk
    · exact absurd hl (hL g)
    · exact .inr ⟨p, q⟩
  · rcases H.known i x hx hm with ⟨q, z, hq, hz, hb⟩ | ⟨g, _, hl, _⟩ | ⟨_, _, hn⟩
    · rcases hb with rfl | hb
      · rw [g?_of hq, hz] at hg
        exact absurd (Option.some.inj hg).symm hne
      · exact ⟨q, by rw [g?_of hq, hz], hb⟩
    · exact absurd hl (hL g)
    · exact absurd ⟨x, hx, hm, hc⟩ hn
end
end Go.Proofs.Ytaiinkeendejdaa
namespace Go.Proofs.Ytaiinkeendejdaa
open Go.Conc
/-- THE RUN FROM HERE ENDS WELL -/
def Ends (P : Program) (Post : Value → World → Prop) (m : Machine) (t : Trace) : Prop :=
  ∃ N last o w t', runNT P (N + 1) m t = (.ended o w, t') ∧ runN P N m = .next last ∧ step P last = .ended o w ∧ Go.Conc.Good P Post last o w t'
section
variable {P : Program} {Post : Value → World → Prop} {m m' : Machine} {t : Trace} {ops : Array MemOp}
theorem Ends.next (hs : stepT P m = (.next m', ops)) (h : Ends P Post m' (t ++ ops)) : Ends P Post m t := by
  obtain ⟨N, last, o, w, t', h1, h2, h3, h4⟩ := h
  exact ⟨N + 1, last, o, w, t', by rw [runNT_succ_next hs]; exact h1, by rw [runN_succ_next hs]; exact h2, h3, h4⟩
theorem Ends.done {o : Outcome} {w : World} (hs : stepT P m = (.ended o w, ops)) (h : Go.Conc.Good P Post m o w (t ++ ops)) : Ends P Post m t :=
  ⟨0, m, o, w, t ++ ops, by simp [runNT, hs], rfl, by simp [step, hs], h⟩
end
end Go.Proofs.Ytaiinkeendejdaa
namespace Go.Proofs.Ytaiinkeendejdaa
open Go.Conc
open Go.ConcN (WgLive)
open Go.ConcR (KK wgBlock WgAt stA smA rd wr mk DC0)
section
variable (P : Program) (ty : TypeId) (Wg : Nat)
/-- what a leaver suffers: the group's block stays one -/
def RL : World → World → Prop := fun _ w₁ => WgLive ty Wg w₁
/-- within m own steps that touch nothing it comes to a stop -/
def GL (Stop : Goroutine → Prop) (m : Nat) (g : Goroutine) : Prop := ∀ w, Goes P false (RL ty Wg) DC0 (fun g _ => Stop g) m g w
def LD4 (g : Goroutine) : Prop := g.status = .running ∧ mayWake P g = true ∧ ∀ w, WgAt ty Wg w 0 0 → ∃ g' q, stepG P false g w = .go g' (w.setCell (smA Wg) (.int .u32 1)) (semEvents (smA Wg)) ∧ QuitsD P q 1 g'
def LD3 (g : Goroutine) : Prop := g.status = .running ∧ ∀ w, WgAt ty Wg w 1 0 → ∃ g' m, stepG P false g w = .go g' (w.setCell (stA Wg) (.int .u64 0)) #[wr (stA Wg)] ∧ GL P ty Wg (LD4 P ty Wg) m g'
def LD2 (g : Goroutine) : Prop := g.status = .running ∧ ∀ w, WgAt ty Wg w 1 0 → ∃ g' m, stepG P false g w = .go g' w #[rd (stA Wg)] ∧ GL P ty Wg (LD3 P ty Wg) m g'
/-- the atomic add of -1 -/
def LD1 (g : Goroutine) : Prop := g.status = .running ∧ ∀ w (v wt : Nat), wt ≤ 1 → v < 2147483647 → WgAt ty Wg w ((v + 1) * KK + wt) 0 →
  ∃ g', stepG P false g w = .go g' (w.setCell (stA Wg) (.int .u64 (v * KK + wt))) #[rd (stA Wg), wr (stA Wg)] ∧ ((v = 0 ∧ wt = 1) → ∃ m, GL P ty Wg (LD2 P ty Wg) m g') ∧ (¬ (v = 0 ∧ wt = 1) → ∃ q, QuitsD P q 1 g')
def LK1 (g : Goroutine) : Prop := g.status = .running ∧ ∃ g' m, (∀ w, WgLive ty Wg w → stepG P false g w = .go g' w #[mk .disable]) ∧ GL P ty Wg (LD1 P ty Wg) m g'
def LR0 (g : Goroutine) : Prop := g.status = .running ∧ ∃ g' m, (∀ w, WgLive ty Wg w → stepG P false g w = .go g' w #[mk (.releaseMerge (stA Wg))]) ∧ GL P ty Wg (LK1 P ty Wg) m g'
/-- a leaver's situation: stage, fuel, deafness -/
inductive LSit : Nat → Nat → Nat → Goroutine → Prop
  | r0 {m g} : GL P ty Wg (LR0 P ty Wg) m g → LSit 7 m 0 g
  | k1 {m g} : GL P ty Wg (LK1 P ty Wg) m g → LSit 6 m 0 g
  | d1 {m g} : GL P ty Wg (LD1 P ty Wg) m g → LSit 5 m 1 g
  | d2 {m g} : GL P ty Wg (LD2 P ty Wg) m g → LSit 4 m 1 g
  | d3 {m g} : GL P ty Wg (LD3 P ty Wg) m g → LSit 3 m 1 g
  | d4 {m g} : GL P ty Wg (LD4 P ty Wg) m g → LSit 2 m 1 g
  | quit {q d g} : QuitsD P q d g → LSit 1 q d g
end
/-- what a leaver's step lists: marks that nobody minds, touches of the group's cells that nobody hears, the release -/
def LEv (Wg : Nat) (dd : Nat) (es : Array Event) : Prop :=
  es = #[mk (.releaseMerge (stA Wg))] ∨ ((∀ e ∈ es, Go.ConcR.Bk Wg e) ∧ ∀ j e, es[j]? = some e → (MemAct.ofEvent e).touch? = none ∨ 0 < deafBehind dd (es.extract 0 j))
/-- one step of a leaver's -/
structure LStep (P : Program) (ty : TypeId) (Wg s m dd : Nat) (g : Goroutine) (w : World) (g' : Goroutine) (w' : World) (es : Array Event) (s' m' dd' : Nat) : Prop where
  go : stepG P false g w = .go g' w' es
  sit : LSit P ty Wg s' m' dd' g'
  less : s' < s ∨ (s' = s ∧ m' + 1 = m)
  deaf : dd' = deafBehind dd es
  aside : Aside Wg w w'
  evs : LEv Wg dd es
  rel : s' ≤ 6 → s = 7 → es = #[mk (.releaseMerge (stA Wg))]
  rel2 : es = #[mk (.releaseMerge (stA Wg))] → dd = 0
  sem : (s = 2 → s' = 2) → w'.cell? (smA Wg) = w.cell? (smA Wg)
section
variable {P : Program} {ty : TypeId} {Wg : Nat}
theorem GL.cases {Stop : Goroutine → Prop} {m : Nat} {g : Goroutine} (h : GL P ty Wg Stop m g) {w : World} (hw : WgLive ty Wg w) : Stop g ∨ ∃ m' g', m = m' + 1 ∧ stepG P false g w = .go g' w #[] ∧ GL P ty Wg Stop m' g' := by
  rcases Goes.cases (h w) with hs | ⟨m', rfl, hs⟩
  · exact .inl (hs w hw)
  · obtain ⟨g', w', es, h1, ⟨rfl, rfl⟩, h3⟩ := hs w hw
    refine .inr ⟨m', g', rfl, h1, fun u => ?_⟩
    cases m' with
    | zero => exact fun w₁ h₁ => h3 w₁ h₁
    | succ n => exact h3.imp (fun h w₁ h₁ => h w₁ h₁) fun ⟨a, b⟩ => ⟨a, fun w₁ h₁ => b w₁ h₁⟩
theorem GL.running {Stop : Goroutine → Prop} (hst : ∀ g, Stop g → g.status = .running) {m : Nat} {g : Goroutine} (h : GL P ty Wg Stop m g) {w : World} (hw : WgLive ty Wg w) : g.status = .running := by
  cases m with
  | zero => exact hst g (h w w hw)
  | succ m => exact (h w).elim (fun h => hst g (h w hw)) (·.1)
theorem LSit.status {s m d : Nat} {g : Goroutine} (h : LSit P ty Wg s m d g) {w : World} (hw : WgLive ty Wg w) : g.status = .running ∨ g.status = .finished := by
  cases h with
  | r0 h => exact .inl (h.running (fun _ x => x.1) hw)
  | k1 h => exact .inl (h.running (fun _ x => x.1) hw)
  | d1 h => exact .inl (h.running (fun _ x => x.1) hw)
  | d2 h => exact .inl (h.running (fun _ x => x.1) hw)
  | d3 h => exact .inl (h.running (fun _ x => x.1) hw)
  | d4 h => exact .inl (h.running (fun _ x => x.1) hw)
  | quit h => exact h.status
theorem LSit.deaf1 {s m d : Nat} {g : Goroutine} (h : LSit P ty Wg s m d g) (hs : 1 < s) : d = if s ≤ 5 then 1 else 0 := by
  cases h <;> first | rfl | omega
theorem lstep_still {s m m' dd : Nat} {g g' : Goroutine} {w : World} (hgo : stepG P false g w = .go g' w #[]) (hsit : LSit P ty Wg s m' dd g') (hm : m = m' + 1) : LStep P ty Wg s m dd g w g' w #[] s m' dd :=
  ⟨hgo, hsit, .inr ⟨rfl, hm.symm⟩, rfl, Aside.refl _ _, .inr ⟨by simp, by simp⟩, fun h1 h2 => by omega, fun h => (by have := congrArg Array.size h; simp at this), fun _ => rfl⟩
theorem sem_st (w : World) (Wg : Nat) (v : Value) : (w.setCell (stA Wg) v).cell? (smA Wg) = w.cell? (smA Wg) := by
  unfold World.cell? World.setCell
  simp only [Array.getElem?_modify, stA, smA, if_true]
  cases e : w.heap[Wg]? with
  | none => rfl
  | some o => cases o <;> simp
/-- a step while nobody has the last word: V are counted, wt (0 or 1) waits; the leaver is not on the last one's way -/
theorem leave_step {s m dd V wt : Nat} {g : Goroutine} {w : World} (h : LSit P ty Wg s m dd g) (hrun : g.status = .running) (hs : s = 7 ∨ s = 6 ∨ s = 5 ∨ s = 1) (hwt : wt ≤ 1) (hwg : WgAt ty Wg w (((V : Nat) : Int) * KK + wt) 0) (hV : 5 ≤ s → 1 ≤ V) (hVb : V < 2147483648) :
    ∃ g' w' es s' m' dd', LStep P ty Wg s m dd g w g' w' es s' m' dd' ∧ WgAt ty Wg w' (((if 5 ≤ s ∧ s' < 5 then V - 1 else V : Nat) : Int) * KK + wt) 0 ∧
      (s' = 7 ∨ s' = 6 ∨ s' = 5 ∨ s' = 1 ∨ (s = 5 ∧ s' = 4 ∧ V = 1 ∧ wt = 1)) ∧ (s = 5 → s' < 5 → V = 1 → wt = 1 → s' = 4) ∧ (5 ≤ s → s' < 5 → s = 5) := by
  have hl : WgLive ty Wg w := ⟨_, _, hwg⟩
  cases h with
  | r0 h =>
    rcases h.cases hl with ⟨_, g', m', hst, hk⟩ | ⟨m', g', rfl, hst, hk⟩
    · refine ⟨g', w, _, 6, m', 0, ⟨hst w hl, .k1 hk, .inl (by omega), rfl, Aside.refl _ _, .inl rfl, fun _ _ => rfl, fun _ => rfl, fun _ => rfl⟩, by rw [if_neg (by omega)]; exact hwg, .inr (.inl rfl), fun h => by omega, fun _ h => by omega⟩
    · exact ⟨g', w, _, 7, m', 0, lstep_still hst (.r0 hk) rfl, by rw [if_neg (by omega)]; exact hwg, .inl rfl, fun h => by omega, fun _ h => by omega⟩
  | k1 h =>
    rcases h.cases hl with ⟨_, g', m', hst, hk⟩ | ⟨m', g', rfl, hst, hk⟩
    · refine ⟨g', w, _, 5, m', 1, ⟨hst w hl, .d1 hk, .inl (by omega), rfl, Aside.refl _ _, .inr ⟨fun e he => ?_, fun j e he => .inl ?_⟩, fun _ h => by omega, fun h => ?_, fun _ => rfl⟩, by rw [if_neg (by omega)]; exact hwg, .inr (.inr (.inl rfl)), fun h => by omega, fun _ h => by omega⟩
      · simp only [List.mem_toArray, List.mem_singleton] at he; subst he; exact .inl rfl
      · have := Array.mem_of_getElem? he
        simp only [List.mem_toArray, List.mem_singleton] at this; subst this; rfl
      · have := congrArg (·[0]?) h
        simp [mk] at this
    · exact ⟨g', w, _, 6, m', 0, lstep_still hst (.k1 hk) rfl, by rw [if_neg (by omega)]; exact hwg, .inr (.inl rfl), fun h => by omega, fun _ h => by omega⟩
  | d1 h =>
    rcases h.cases hl with ⟨_, hall⟩ | ⟨m', g', rfl, hst, hk⟩
    · obtain ⟨v, rfl⟩ : ∃ v, V = v + 1 := ⟨V - 1, by have := hV (by omega); omega⟩
      have hw1 : WgAt ty Wg w (((v : Nat) + 1) * KK + (wt : Int)) 0 := by simpa using hwg
      obtain ⟨g', hgo, h1, h2⟩ := hall w v wt hwt (by omega) hw1
      have ha := aside_setCell w (stA Wg) (.int .u64 ((v : Nat) * KK + (wt : Int)))
      have hnew : WgAt ty Wg (w.setCell (stA Wg) (.int .u64 ((v : Nat) * KK + (wt : Int)))) (((v : Nat) : Int) * KK + wt) 0 := hw1.setSt _
      have hev : LEv Wg 1 #[rd (stA Wg), wr (stA Wg)] := .inr ⟨fun e he => by
          simp only [List.mem_toArray, List.mem_cons, List.not_mem_nil, or_false] at he
          rcases he with rfl | rfl <;> exact Go.ConcN.bk_cell _ _ rfl, fun j e he => by
          match j, he with
          | 0, _ => exact .inr (by simp [deafBehind])
          | 1, _ => exact .inr (by simp [deafBehind, rd])
          | j + 2, he => simp at he⟩
      have hsem : (w.setCell (stA Wg) (.int .u64 ((v : Nat) * KK + (wt : Int)))).cell? (smA Wg) = w.cell? (smA Wg) := sem_st w Wg _
      have hrel : (#[rd (stA Wg), wr (stA Wg)] : Array Event) = #[mk (.releaseMerge (stA Wg))] → (1 : Nat) = 0 := fun h => by have := congrArg Array.size h; simp at this
      by_cases hlast : v = 0 ∧ wt = 1
      · obtain ⟨m', hk⟩ := h1 hlast
        exact ⟨g', _, _, 4, m', 1, ⟨hgo, .d2 hk, .inl (by omega), rfl, ha, hev, fun _ h => by omega, hrel, fun _ => hsem⟩, by rw [if_pos (by omega)]; simpa using hnew, .inr (.inr (.inr (.inr ⟨rfl, rfl, by omega, hlast.2⟩))), fun _ _ _ _ => rfl, fun _ _ => rfl⟩
      · obtain ⟨q, hk⟩ := h2 hlast
        exact ⟨g', _, _, 1, q, 1, ⟨hgo, .quit hk, .inl (by omega), rfl, ha, hev, fun _ h => by omega, hrel, fun _ => hsem⟩, by rw [if_pos (by omega)]; simpa using hnew, .inr (.inr (.inr (.inl rfl))), fun _ _ h3 h4 => absurd ⟨by omega, h4⟩ hlast, fun _ _ => rfl⟩
    · exact ⟨g', w, _, 5, m', 1, lstep_still hst (.d1 hk) rfl, by rw [if_neg (by omega)]; exact hwg, .inr (.inr (.inl rfl)), fun _ h => by omega, fun _ h => by omega⟩
  | quit h =>
    cases m with
    | zero => rw [h.1] at hrun; cases hrun
    | succ q =>
      rcases h with ⟨hf, _⟩ | ⟨_, g', es, hmute, hstep, hq⟩
      · rw [hf] at hrun; cases hrun
      · refine ⟨g', w, es, 1, q, _, ⟨hstep w, .quit hq, .inr ⟨rfl, rfl⟩, rfl, Aside.refl _ _, .inr ⟨fun e he => Go.ConcR.bk_of_mute (hmute e he), fun j e he => .inl (touch_mute (hmute e (Array.mem_of_getElem? he)))⟩, fun _ h => by omega, fun h => ?_, fun _ => rfl⟩, by rw [if_neg (by omega)]; exact hwg, .inr (.inr (.inr (.inl rfl))), fun h => by omega, fun h => by omega⟩
        subst h
        have := hmute (mk (.releaseMerge (stA Wg))) (by simp)
        simp [mk, Event.mute] at this
  | _ => exact absurd hs (by omega)
end
end Go.Proofs.Ytaiinkeendejdaa
namespace Go.Proofs.Ytaiinkeendejdaa
open Go.Conc
open Go.ConcN (sumTo upd sumTo_upd upd_ne upd_same WgLive)
open Go.ConcR (KK wgBlock WgAt stA smA rd wr mk DC0)
/-- a bystander: it only leaves · it has a seat, and may read the cells of kn (of blocks below B) on its way there · it leaves group Wg: first (stage 8) it is on its way to its seat, where the bell c (case kk) has rung; then it says Done -/
inductive Role where
  | mute
  | seat (s : Seat) (kn : List (Addr × Value)) (B : Nat)
  | leave (Wg : Nat) (s : Seat) (kn : List (Addr × Value)) (B c kk : Nat) (z : Value)
def Role.kn : Role → List (Addr × Value)
  | .mute => []
  | .seat _ kn _ => kn
  | .leave _ _ kn .. => kn
def Role.bd : Role → Nat
  | .mute => 0
  | .seat _ _ B => B
  | .leave _ _ _ B .. => B
/-- its seat, if it may sit down there yet -/
def Role.at : Role → Nat → Option Seat
  | .mute, _ => none
  | .seat s _ _, _ => some s
  | .leave _ s .., st => if st = 8 then some s else none
def Kn (kn : List (Addr × Value)) (w : World) : Prop := ∀ p ∈ kn, w.cell? p.1 = some p.2
def Sn (kn : List (Addr × Value)) (l : Loc) : Prop := ∃ p ∈ kn, l = .cell p.1
/-- the band: how many; what each is; the frosted cells; the groups' blocks; the bells that have rung; the groups that are counted: members lo ≤ i < hi, p more; the group that somebody waits for; does the holder hear? old: the world at the start, of oldN blocks -/
structure Bd where
  n : Nat
  role : Nat → Role
  F : Nat → Nat
  shun : Nat → Bool
  rung : Nat → Bool
  wg : Nat → Option (Nat × Nat × Nat)
  wait : Option Nat
  ear : Bool
  oldN : Nat
  old : World
def OpenS (s : Nat) : Prop := s = 7 ∨ s = 6 ∨ s = 5 ∨ s = 1
/-- goroutine i, of deafness d, is what its role says; sm: stage, fuel -/
def Fit (P : Program) (ty : TypeId) (i d : Nat) (sm : Nat × Nat) (g : Goroutine) : Role → Prop
  | .mute => 0 < i ∧ sm.1 = 0 ∧ QuitsD P sm.2 d g
  | .seat s kn B => sm.1 = 9 ∧ Sits P (i == 0) (Kn kn) (Sn kn) B s sm.2 g
  | .leave Wg s kn B c kk z => 0 < i ∧ ((sm.1 = 8 ∧ g.status = .running ∧ Sits P false (Kn kn) (Sn kn) B s sm.2 g ∧ s.cases[kk]? = some (rcase c z) ∧ ∀ g₂, s.home g₂ → ∃ m, LSit P ty Wg 7 m 0 (Go.Conc.served g₂ (commResult s.cases s.shape kk z false))) ∨
      (sm.1 ≤ 7 ∧ LSit P ty Wg sm.1 sm.2 d g))
def Shu (b : Bd) (l : Loc) : Prop := ∃ a, l = .cell a ∧ b.shun a.block = true
def Stil (b : Bd) (g : Nat) (l : Loc) : Prop := Sn (b.role g).kn l
def Memb (b : Bd) (h : Nat) (q : Nat → Nat × Nat) (g : Nat) : Prop := (g = h ∧ b.ear = true) ∨ (((b.role g).at (q g).1).isSome = true)
def Loos (b : Bd) (g : Nat) : Prop := b.role g ≠ .mute
/-- how many of lo ≤ i < hi are counted -/
def cntG (lo hi : Nat) (q : Nat → Nat × Nat) : Nat := sumTo hi fun i => if lo ≤ i ∧ 5 ≤ (q i).1 then 1 else 0
/-- not the last one's way -/
def okS (s : Nat) : Prop := s ≠ 4 ∧ s ≠ 3 ∧ s ≠ 2
/-- what a group's block holds -/
def GSt (ty : TypeId) (wait : Option Nat) (Wg lo hi p : Nat) (q : Nat → Nat × Nat) (w : World) : Prop :=
  (wait ≠ some Wg ∧ WgAt ty Wg w (((cntG lo hi q + p : Nat) : Int) * KK) 0 ∧ ∀ i, lo ≤ i → i < hi → okS (q i).1) ∨
  (wait = some Wg ∧ p = 0 ∧
    ((1 ≤ cntG lo hi q ∧ WgAt ty Wg w (((cntG lo hi q : Nat) : Int) * KK + 1) 0 ∧ ∀ i, lo ≤ i → i < hi → okS (q i).1) ∨
     (∃ L, lo ≤ L ∧ L < hi ∧ (∀ i, lo ≤ i → i < hi → i ≠ L → (q i).1 ≤ 1) ∧ (((q L).1 = 4 ∧ WgAt ty Wg w 1 0) ∨ ((q L).1 = 3 ∧ WgAt ty Wg w 1 0) ∨ ((q L).1 = 2 ∧ WgAt ty Wg w 0 0))) ∨
     (WgAt ty Wg w 0 1 ∧ ∀ i, lo ≤ i → i < hi → (q i).1 ≤ 1)))
def NoRel (T : Trace) : Prop := ∀ op ∈ T, ∀ a, op.act ≠ .mark (.release a)
/-- all but the blocks of Z stands (and the draws) -/
structure Off (Z : Nat → Bool) (w w' : World) : Prop where
  heap : ∀ b, Z b = false → w'.heap[b]? = w.heap[b]?
  size : w'.heap.size = w.heap.size
  tape : w'.tape = w.tape
  os : w'.os = w.os
  output : w'.output = w.output
  kind : ∀ b, Z b = true → kindO w'.heap[b]? = kindO w.heap[b]?
/-- what stood at the start and is shunned stands -/
structure OldOk (b : Bd) (w : World) : Prop where
  le : b.oldN ≤ w.heap.size
  sys : w.os = b.old.os ∧ w.output = b.old.output
  same : ∀ x, x < b.oldN → b.shun x = true → w.heap[x]? = b.old.heap[x]?
  wg : ∀ Wg, b.wg Wg ≠ none → b.oldN ≤ Wg
  role : ∀ i Wg s kn B c kk z, b.role i = .leave Wg s kn B c kk z → b.oldN ≤ Wg
section
variable (P : Program) (ty : TypeId)
/-- ████ THE FRAME. Sp: the goroutines of whose records it does not speak (the holder h; whoever else). ████ -/
structure Stands (b : Bd) (h : Nat) (Sp : Nat → Prop) (T : Trace) (gs : Array Goroutine) (w : World) (q : Nat → Nat × Nat) : Prop where
  n : gs.size = b.n
  hr : b.role h = .mute
  hq : (q h).1 = 9
  deaf : b.ear = false → Deaf T h = 1
  fit : ∀ i g, ¬ Sp i → gs[i]? = some g → Fit P ty i (Deaf T i) (q i) g (b.role i)
  keep : ∀ i, ∀ p ∈ (b.role i).kn, w.cell? p.1 = some p.2 ∧ iceF b.F p.1 = true ∧ p.1.block < (b.role i).bd
  bd : ∀ i, (b.role i).bd ≤ w.heap.size
  warm : ∀ x, b.F x ≠ 0 → b.shun x = false ∧ ∃ c t, w.heap[x]? = some (.cells c t (0, 0))
  shunC : (∀ x, b.shun x = true → x < w.heap.size) ∧ ∀ i s, (b.role i).at (q i).1 = some s → ∀ c, s.has c → b.shun c = false
  wf : ∀ i s, (b.role i).at (q i).1 = some s → s.Wf
  chans : ∀ i s, (b.role i).at (q i).1 = some s → ∀ c, s.has c → ∃ k, w.heap[c]? = some (.chan 0 #[] (b.rung c) k k false)
  dumb : ∀ i s kn B, b.role i = .seat s kn B → ∀ c, s.has c → b.rung c = false
  bell : ∀ i Wg s kn B c kk z, b.role i = .leave Wg s kn B c kk z → (q i).1 = 8 → b.rung c = true ∧ ∀ c', s.has c' → c' ≠ c → b.rung c' = false
  above : ∀ j, b.n ≤ j → Deaf T j = 0 ∧ b.role j = .mute
  groups : ∀ Wg lo hi p, b.wg Wg = some (lo, hi, p) → GSt ty b.wait Wg lo hi p q w ∧ b.shun Wg = true ∧ hi - lo + p < 1000000 ∧ hi ≤ b.n
  apart : ∀ Wg lo hi p Wg' lo' hi' p', b.wg Wg = some (lo, hi, p) → b.wg Wg' = some (lo', hi', p') → ∀ i, lo ≤ i → i < hi → lo' ≤ i → i < hi' → Wg = Wg'
  member : ∀ i Wg s kn B c kk z, b.role i = .leave Wg s kn B c kk z → b.shun Wg = true ∧ WgLive ty Wg w ∧ (¬ Sp i → ∃ lo hi p, b.wg Wg = some (lo, hi, p) ∧ lo ≤ i ∧ i < hi)
  even : Even (ZT b.shun w.heap.size) w
  past : PastB (Stil b) (Shu b) (Memb b h q) (Loos b) w.heap.size (Knows T h) T
  norel : NoRel T
  rel : ∀ i Wg s kn B c kk z, b.role i = .leave Wg s kn B c kk z → (q i).1 ≤ 6 → ∃ r, Go.ConcN.RelBy (stA Wg) T i r
  old : OldOk b w
end
section
variable {P : Program} {ty : TypeId} {b : Bd} {h : Nat} {Sp : Nat → Prop} {T : Trace} {gs : Array Goroutine} {w w' : World} {q : Nat → Nat × Nat}
/-- the world turns off what stood -/
theorem OldOk.turn {b : Bd} {w w' : World} (h : OldOk b w) (hs : w.heap.size ≤ w'.heap.size) (hy : w'.os = w.os ∧ w'.output = w.output) (hx : ∀ x, x < b.oldN → b.shun x = true → w'.heap[x]? = w.heap[x]?) : OldOk b w' :=
  ⟨Nat.le_trans h.le hs, ⟨hy.1.trans h.sys.1, hy.2.trans h.sys.2⟩, fun x h1 h2 => (hx x h1 h2).trans (h.same x h1 h2), h.wg, h.role⟩
theorem OldOk.off {b : Bd} {w w' : World} (h : OldOk b w) {Z : Nat → Bool} (o : Off Z w w') (hx : ∀ x, x < b.oldN → b.shun x = true → w'.heap[x]? = w.heap[x]?) : OldOk b w' := h.turn (by rw [o.size]; exact Nat.le_refl _) ⟨o.os, o.output⟩ hx
theorem Off.refl (Z : Nat → Bool) (w : World) : Off Z w w := ⟨fun _ _ => rfl, rfl, rfl, rfl, rfl, fun _ _ => rfl⟩
theorem Off.at (Z : Nat → Bool) (w : World) (d : Nat) : Off Z w (w.at d) := ⟨fun _ _ => rfl, rfl, rfl, rfl, rfl, fun _ _ => rfl⟩
theorem Off.trans {Z : Nat → Bool} {a b c : World} (h : Off Z a b) (k : Off Z b c) : Off Z a c := ⟨fun x hx => (k.heap x hx).trans (h.heap x hx), k.size.trans h.size, k.tape.trans h.tape, k.os.trans h.os, k.output.trans h.output, fun x hx => (k.kind x hx).trans (h.kind x hx)⟩
theorem kind_setCell (w : World) (a : Addr) (x : Value) (b : Nat) : kindO (w.setCell a x).heap[b]? = kindO w.heap[b]? := by
  unfold World.setCell
  simp only [Array.getElem?_modify]
  split
  · cases e : w.heap[b]? with
    | none => rfl
    | some o => cases o <;> rfl
  · rfl
theorem kind_live {ty : TypeId} {Wg : Nat} {w : World} (h : WgLive ty Wg w) : kindO w.heap[Wg]? = some (some ty) := by
  obtain ⟨st, sm, h⟩ := h
  unfold WgAt at h
  rw [h]
  rfl
theorem Off.aside {Z : Nat → Bool} {Wg : Nat} {w w' : World} (h : Aside Wg w w') (hz : Z Wg = true) (hk : kindO w'.heap[Wg]? = kindO w.heap[Wg]?) : Off Z w w' := ⟨fun x hx => h.block x fun e => (by rw [e, hz] at hx; cases hx), h.size, h.tape, h.os, h.output, fun x _ => by
  by_cases e : x = Wg
  · rw [e]; exact hk
  · rw [h.block x e]⟩
theorem Off.sim {Z : Nat → Bool} {F : Nat → Nat} {v w w' : World} (h : Off Z w w') (s : Sim Z F v w) : Sim Z F v w' :=
  ⟨s.size.trans h.size.symm, fun b hb hf => (s.heap b hb hf).trans (h.heap b hb).symm, fun b hf => by
    obtain ⟨h0, c, t, h1, h2⟩ := s.ice b hf
    exact ⟨h0, c, t, h1, by rw [h.heap b h0]; exact h2⟩, s.os.trans h.os.symm, s.output.trans h.output.symm, fun b hb => by rw [h.size]; exact s.low b hb, fun b hb => by
    rcases s.dead b hb with ⟨t, h1, h2⟩ | ⟨h1, h2⟩
    · exact .inl ⟨t, h1, (h.kind b hb).trans h2⟩
    · exact .inr ⟨h1, (h.kind b hb).trans h2⟩⟩
theorem Off.cell {Z : Nat → Bool} (h : Off Z w w') {a : Addr} (hz : Z a.block = false) : w'.cell? a = w.cell? a := by
  unfold World.cell?
  rw [h.heap _ hz]
theorem zt_off {Z : Nat → Bool} {n x : Nat} (h : ZT Z n x = false) : Z x = false := by
  cases e : Z x with
  | false => rfl
  | true => rw [ZT_of n x e] at h; cases h
theorem Off.even {Z : Nat → Bool} (h : Off Z w w') (he : Even (ZT Z w.heap.size) w) : Even (ZT Z w'.heap.size) w' := by
  rw [h.size]
  exact fun x o hx e => he x o hx (by rw [← h.heap x (zt_off hx)]; exact e)
theorem ice_pos {F : Nat → Nat} {a : Addr} (h : iceF F a = true) : F a.block ≠ 0 := by
  have : a.off < F a.block := by simpa [iceF] using h
  omega
theorem Role.at_seat {r : Role} {st : Nat} {s : Seat} (h : r.at st = some s) : (∃ kn B, r = .seat s kn B) ∨ ∃ Wg kn B c kk z, r = .leave Wg s kn B c kk z ∧ st = 8 := by
  cases r with
  | mute => cases h
  | seat s' kn B => simp only [Role.at, Option.some.injEq] at h; subst h; exact .inl ⟨kn, B, rfl⟩
  | leave Wg s' kn B c kk z =>
    simp only [Role.at] at h
    split at h
    · injection h with h; subst h; exact .inr ⟨Wg, kn, B, c, kk, z, rfl, by assumption⟩
    · cases h
theorem Stands.kn (S : Stands P ty b h Sp T gs w q) (i : Nat) : Kn (b.role i).kn w := fun p hp => (S.keep i p hp).1
theorem Stands.knOff (S : Stands P ty b h Sp T gs w q) (o : Off b.shun w w') (i : Nat) : Kn (b.role i).kn w' := fun p hp => by
  obtain ⟨h1, h2, _⟩ := S.keep i p hp
  rw [o.cell (S.warm _ (ice_pos h2)).1]; exact h1
theorem Stands.chansOff (S : Stands P ty b h Sp T gs w q) (o : Off b.shun w w') {i : Nat} {s : Seat} (e : (b.role i).at (q i).1 = some s) {c : Nat} (hc : s.has c) : ∃ k, w'.heap[c]? = some (.chan 0 #[] (b.rung c) k k false) := by
  obtain ⟨k, hk⟩ := S.chans i s e c hc
  exact ⟨k, by rw [o.heap c (S.shunC.2 i s e c hc)]; exact hk⟩
theorem Sits.running {main : Bool} {K : World → Prop} {St : Loc → Prop} {B : Nat} {s : Seat} {n : Nat} {g : Goroutine} (hK : K w) (h : Sits P main K St B s n g) : g.status = .running ∨ g.status = .blocked := (Sits.status hK h).elim (fun x => .inl x.1) fun x => .inr x.1
/-- no bystander is unseated by what another does -/
theorem Stands.fixedG (S : Stands P ty b h Sp T gs w q) {w' : World} (hK : ∀ i, Kn (b.role i).kn w') (hC : ∀ i s, (b.role i).at (q i).1 = some s → ∀ c, s.has c → ∃ k, w'.heap[c]? = some (.chan 0 #[] (b.rung c) k k false)) {x : Nat} {y : Goroutine} (hx : ¬ Sp x) (hy : gs[x]? = some y) : y.again w' = y := by
  have hf := S.fit x y hx hy
  have hk := hK x
  have hc := hC x
  have hwf := S.wf x
  have hd := S.dumb x
  have hm := S.member x
  generalize b.role x = r at hf hk hc hwf hd hm
  cases r with
  | mute => exact again_of_running hf.2.2.status w'
  | seat s kn B =>
    refine Sits.again (hk) hf.2 (hwf s rfl) fun c hcc => ?_
    obtain ⟨k, hk⟩ := hc s rfl c hcc
    rw [hd s kn B rfl c hcc] at hk
    exact ⟨_, _, _, _, _, hk⟩
  | leave Wg s kn B c kk z =>
    rcases hf.2 with ⟨_, hr, _⟩ | ⟨_, hl⟩
    · exact again_of_running (.inl hr) w'
    · obtain ⟨_, hlive, _⟩ := hm Wg s kn B c kk z rfl
      exact again_of_running (hl.status hlive) w'
theorem Stands.fixed (S : Stands P ty b h Sp T gs w q) (o : Off b.shun w w') {x : Nat} {y : Goroutine} (hx : ¬ Sp x) (hy : gs[x]? = some y) : y.again w' = y :=
  S.fixedG (fun i => S.knOff o i) (fun _ _ e _ hc => S.chansOff o e hc) hx hy
/-- no bystander offers a send -/
theorem Stands.noSend (S : Stands P ty b h Sp T gs w q) {x : Nat} {y : Goroutine} (hx : ¬ Sp x) (hy : gs[x]? = some y) (c : Nat) : offersAt y c true = [] := by
  have hf := S.fit x y hx hy
  have hk := S.kn x
  have hwf := S.wf x
  have hm := S.member x
  have run : (y.status = .running ∨ y.status = .finished) → offersAt y c true = [] := fun h => offersAt_of_not_blocked (fun hb => by rcases h with z | z <;> rw [z] at hb <;> cases hb) c true
  generalize b.role x = r at hf hk hwf hm
  cases r with
  | mute => exact run hf.2.2.status
  | seat s kn B =>
    rcases hf.2 with ⟨k, w₀, hq, hg⟩ | ⟨_, _, g₂, rfl, _⟩
    · exact run (.inl ((Sits.status hk (.inl ⟨k, w₀, hq, hg⟩)).elim (·.1) fun z => by omega))
    · exact offersAt_parked_sends (fun cc hcc => by obtain ⟨c', z', rfl⟩ := (hwf s rfl).recvs cc hcc; rfl) _
  | leave Wg s kn B c' kk z =>
    rcases hf.2 with ⟨_, hr, _⟩ | ⟨_, hl⟩
    · exact run (.inl hr)
    · obtain ⟨_, hlive, _⟩ := hm Wg s kn B c' kk z rfl
      exact run (hl.status hlive)
/-- no bystander offers a receive at a channel that is not its seat's -/
theorem Stands.noRecv (S : Stands P ty b h Sp T gs w q) {x : Nat} {y : Goroutine} (hx : ¬ Sp x) (hy : gs[x]? = some y) {c : Nat} (hc : ∀ s kn B, b.role x = .seat s kn B → ¬ s.has c) : offersAt y c false = [] := by
  have hf := S.fit x y hx hy
  have hk := S.kn x
  have hwf := S.wf x
  have hm := S.member x
  have run : (y.status = .running ∨ y.status = .finished) → offersAt y c false = [] := fun h => offersAt_of_not_blocked (fun hb => by rcases h with z | z <;> rw [z] at hb <;> cases hb) c false
  generalize b.role x = r at hf hk hwf hm hc
  cases r with
  | mute => exact run hf.2.2.status
  | seat s kn B =>
    rcases hf.2 with ⟨k, w₀, hq, hg⟩ | ⟨_, _, g₂, rfl, _⟩
    · exact run (.inl ((Sits.status hk (.inl ⟨k, w₀, hq, hg⟩)).elim (·.1) fun z => by omega))
    · refine offersAt_parked_off (fun cc hcc ec => ?_) _
      obtain ⟨c', z', rfl⟩ := (hwf s rfl).recvs cc hcc
      simp only [rcase, Value.chan.injEq, Option.some.injEq] at ec
      subst ec
      exact hc s kn B rfl (Seat.has_of_mem hcc)
  | leave Wg s kn B c' kk z =>
    rcases hf.2 with ⟨_, hr, _⟩ | ⟨_, hl⟩
    · exact run (.inl hr)
    · obtain ⟨_, hlive, _⟩ := hm Wg s kn B c' kk z rfl
      exact run (hl.status hlive)
theorem Stands.awake (S : Stands P ty b h Sp T gs w q) {x : Nat} {y : Goroutine} (hx : ¬ Sp x) (hy : gs[x]? = some y) : awake y := by
  have hf := S.fit x y hx hy
  have hk := S.kn x
  have hm := S.member x
  generalize b.role x = r at hf hk hm
  cases r with
  | mute => exact awake_of (hf.2.2.status.elim .inl fun x => .inr (.inr x))
  | seat s kn B => exact awake_of ((Sits.running hk hf.2).elim .inl fun x => .inr (.inl x))
  | leave Wg s kn B c' kk z =>
    rcases hf.2 with ⟨_, hr, _⟩ | ⟨_, hl⟩
    · exact awake_of (.inl hr)
    · obtain ⟨_, hlive, _⟩ := hm Wg s kn B c' kk z rfl
      exact awake_of ((hl.status hlive).elim .inl fun x => .inr (.inr x))
theorem Stands.at (S : Stands P ty b h Sp T gs w q) (d : Nat) : Stands P ty b h Sp T gs (w.at d) q :=
  ⟨S.n, S.hr, S.hq, S.deaf, S.fit, S.keep, S.bd, S.warm, S.shunC, S.wf, S.chans, S.dumb, S.bell, S.above, S.groups, S.apart, S.member, S.even, S.past, S.norel, S.rel, ⟨S.old.le, S.old.sys, S.old.same, S.old.wg, S.old.role⟩⟩
theorem cntG_upd {lo hi i : Nat} {q : Nat → Nat × Nat} {x : Nat × Nat} (h : lo ≤ i ∧ i < hi) : cntG lo hi (upd q i x) + (if 5 ≤ (q i).1 then 1 else 0) = cntG lo hi q + (if 5 ≤ x.1 then 1 else 0) := by
  unfold cntG
  have key : ∀ j, i < j → (sumTo j fun a => if lo ≤ a ∧ 5 ≤ (upd q i x a).1 then 1 else 0) + (if 5 ≤ (q i).1 then 1 else 0) = (sumTo j fun a => if lo ≤ a ∧ 5 ≤ (q a).1 then 1 else 0) + (if 5 ≤ x.1 then 1 else 0) := by
    intro j hj
    induction j with
    | zero => omega
    | succ j ih =>
      rcases Nat.lt_or_ge i j with hlt | hge
      · have := ih hlt
        simp only [sumTo, upd_ne q x (show j ≠ i by omega)]
        omega
      · obtain rfl : i = j := by omega
        simp only [sumTo, upd_same]
        rw [Go.ConcN.sumTo_congr (g := fun a => if lo ≤ a ∧ 5 ≤ (q a).1 then 1 else 0) (fun a ha => by rw [upd_ne q x (by omega)])]
        simp only [h.1, true_and]
        omega
  exact key hi h.2
theorem cntG_out {lo hi i : Nat} {q : Nat → Nat × Nat} {x : Nat × Nat} (h : ¬ (lo ≤ i ∧ i < hi)) : cntG lo hi (upd q i x) = cntG lo hi q := by
  refine Go.ConcN.sumTo_congr fun a ha => ?_
  by_cases e : a = i
  · subst e
    have : ¬ lo ≤ a := fun hl => h ⟨hl, ha⟩
    simp [this]
  · rw [upd_ne q x e]
theorem cntG_same {lo hi i : Nat} {q : Nat → Nat × Nat} {x : Nat × Nat} (h : 5 ≤ x.1 ↔ 5 ≤ (q i).1) : cntG lo hi (upd q i x) = cntG lo hi q := by
  refine Go.ConcN.sumTo_congr fun a ha => ?_
  by_cases e : a = i
  · subst e; rw [upd_same]; simp only [h]
  · rw [upd_ne q x e]
theorem cntG_pos {lo hi i : Nat} {q : Nat → Nat × Nat} (h : lo ≤ i ∧ i < hi) (h5 : 5 ≤ (q i).1) : 1 ≤ cntG lo hi q := by
  have := cntG_upd (x := (0, 0)) (q := q) h
  simp only [h5, if_true] at this
  simp at this
  omega
theorem GSt.live {wait : Option Nat} {Wg lo hi p : Nat} (h : GSt ty wait Wg lo hi p q w) : WgLive ty Wg w := by
  rcases h with ⟨_, h, _⟩ | ⟨_, _, ⟨_, h, _⟩ | ⟨_, _, _, _, ⟨_, h⟩ | ⟨_, h⟩ | ⟨_, h⟩⟩ | ⟨h, _⟩⟩ <;> exact ⟨_, _, h⟩
theorem cntG_congr {lo hi : Nat} {q q' : Nat → Nat × Nat} (h : ∀ i, lo ≤ i → i < hi → (5 ≤ (q' i).1 ↔ 5 ≤ (q i).1)) : cntG lo hi q' = cntG lo hi q := Go.ConcN.sumTo_congr fun i hi => by
  by_cases hl : lo ≤ i
  · simp only [h i hl hi]
  · simp [hl]
/-- stages that change while they are counted change nothing -/
theorem GSt.congr {wait : Option Nat} {Wg lo hi p : Nat} {q q' : Nat → Nat × Nat} (h : GSt ty wait Wg lo hi p q w) (hq : ∀ i, lo ≤ i → i < hi → (q' i).1 = (q i).1 ∨ (5 ≤ (q i).1 ∧ 5 ≤ (q' i).1)) (hw : w'.heap[Wg]? = w.heap[Wg]?) : GSt ty wait Wg lo hi p q' w' := by
  have e : cntG lo hi q' = cntG lo hi q := cntG_congr fun i h1 h2 => by rcases hq i h1 h2 with e | ⟨a, d⟩ <;> omega
  have wg : ∀ {st sm}, WgAt ty Wg w st sm → WgAt ty Wg w' st sm := fun hx => by unfold WgAt at hx ⊢; rw [hw]; exact hx
  have ok : (∀ i, lo ≤ i → i < hi → okS (q i).1) → ∀ i, lo ≤ i → i < hi → okS (q' i).1 := fun ho i h1 h2 => by
    have := ho i h1 h2
    unfold okS at this ⊢
    rcases hq i h1 h2 with e | ⟨a, d⟩ <;> omega
  unfold GSt
  rw [e]
  rcases h with ⟨h1, h2, h3⟩ | ⟨h0, h1, ⟨h2, h3, h4⟩ | ⟨L, h2, h3, h4, h5⟩ | ⟨h2, h3⟩⟩
  · exact .inl ⟨h1, wg h2, ok h3⟩
  · exact .inr ⟨h0, h1, .inl ⟨h2, wg h3, ok h4⟩⟩
  · refine .inr ⟨h0, h1, .inr (.inl ⟨L, h2, h3, fun i a c d => ?_, ?_⟩)⟩
    · have := h4 i a c d
      rcases hq i a c with e | ⟨x, y⟩ <;> omega
    · have := hq L h2 h3
      rcases h5 with ⟨h5, h6⟩ | ⟨h5, h6⟩ | ⟨h5, h6⟩
      · exact .inl ⟨by omega, wg h6⟩
      · exact .inr (.inl ⟨by omega, wg h6⟩)
      · exact .inr (.inr ⟨by omega, wg h6⟩)
  · refine .inr ⟨h0, h1, .inr (.inr ⟨wg h2, fun i a c => ?_⟩)⟩
    have := h3 i a c
    rcases hq i a c with e | ⟨x, y⟩ <;> omega
theorem GSt.heap {wait : Option Nat} {Wg lo hi p : Nat} {q : Nat → Nat × Nat} (h : GSt ty wait Wg lo hi p q w) (hw : w'.heap[Wg]? = w.heap[Wg]?) : GSt ty wait Wg lo hi p q w' := h.congr (fun _ _ _ => .inl rfl) hw
theorem GSt.block {wait : Option Nat} {Wg lo hi p : Nat} (h : GSt ty wait Wg lo hi p q w) : ∃ c t f, w.heap[Wg]? = some (.cells c t f) := by
  obtain ⟨st, sm, h⟩ := h.live
  exact ⟨_, _, _, h⟩
theorem cntG_le2 (lo hi : Nat) (q : Nat → Nat × Nat) : cntG lo hi q ≤ hi - lo := by
  unfold cntG
  have : ∀ k, (Go.ConcN.sumTo k fun i => if lo ≤ i ∧ 5 ≤ (q i).1 then 1 else 0) ≤ k - lo := by
    intro k
    induction k with
    | zero => exact Nat.zero_le _
    | succ k ih =>
      show Go.ConcN.sumTo k _ + (if lo ≤ k ∧ 5 ≤ (q k).1 then 1 else 0) ≤ _
      by_cases h : lo ≤ k
      · split <;> omega
      · rw [if_neg (by omega)]
        omega
  exact this hi
theorem cntG_le (lo hi : Nat) (q : Nat → Nat × Nat) : cntG lo hi q ≤ hi := by
  have := Go.ConcN.sumTo_le (f := fun i => if lo ≤ i ∧ 5 ≤ (q i).1 then 1 else 0) (c := 1) (j := hi) (fun i _ => by split <;> omega)
  unfold cntG; omega
end
end Go.Proofs.Ytaiinkeendejdaa
