/-
  A BAND OF GOROUTINES OF WHICH ONE HOLDS: the bell rings: the holder closes a channel that many have in their seats; they leave. No condition.
  And: A BAND OF GOROUTINES OF WHICH ONE HOLDS: the holder at a WaitGroup that nobody waits at: the marks, the atomic add. No condition.
  And: A BAND OF GOROUTINES OF WHICH ONE HOLDS: a go statement; a WaitGroup is made; cells are frosted; the end. No condition.
-/
import Derived.Test.YtaiinkeendejdaaBandGive2
namespace Go.Proofs.Ytaiinkeendejdaa
open Go.Conc
open Go.ConcN (sumTo upd sumTo_upd upd_ne upd_same WgLive)
open Go.ConcR (KK wgBlock WgAt stA smA rd wr mk DC0)
section
variable {P : Program} {ty : TypeId} {Post : Value → World → Prop} {b : Bd} {h : Nat} {T : Trace} {gs : Array Goroutine} {w w' : World} {q : Nat → Nat × Nat}
/-- more cells are frosted from now on -/
theorem At.frost {F' : Nat → Nat} {a : Goroutine} (hF : ∀ x, b.F x ≤ F' x) (hw : ∀ x, F' x ≠ 0 → b.shun x = false ∧ ∃ c t, w.heap[x]? = some (.cells c t (0, 0))) (hA : At P ty Post { b with F := F' } h a w) : At P ty Post b h a w :=
  fun gs w₁ sl T q S o ha => hA gs w₁ sl T q
    ⟨S.n, S.hr, S.hq, S.deaf, S.fit, fun i p hp => by
      obtain ⟨h1, h2, h3⟩ := S.keep i p hp
      refine ⟨h1, ?_, h3⟩
      have : p.1.off < b.F p.1.block := by simpa [iceF] using h2
      have := hF p.1.block
      simp only [iceF, decide_eq_true_eq]; omega, S.bd, fun x hx => by
      obtain ⟨h1, c, t, h2⟩ := hw x hx
      exact ⟨h1, c, t, by rw [o.heap x h1]; exact h2⟩, S.shunC, S.wf, S.chans, S.dumb, S.bell, S.above, S.groups, S.apart, S.member, S.even, S.past, S.norel, S.rel, ⟨S.old.le, S.old.sys, S.old.same, S.old.wg, S.old.role⟩⟩ o ha
/-- the band with one goroutine more -/
def Bd.hire (b : Bd) (s : Seat) (kn : List (Addr × Value)) (B : Nat) (wg : Nat → Option (Nat × Nat × Nat)) : Bd := { b with n := b.n + 1, role := upd b.role b.n (.seat s kn B), wg := wg }
/-- ████ A go STATEMENT: the child has a seat and is on its way there; it may become one of a group's ████ -/
theorem At.hire {a a' child : Goroutine} {es : Array Event} {s : Seat} {kn : List (Addr × Value)} {B nc : Nat} (wg : Nat → Option (Nat × Nat × Nat)) (hear : b.ear = true) (hrun : a.status = .running)
    (hgo : ∀ w₁, Off b.shun w w₁ → stepG P (h == 0) a w₁ = .spawn a' child w₁ es) (hes : ∀ e ∈ es, EvO b w.heap.size e) (N : NewRole P ty b b.n w (.seat s kn B) (9, nc) child)
    (hwg : ∀ Wg lo hi p, wg Wg = some (lo, hi, p) → b.wg Wg = some (lo, hi, p) ∨ (b.wg Wg = some (lo, b.n, p + 1) ∧ hi = b.n + 1 ∧ lo ≤ b.n ∧ b.n + 1 - lo + p < 1000000))
    (hkeep : ∀ Wg, b.wg Wg ≠ none → ∀ lo hi p, b.wg Wg = some (lo, hi, p) → ∃ hi' p', wg Wg = some (lo, hi', p') ∧ hi ≤ hi')
    (hone : ∀ Wg Wg' lo p lo' p', wg Wg = some (lo, b.n + 1, p) → wg Wg' = some (lo', b.n + 1, p') → Wg = Wg')
    (fin : At P ty Post (b.hire s kn B wg) h a' w) : At P ty Post b h a w :=
  pick_holder hrun fun gs wp d sl sl' T q S o ha hst => by
    have hlt : h < gs.size := (Array.getElem?_eq_some_iff.1 ha).1
    have hesn : ∀ e ∈ es, EvO b (wp.at d).heap.size e := by rw [o.size]; exact hes
    obtain ⟨hops, hs, hl, hdf, hnr⟩ := evO_ops (b := b) (i := h) (fn := a.frame.fn) (pos := a.frame.place) hesn
    have hn := S.n
    have hrt := runT_crowd_spawn (P := P) (sl := sl') ha (hgo _ o)
    have hpush : ((MemOp.ofEvents h a.frame.fn a.frame.place es).push { g := h, fn := a.frame.fn, pos := a.frame.place, act := .go gs.size } |>.push { g := gs.size, fn := child.frame.fn, pos := a.frame.place, act := .start }) =
        MemOp.ofEvents h a.frame.fn a.frame.place es ++ #[{ g := h, fn := a.frame.fn, pos := a.frame.place, act := .go gs.size }, { g := gs.size, fn := child.frame.fn, pos := a.frame.place, act := .start }] := by
      apply Array.ext'; simp
    rw [hpush] at hrt
    have p1 := S.pastOwn (fn := a.frame.fn) (pos := a.frame.place) (Nat.le_refl _) hesn
    have hD1 : ∀ x, Deaf (T ++ MemOp.ofEvents h a.frame.fn a.frame.place es) x = Deaf T x := fun x => by
      by_cases ex : x = h
      · subst ex; exact hdf T
      · exact Deaf_other T (fun z => ex z.symm) _ hops
    have hab := S.above gs.size (by omega)
    have hrn : b.role b.n = .mute := by have := (S.above b.n (Nat.le_refl _)).2; exact this
    have hMh : Memb b h q h := .inl ⟨rfl, hear⟩
    have N' := N.off S o
    have hrole : ∀ x, x ≠ gs.size → (b.hire s kn B wg).role x = b.role x := fun x hx => by rw [hn] at hx; exact upd_ne _ _ hx
    have hroleN : (b.hire s kn B wg).role gs.size = .seat s kn B := by rw [hn]; exact upd_same _ _ _
    have p2 := HoldB.hire (c := gs.size) (Still' := Stil (b.hire s kn B wg)) p1 hMh (by rw [hD1]; exact hab.1) (fun g hg => by unfold Stil; rw [hrole g hg])
      (by rintro (⟨e, _⟩ | hg)
          · omega
          · rw [hab.2] at hg; cases hg) (fun hg => hg hab.2) (fun l hl => by
        unfold Stil at hl
        rw [hroleN] at hl
        obtain ⟨p, hp, rfl⟩ := hl
        refine ⟨rfl, ?_⟩
        rintro ⟨x, e, hx⟩
        injection e with e
        subst e
        rw [(S.warm _ (ice_pos (N.keep p hp).2.1)).1] at hx
        cases hx) a.frame.fn a.frame.place child.frame.fn
    rw [Array.append_assoc] at p2
    have hD2 : ∀ x, Deaf (T ++ (MemOp.ofEvents h a.frame.fn a.frame.place es ++ #[{ g := h, fn := a.frame.fn, pos := a.frame.place, act := .go gs.size }, { g := gs.size, fn := child.frame.fn, pos := a.frame.place, act := .start }])) x = Deaf T x := fun x => by
      rw [← Array.append_assoc, Deaf_quiet (fun op hop d => by
        simp only [List.mem_toArray, List.mem_cons, List.not_mem_nil, or_false] at hop
        rcases hop with rfl | rfl <;> rfl), hD1]
    refine Ends.next (by rw [hst]; exact hrt) ?_
    have hq : ∀ x, x ≠ gs.size → upd q gs.size (9, nc) x = q x := fun x hx => upd_ne _ _ hx
    have hat : ∀ x s', ((b.hire s kn B wg).role x).at (upd q gs.size (9, nc) x).1 = some s' → (x = gs.size ∧ s' = s) ∨ (x ≠ gs.size ∧ (b.role x).at (q x).1 = some s') := by
      intro x s' e
      by_cases ex : x = gs.size
      · subst ex
        rw [hroleN] at e
        exact .inl ⟨rfl, (Option.some.inj e).symm⟩
      · rw [hrole x ex, hq x ex] at e
        exact .inr ⟨ex, e⟩
    refine fin ((gs.setIfInBounds h a').push child) _ sl' _ (upd q gs.size (9, nc)) ⟨by simp [Bd.hire, hn], by rw [hrole h (by omega)]; exact S.hr, by rw [hq h (by omega)]; exact S.hq, fun e => (by rw [show (b.hire s kn B wg).ear = b.ear from rfl, hear] at e; cases e), fun x y hx hy => ?_, fun x p hp => ?_, fun x => ?_, S.warm, ⟨S.shunC.1, fun x s' e c hc => ?_⟩, fun x s' e => ?_, fun x s' e c hc => ?_, fun x s' kn' B' e => ?_, fun x Wg s' kn' B' c kk z e h8 => ?_, fun x hx => ?_, fun Wg lo hi p hw => ?_, fun Wg lo hi p Wg' lo' hi' p' hw hw' i h1 h2 h3 h4 => ?_, fun x Wg s' kn' B' c kk z e => ?_, S.even, ?_, ?_, fun x Wg s' kn' B' c kk z e h6 => ?_, ⟨S.old.le, S.old.sys, S.old.same, fun Wg hW => ?_, fun x Wg s' kn' B' c kk z e => ?_⟩⟩ o (by rw [Array.getElem?_push, if_neg (by simp; omega)]; exact Array.getElem?_setIfInBounds_self_of_lt hlt)
    · by_cases ex : x = gs.size
      · subst ex
        rw [Array.getElem?_push, if_pos (by simp)] at hy
        obtain rfl := Option.some.inj hy
        rw [hroleN, upd_same, hD2, hab.1]
        have := N.fit
        rw [← hn] at this; exact this
      · have hxl : x < gs.size := by
          have := (Array.getElem?_eq_some_iff.1 hy).1
          simp at this; omega
        rw [Array.getElem?_push, if_neg (by simp; omega), Array.getElem?_setIfInBounds_ne (fun z => hx z.symm)] at hy
        rw [hrole x ex, hq x ex, hD2]
        exact S.fit x y hx hy
    · by_cases ex : x = gs.size
      · subst ex
        rw [hroleN] at hp ⊢
        exact N'.keep p hp
      · rw [hrole x ex] at hp ⊢
        exact S.keep x p hp
    · by_cases ex : x = gs.size
      · subst ex; rw [hroleN]; exact N'.bd
      · rw [hrole x ex]; exact S.bd x
    · rcases hat x s' e with ⟨_, rfl⟩ | ⟨_, e⟩
      · exact N.nsh _ rfl c hc
      · exact S.shunC.2 x s' e c hc
    · rcases hat x s' e with ⟨_, rfl⟩ | ⟨_, e⟩
      · exact N.wf _ rfl
      · exact S.wf x s' e
    · rcases hat x s' e with ⟨_, rfl⟩ | ⟨_, e⟩
      · exact N'.chans _ rfl c hc
      · exact S.chans x s' e c hc
    · by_cases ex : x = gs.size
      · subst ex; rw [hroleN] at e; exact N.dumb s' kn' B' e
      · rw [hrole x ex] at e; exact S.dumb x s' kn' B' e
    · by_cases ex : x = gs.size
      · subst ex; rw [hroleN] at e; cases e
      · rw [hrole x ex] at e; rw [hq x ex] at h8
        exact S.bell x Wg s' kn' B' c kk z e h8
    · have hx' : b.n + 1 ≤ x := hx
      rw [hD2, hrole x (by omega)]
      exact S.above x (by omega)
    · rcases hwg Wg lo hi p hw with h1 | ⟨h1, rfl, h3, h4⟩
      · obtain ⟨g1, g2, g3, g4⟩ := S.groups Wg lo hi p h1
        exact ⟨g1.congr (fun x _ hx => by rw [hq x (by omega)]; exact .inl rfl) rfl, g2, g3, Nat.le_succ_of_le g4⟩
      · obtain ⟨g1, g2, g3, g4⟩ := S.groups Wg lo b.n (p + 1) h1
        have e1 : cntG lo (b.n + 1) (upd q gs.size (9, nc)) = cntG lo b.n q + 1 := by
          have : cntG lo b.n (upd q gs.size (9, nc)) = cntG lo b.n q := cntG_out (by omega)
          rw [← this]
          rw [← hn]
          show cntG lo gs.size _ + (if lo ≤ gs.size ∧ 5 ≤ (upd q gs.size (9, nc) gs.size).1 then 1 else 0) = _
          rw [upd_same, if_pos ⟨by omega, by simp⟩]
        refine ⟨?_, g2, h4, Nat.le_refl _⟩
        have e2 : cntG lo b.n q + 1 + p = cntG lo b.n q + (p + 1) := by omega
        rcases g1 with ⟨k1, k2, k3⟩ | ⟨_, k, _⟩
        · refine .inl ⟨k1, by rw [e1, e2]; exact k2, fun x a c => ?_⟩
          by_cases ex : x = gs.size
          · subst ex; rw [upd_same]; unfold okS; omega
          · rw [hq x ex]; exact k3 x a (by omega)
        · omega
    · rcases hwg Wg lo hi p hw with g1 | ⟨g1, rfl, g3, g4⟩ <;> rcases hwg Wg' lo' hi' p' hw' with k1 | ⟨k1, rfl, k3, k4⟩
      · exact S.apart Wg lo hi p Wg' lo' hi' p' g1 k1 i h1 h2 h3 h4
      · have := (S.groups Wg lo hi p g1).2.2.2
        exact S.apart Wg lo hi p Wg' lo' b.n (p' + 1) g1 k1 i h1 h2 h3 (by omega)
      · have := (S.groups Wg' lo' hi' p' k1).2.2.2
        exact S.apart Wg lo b.n (p + 1) Wg' lo' hi' p' g1 k1 i h1 (by omega) h3 h4
      · exact hone Wg Wg' lo p lo' p' hw hw'
    · by_cases ex : x = gs.size
      · subst ex; rw [hroleN] at e; cases e
      · rw [hrole x ex] at e
        obtain ⟨g1, g2, g3⟩ := S.member x Wg s' kn' B' c kk z e
        refine ⟨g1, g2, fun hx => ?_⟩
        obtain ⟨lo, hi, p, k1, k2, k3⟩ := g3 hx
        obtain ⟨hi', p', k4, k5⟩ := hkeep Wg (by rw [k1]; simp) lo hi p k1
        exact ⟨lo, hi', p', k4, k2, by omega⟩
    · refine (p2.fewer fun g hg => ?_).loosen fun g hg => ?_
      · rcases hg with ⟨rfl, _⟩ | hg
        · exact .inl hMh
        · by_cases ex : g = gs.size
          · exact .inr ex
          · rw [hrole g ex, hq g ex] at hg
            exact .inl (.inr hg)
      · unfold Loos
        by_cases ex : g = gs.size
        · subst ex; rw [hroleN]; simp
        · rw [hrole g ex]; exact hg.resolve_right ex
    · refine S.norel.app (hnr.app fun op hop a => ?_)
      simp only [List.mem_toArray, List.mem_cons, List.not_mem_nil, or_false] at hop
      rcases hop with rfl | rfl <;> simp
    · by_cases ex : x = gs.size
      · subst ex; rw [hroleN] at e; cases e
      · rw [hrole x ex] at e; rw [hq x ex] at h6
        obtain ⟨r, hr⟩ := S.rel x Wg s' kn' B' c kk z e h6
        refine ⟨r, RelBy.appNot hr fun op hop => ?_⟩
        have hxh : x ≠ h := fun z => by rw [z, S.hr] at e; cases e
        rcases Array.mem_append.1 hop with hop | hop
        · rw [hops op hop]; exact fun z => hxh z.symm
        · simp only [List.mem_toArray, List.mem_cons, List.not_mem_nil, or_false] at hop
          rcases hop with rfl | rfl
          · exact fun z => hxh z.symm
          · exact fun z => ex z.symm
    · cases hx : wg Wg with
      | none => exact absurd hx hW
      | some v =>
        obtain ⟨lo, hi, p⟩ := v
        rcases hwg Wg lo hi p hx with h1 | ⟨h1, _⟩
        · exact S.old.wg Wg (by rw [h1]; simp)
        · exact S.old.wg Wg (by rw [h1]; simp)
    · by_cases ex : x = gs.size
      · subst ex; rw [hroleN] at e; cases e
      · rw [hrole x ex] at e; exact S.old.role x Wg s' kn' B' c kk z e
/-- ████ A GROUP's BLOCK IS MADE: shunned, and counted, from now on ████ -/
theorem At.group {a a' : Goroutine} (hrun : a.status = .running) (hstep : ∀ w₁, Off b.shun w w₁ → stepG P (h == 0) a w₁ = .go a' (w₁.alloc (wgBlock ty 0 0)) #[])
    (fin : ∀ Wg, Wg = w.heap.size → At P ty Post { b with shun := upd b.shun Wg true, wg := upd b.wg Wg (some (b.n, b.n, 0)) } h a' (w.alloc (wgBlock ty 0 0))) (hwt : ∀ Wg, b.wait = some Wg → Wg < w.heap.size) : At P ty Post b h a w :=
  pick_holder hrun fun gs wp d sl sl' T q S o ha hst => by
    generalize hw₁ : wp.at d = w₁ at S o hst
    obtain ⟨Wg, hWg⟩ : ∃ Wg, Wg = w.heap.size := ⟨_, rfl⟩
    have hsz : w₁.heap.size = Wg := by rw [o.size, hWg]
    have hnew : ∀ x, x ≠ Wg → (w₁.alloc (wgBlock ty 0 0)).heap[x]? = w₁.heap[x]? := fun x hx => by
      show (w₁.heap.push _)[x]? = _
      rw [Array.getElem?_push, if_neg (by omega)]
    have hpu : (w₁.alloc (wgBlock ty 0 0)).heap = w₁.heap.push (wgBlock ty 0 0) := rfl
    have hself : (w₁.alloc (wgBlock ty 0 0)).heap[Wg]? = some (wgBlock ty 0 0) := by rw [hpu, Array.getElem?_push, if_pos hsz.symm]
    have hsize : (w₁.alloc (wgBlock ty 0 0)).heap.size = Wg + 1 := by rw [hpu, Array.size_push, hsz]
    have hlt : ∀ {x : Nat} {ob : Obj}, w₁.heap[x]? = some ob → x ≠ Wg := fun hx e => by have := (Array.getElem?_eq_some_iff.1 hx).1; omega
    have hobj : ∀ Z, oddO (wgBlock ty 0 0) = false ∧ ObjZ Z (wgBlock ty 0 0) := fun Z => ⟨rfl, trivial⟩
    have hev : Even (ZT b.shun (Wg + 1)) (w₁.alloc (wgBlock ty 0 0)) := Even.push (S.even.tall (by omega)) (hobj _)
    have G : GOwn b w₁ (w₁.alloc (wgBlock ty 0 0)) #[] := by
      refine ⟨fun e he => by simp at he, fun a ha => ?_, fun x hx => ?_, fun x ob hx _ => by rw [hnew x (hlt hx)]; exact hx, fun x hx => ?_, by rw [hsize, hsz]; omega, by rw [hsize]; exact hev, rfl, rfl⟩
      · obtain ⟨_, c, t, hx⟩ := S.warm _ (ice_pos ha)
        unfold World.cell?
        rw [hnew _ (hlt hx)]
      · obtain ⟨_, c, t, h2⟩ := S.warm x hx
        exact ⟨c, t, by rw [hnew x (hlt h2)]; exact h2⟩
      · exact hnew x (by have := S.shunC.1 x hx; omega)
    obtain ⟨S1, ha1⟩ := S.own rfl (a' := a') ha G
    have hrt : stepT P (crowd gs wp sl) = _ := hst.trans (runT_crowd_go (sl := sl') ha (hstep _ o))
    refine Ends.next hrt ?_
    have hshu : ∀ x, upd b.shun Wg true x = true → x = Wg ∨ b.shun x = true := fun x hx => by
      by_cases e : x = Wg
      · exact .inl e
      · rw [upd_ne _ _ e] at hx; exact .inr hx
    have hshf : ∀ {x : Nat} {ob : Obj}, w₁.heap[x]? = some ob → upd b.shun Wg true x = b.shun x := fun hx => upd_ne _ _ (hlt hx)
    have hwgo : ∀ Wg' v, b.wg Wg' = some v → Wg' ≠ Wg := fun Wg' ⟨lo, hi, p⟩ h1 => (by obtain ⟨_, _, _, hb⟩ := (S.groups Wg' lo hi p h1).1.block; exact hlt hb)
    have hwg : ∀ Wg' lo hi p, upd b.wg Wg (some (b.n, b.n, 0)) Wg' = some (lo, hi, p) → (Wg' = Wg ∧ lo = b.n ∧ hi = b.n ∧ p = 0) ∨ b.wg Wg' = some (lo, hi, p) := fun Wg' lo hi p h1 => by
      by_cases e : Wg' = Wg
      · subst e
        rw [upd_same] at h1
        have e1 := Option.some.inj h1
        exact .inl ⟨rfl, (congrArg (·.1) e1).symm, (congrArg (·.2.1) e1).symm, (congrArg (·.2.2) e1).symm⟩
      · rw [upd_ne _ _ e] at h1; exact .inr h1
    refine fin Wg hWg _ _ sl' _ q ⟨S1.n, S1.hr, S1.hq, S1.deaf, S1.fit, S1.keep, S1.bd, fun x hx => ?_, ⟨fun x hx => ?_, fun x s e c hc => ?_⟩, S1.wf, S1.chans, S1.dumb, S1.bell, S1.above, fun Wg' lo hi p h1 => ?_, fun A lo hi p A' lo' hi' p' h1 h1' i g1 g2 g3 g4 => ?_, fun i A s kn B c kk z e => ?_, ?_, ?_, S1.norel, S1.rel, ⟨S1.old.le, S1.old.sys, fun x h1 h2 => S1.old.same x h1 ((hshu x h2).elim (fun e => by have h3 : x < b.oldN := h1; have := S.old.le; omega) id), fun Wg' hW => (by
      by_cases e : Wg' = Wg
      · have := S.old.le
        show b.oldN ≤ Wg'
        omega
      · exact S1.old.wg Wg' (by intro e2; exact hW (by show upd b.wg Wg _ Wg' = none; rw [upd_ne _ _ e]; exact e2))), S1.old.role⟩⟩ ?_ ha1
    · obtain ⟨h1, c, t, h2⟩ := S.warm x hx
      exact ⟨by show upd b.shun Wg true x = false; rw [hshf h2]; exact h1, c, t, by rw [hnew x (hlt h2)]; exact h2⟩
    · rcases hshu x hx with rfl | hx
      · rw [hsize]; omega
      · have := S.shunC.1 x hx
        rw [hsize]; omega
    · obtain ⟨k, hk⟩ := S.chans x s e c hc
      show upd b.shun Wg true c = false
      rw [hshf hk]
      exact S.shunC.2 x s e c hc
    · rcases hwg Wg' lo hi p h1 with ⟨rfl, rfl, rfl, rfl⟩ | h1
      · have e0 : cntG b.n b.n q = 0 := by
          unfold cntG
          have : sumTo b.n (fun i => if b.n ≤ i ∧ 5 ≤ (q i).1 then 1 else 0) = sumTo b.n fun _ => 0 := Go.ConcN.sumTo_congr fun i hi => by rw [if_neg (by omega)]
          rw [this]
          have := Go.ConcN.sumTo_le (f := fun _ => 0) (c := 0) (j := b.n) fun _ _ => Nat.le_refl _
          omega
        refine ⟨.inl ⟨fun e => by have := hwt _ e; omega, ?_, fun x a c => by omega⟩, upd_same _ _ _, by omega, Nat.le_refl _⟩
        rw [e0]
        have : (((0 + 0 : Nat) : Int) * KK) = 0 := by simp
        rw [this]; exact hself
      · obtain ⟨g1, g2, g3, g4⟩ := S1.groups Wg' lo hi p h1
        exact ⟨g1, by show upd b.shun Wg true Wg' = true; rw [upd_ne _ _ (hwgo Wg' _ h1)]; exact g2, g3, g4⟩
    · rcases hwg A lo hi p h1 with ⟨rfl, rfl, rfl, rfl⟩ | h1
      · omega
      · rcases hwg A' lo' hi' p' h1' with ⟨rfl, rfl, rfl, rfl⟩ | h1'
        · omega
        · exact S.apart A lo hi p A' lo' hi' p' h1 h1' i g1 g2 g3 g4
    · obtain ⟨g1, g2, g3⟩ := S1.member i A s kn B c kk z e
      have hne : A ≠ Wg := by
        obtain ⟨_, ⟨st, sm, h2⟩, _⟩ := S.member i A s kn B c kk z e
        exact hlt h2
      exact ⟨by show upd b.shun Wg true A = true; rw [upd_ne _ _ hne]; exact g1, g2, fun hx => by show ∃ lo hi p, upd b.wg Wg (some (b.n, b.n, 0)) A = some (lo, hi, p) ∧ _; rw [upd_ne _ _ hne]; exact g3 hx⟩
    · rw [hsize]
      intro x ob hx e
      have hxW : x ≠ Wg := fun e => by
        subst e
        rw [ZT_of _ _ (by show upd b.shun x true x = true; exact upd_same _ _ _)] at hx; cases hx
      have hxs : b.shun x = false := by
        have : upd b.shun Wg true x = false := zt_off hx
        rw [upd_ne _ _ hxW] at this; exact this
      rw [hnew x hxW] at e
      have hxl := (Array.getElem?_eq_some_iff.1 e).1
      obtain ⟨g1, g2⟩ := S.even x ob (by rw [ZT_low hxl]; exact hxs) e
      refine ⟨g1, g2.mono fun y hy => ?_⟩
      rw [hsz]
      simp only [ZT, Bool.or_eq_true, decide_eq_true_eq] at hy ⊢
      rcases hy with hy | hy
      · rcases hshu y hy with rfl | h1
        · exact .inr (Nat.le_refl _)
        · exact .inl h1
      · exact .inr (by omega)
    · have hp := S.past.shun (Shun' := Shu { b with shun := upd b.shun Wg true, wg := upd b.wg Wg (some (b.n, b.n, 0)) }) (by
        rintro l ⟨x, e, hx⟩
        refine ⟨x, e, ?_⟩
        have h2 := S.shunC.1 _ hx
        show upd b.shun Wg true x.block = true
        rw [upd_ne _ _ (by omega)]; exact hx) (by
        rintro l ⟨x, e, hx⟩
        rcases hshu _ hx with h1 | h1
        · refine .inr ?_
          subst e
          show ¬ x.block < w₁.heap.size
          omega
        · exact .inl ⟨x, e, h1⟩)
      have e0 : T ++ MemOp.ofEvents h a.frame.fn a.frame.place #[] = T := by simp [MemOp.ofEvents]
      rw [e0]
      exact hp.mono (by rw [hsize, hsz]; omega)
    · refine ⟨fun x hx => ?_, by rw [hsize]; show Wg + 1 = (w.heap.push _).size; rw [Array.size_push, hWg], o.tape, o.os, o.output, fun x hx => ?_⟩
      · have hx : upd b.shun Wg true x = false := hx
        have hb : b.shun x = false := by
          by_cases e : x = Wg
          · subst e; rw [upd_same] at hx; cases hx
          · rw [upd_ne _ _ e] at hx; exact hx
        show (w₁.heap.push _)[x]? = (w.heap.push _)[x]?
        simp only [Array.getElem?_push, o.size, o.heap x hb]
      · have hx : upd b.shun Wg true x = true := hx
        show kindO (w₁.heap.push _)[x]? = kindO (w.heap.push _)[x]?
        simp only [Array.getElem?_push, o.size]
        by_cases e : x = w.heap.size
        · rw [if_pos e, if_pos e]
        · rw [if_neg e, if_neg e]
          have hne : x ≠ Wg := by omega
          rw [upd_ne _ _ hne] at hx
          exact o.kind x hx
/-- ████ THE END: goroutine 0 returns, all others only leave ████ -/
theorem At.end {a : Goroutine} (h0 : h = 0) (hear : b.ear = true) (hall : ∀ i, b.role i = .mute) (hrun : a.status = .running) (hst : ∀ w₁, Off b.shun w w₁ → OldOk b w₁ → ∃ v es, stepG P true a w₁ = .ended (.done v) w₁ es ∧ (∀ e ∈ es, EvO b w₁.heap.size e) ∧ Post v w₁) : At P ty Post b h a w := by
  subst h0
  intro gs w₁ sl T q S o ha
  have hL : Leavers P T gs fun i => (q i).2 := ⟨fun i g hi hg => by
    have := S.fit i g (by show ¬ i = 0; omega) hg
    rw [hall i] at this
    exact this.2.2, fun j hj => (S.above j (by rw [← S.n]; exact hj)).1⟩
  have hP : Past (Shu b) w₁.heap.size T := HoldB.toPast S.past (.inl ⟨rfl, hear⟩) fun g hg => hg (hall g)
  obtain ⟨N, last, o', w', t', h1, h2, h3, h4⟩ := beside_ends (P := P) (Post := Post) (Shun := Shu b) (B := w₁.heap.size) (D := fun _ _ es => ∀ e ∈ es, EvL (Shu b) w₁.heap.size e) (sl := sl) (fun _ _ _ h => h) ha hL hP (n := 0) (fun w₂ hr => by
    obtain ⟨d, rfl⟩ := hr
    obtain ⟨v, es, g1, g2, g3⟩ := hst _ (o.trans (Off.at _ _ d)) (S.old.off (Off.at b.shun _ d) fun _ _ _ => rfl)
    exact ⟨hrun, v, es, g1, fun e he => ⟨fun x hx hs => ((g2 e he).touch x hx).2 hs, (g2 e he).dis, (g2 e he).en, (g2 e he).low⟩, g3⟩)
  exact ⟨N, last, o', w', t', h1, h2, h3, h4⟩
end
end Go.Proofs.Ytaiinkeendejdaa
namespace Go.Proofs.Ytaiinkeendejdaa
open Go.Conc
open Go.ConcN (sumTo upd sumTo_upd upd_ne upd_same WgLive)
open Go.ConcR (KK wgBlock WgAt stA smA rd wr mk DC0)
/-- what the holder may suffer, and what it may know -/
structure RO (ty : TypeId) (b : Bd) (w w₁ : World) : Prop where
  off : Off b.shun w w₁
  wg : b.wait = none → ∀ Wg lo hi p, b.wg Wg = some (lo, hi, p) → ∃ V : Nat, p ≤ V ∧ V < 1000000 ∧ WgAt ty Wg w₁ ((V : Int) * KK) 0
  live : ∀ Wg lo hi p, b.wg Wg = some (lo, hi, p) → WgLive ty Wg w₁ ∧ b.shun Wg = true
  ice : ∀ x, b.shun x = true → b.F x = 0
section
variable {P : Program} {ty : TypeId} {Post : Value → World → Prop} {b : Bd} {h : Nat} {T : Trace} {gs : Array Goroutine} {w w' : World} {q : Nat → Nat × Nat}
theorem Stands.ro {w₁ : World} (S : Stands P ty b h (· = h) T gs w₁ q) (o : Off b.shun w w₁) : RO ty b w w₁ :=
  ⟨o, (fun hwt Wg lo hi p e => by
    obtain ⟨h1, _, h3, _⟩ := S.groups Wg lo hi p e
    have := cntG_le2 lo hi q
    rcases h1 with ⟨_, h1, _⟩ | ⟨h0, _⟩
    · exact ⟨cntG lo hi q + p, by omega, by omega, h1⟩
    · rw [hwt] at h0; cases h0), fun Wg lo hi p e => ⟨(S.groups Wg lo hi p e).1.live, (S.groups Wg lo hi p e).2.1⟩, fun x hx => by
    by_cases e : b.F x = 0
    · exact e
    · have := (S.warm x e).1
      rw [hx] at this; cases this⟩
/-- an own step, the groups' states being known -/
theorem At.ownR {a : Goroutine} (hrun : a.status = .running) (hs : ∀ w₁, RO ty b w w₁ → ∃ a' w' es, stepG P (h == 0) a w₁ = .go a' w' es ∧ GOwn b w₁ w' es ∧ At P ty Post b h a' w') : At P ty Post b h a w :=
  pick_holder hrun fun gs wp d sl sl' T q S o ha hst => by
    obtain ⟨a', w', es, hgo, hG, hA⟩ := hs _ (S.ro o)
    obtain ⟨S', ha'⟩ := S.own rfl (a' := a') ha hG
    exact Ends.next (by rw [hst]; exact runT_crowd_go (sl := sl') ha hgo) (hA _ _ sl' _ q S' (Off.refl _ _) ha')
/-- an own step that only lists -/
theorem At.list {a : Goroutine} (hrun : a.status = .running) (hs : ∀ w₁, RO ty b w w₁ → ∃ a' es, stepG P (h == 0) a w₁ = .go a' w₁ es ∧ (∀ e ∈ es, EvO b w₁.heap.size e) ∧ At P ty Post b h a' w₁) : At P ty Post b h a w :=
  pick_holder hrun fun gs wp d sl sl' T q S o ha hst => by
    obtain ⟨a', es, hgo, hG, hA⟩ := hs _ (S.ro o)
    obtain ⟨S', ha'⟩ := S.own rfl (a' := a') ha (gOwn_still S hG)
    exact Ends.next (by rw [hst]; exact runT_crowd_go (sl := sl') ha hgo) (hA _ _ sl' _ q S' (Off.refl _ _) ha')
/-- a counted stretch of steps that touch nothing -/
theorem At.goes0 {n : Nat} {a : Goroutine} (hg : Goes P (h == 0) (RO ty b) DC0 (fun a w => At P ty Post b h a w) n a w) : At P ty Post b h a w := by
  induction n generalizing a w with
  | zero => exact fun gs w₁ sl T q S o ha => hg w₁ (S.ro o) gs w₁ sl T q S (Off.refl _ _) ha
  | succ n ih =>
    rcases hg with hstop | ⟨hrun, hstep⟩
    · exact fun gs w₁ sl T q S o ha => hstop w₁ (S.ro o) gs w₁ sl T q S (Off.refl _ _) ha
    · refine At.list hrun fun w₁ o => ?_
      have hs := hstep w₁ o
      cases hgo : stepG P (h == 0) a w₁ with
      | go a' w' es =>
        rw [hgo, goes_go] at hs
        obtain ⟨⟨rfl, rfl⟩, h2⟩ := hs
        exact ⟨a', #[], rfl, fun e he => by simp at he, ih h2⟩
      | _ => rw [hgo] at hs; exact hs.elim
theorem Memb.deaf {b : Bd} {h : Nat} {q : Nat → Nat × Nat} {g : Nat} (hm : Memb { b with ear := false } h q g) : Memb b h q g ∧ ((b.role g).at (q g).1).isSome = true := by
  rcases hm with ⟨_, e⟩ | hm
  · cases e
  · exact ⟨.inr hm, hm⟩
/-- the holder's words are not heard from now on -/
theorem At.dis {a : Goroutine} (hear : b.ear = true) (hrun : a.status = .running) (hs : ∀ w₁, RO ty b w w₁ → ∃ a', stepG P (h == 0) a w₁ = .go a' w₁ #[mk .disable] ∧ At P ty Post { b with ear := false } h a' w₁) : At P ty Post b h a w :=
  pick_holder hrun fun gs wp d sl sl' T q S o ha hst => by
    obtain ⟨a', hgo, hA⟩ := hs _ (S.ro o)
    have hlt : h < gs.size := (Array.getElem?_eq_some_iff.1 ha).1
    have hops : ∀ op ∈ MemOp.ofEvents h a.frame.fn a.frame.place #[mk .disable], op.g = h := fun op hop => by obtain ⟨e, _, rfl⟩ := Go.Conc.mem_ofEvents hop; rfl
    obtain ⟨z1, z2, z3, _⟩ := S.goArr (Off.refl b.shun _) (g := a) (g' := a') hlt
    have hd : Deaf (T ++ MemOp.ofEvents h a.frame.fn a.frame.place #[mk .disable]) h = 1 := by
      rw [Deaf_own, S.past.hears h (.inl ⟨rfl, hear⟩)]; rfl
    refine Ends.next (by rw [hst]; exact runT_crowd_go (sl := sl') ha hgo) (hA _ _ sl' _ q ⟨z1.trans S.n, S.hr, S.hq, fun _ => hd, fun x y hx hy => ?_, S.keep, S.bd, S.warm, S.shunC, S.wf, S.chans, S.dumb, S.bell, fun j hj => ?_, S.groups, S.apart, S.member, S.even, ?_, S.norel.app ?_, fun x Wg s kn B c kk z e h6 => ?_, ⟨S.old.le, S.old.sys, S.old.same, S.old.wg, S.old.role⟩⟩ (Off.refl _ _) z3)
    · rw [z2 x hx hx] at hy
      rw [Deaf_other T (fun z => hx z.symm) _ hops]
      exact S.fit x y hx hy
    · have := S.n
      have hj : b.n ≤ j := hj
      rw [Deaf_other T (g' := h) (by omega) _ hops]
      exact S.above j hj
    · refine PastB.appMute (K' := Knows (T ++ MemOp.ofEvents h a.frame.fn a.frame.place #[mk .disable]) h) (Mem := Memb { b with ear := false } h q) (S.past.fewer fun g hg => hg.deaf.1) (fun _ => Knows.app _) hops (fun op hop => ?_) (fun hm => ?_) (fun op hop => ?_)
      · obtain ⟨e, he, rfl⟩ := Go.Conc.mem_ofEvents hop
        simp only [List.mem_toArray, List.mem_singleton] at he
        subst he; rfl
      · have := hm.deaf.2
        rw [S.hr] at this; cases this
      · obtain ⟨e, he, rfl⟩ := Go.Conc.mem_ofEvents hop
        simp only [List.mem_toArray, List.mem_singleton] at he
        subst he; trivial
    · intro op hop x
      obtain ⟨e, he, rfl⟩ := Go.Conc.mem_ofEvents hop
      simp only [List.mem_toArray, List.mem_singleton] at he
      subst he; simp [mk, MemAct.ofEvent]
    · obtain ⟨r, hr⟩ := S.rel x Wg s kn B c kk z e h6
      refine ⟨r, hr.appOther hops fun z => ?_⟩
      rw [← z, S.hr] at e; cases e
theorem Stands.en {fn : FuncId} {pos : String} {gs' : Array Goroutine} (S : Stands P ty b h (· = h) T gs w q) (hear : b.ear = false) (hlt : h < gs.size) (z1 : gs'.size = gs.size) (z2 : ∀ x, x ≠ h → gs'[x]? = gs[x]?) :
    Stands P ty { b with ear := true } h (· = h) (T ++ MemOp.ofEvents h fn pos #[Go.ConcR.mk .enable]) gs' w q := by
  have hops : ∀ op ∈ MemOp.ofEvents h fn pos #[Go.ConcR.mk .enable], op.g = h := fun op hop => by obtain ⟨e, _, rfl⟩ := Go.Conc.mem_ofEvents hop; rfl
  have hd : Deaf (T ++ MemOp.ofEvents h fn pos #[Go.ConcR.mk .enable]) h = 0 := by
    rw [Deaf_own, S.deaf hear]; rfl
  have hnm : ¬ Memb b h q h := by
    rintro (⟨_, e⟩ | e)
    · rw [hear] at e; cases e
    · rw [S.hr] at e; cases e
  have p1 := PastB.appMute (K' := Knows (T ++ MemOp.ofEvents h fn pos #[Go.ConcR.mk .enable]) h) S.past (fun _ => Knows.app _) hops (fun op hop => by
    obtain ⟨e, he, rfl⟩ := Go.Conc.mem_ofEvents hop
    simp only [List.mem_toArray, List.mem_singleton] at he
    subst he; rfl) (fun hm => absurd hm hnm) (fun op hop => by
    obtain ⟨e, he, rfl⟩ := Go.Conc.mem_ofEvents hop
    simp only [List.mem_toArray, List.mem_singleton] at he
    subst he; trivial)
  refine ⟨z1.trans S.n, S.hr, S.hq, fun e => (by cases e), fun x y hx hy => ?_, S.keep, S.bd, S.warm, S.shunC, S.wf, S.chans, S.dumb, S.bell, fun j hj => ?_, S.groups, S.apart, S.member, S.even, ?_, S.norel.app ?_, fun x Wg s kn B c kk z e h6 => ?_, ⟨S.old.le, S.old.sys, S.old.same, S.old.wg, S.old.role⟩⟩
  · rw [z2 x hx] at hy
    rw [Deaf_other T (fun z => hx z.symm) _ hops]
    exact S.fit x y hx hy
  · have := S.n
    have hj : b.n ≤ j := hj
    rw [Deaf_other T (g' := h) (by omega) _ hops]
    exact S.above j hj
  · refine ⟨p1.clean, p1.known, p1.plain, fun i x hx hw g hg hS => ?_, fun g hg => ?_, p1.seen⟩
    · rcases hg with ⟨rfl, _⟩ | hg
      · obtain ⟨p, hp, _⟩ := hS
        have hp : p ∈ (b.role g).kn := hp
        rw [S.hr] at hp; cases hp
      · exact p1.wrote i x hx hw g (.inr hg) hS
    · rcases hg with ⟨rfl, _⟩ | hg
      · exact hd
      · exact p1.hears g (.inr hg)
  · intro op hop x
    obtain ⟨e, he, rfl⟩ := Go.Conc.mem_ofEvents hop
    simp only [List.mem_toArray, List.mem_singleton] at he
    subst he; simp [Go.ConcR.mk, MemAct.ofEvent]
  · obtain ⟨r, hr⟩ := S.rel x Wg s kn B c kk z e h6
    refine ⟨r, hr.appOther hops fun z => ?_⟩
    rw [← z, S.hr] at e; cases e
/-- .. and are heard again -/
theorem At.en {a : Goroutine} (hear : b.ear = false) (hrun : a.status = .running) (hs : ∀ w₁, RO ty b w w₁ → ∃ a', stepG P (h == 0) a w₁ = .go a' w₁ #[mk .enable] ∧ At P ty Post { b with ear := true } h a' w₁) : At P ty Post b h a w :=
  pick_holder hrun fun gs wp d sl sl' T q S o ha hst => by
    obtain ⟨a', hgo, hA⟩ := hs _ (S.ro o)
    have hlt : h < gs.size := (Array.getElem?_eq_some_iff.1 ha).1
    obtain ⟨z1, z2, z3, _⟩ := S.goArr (Off.refl b.shun _) (g := a) (g' := a') hlt
    exact Ends.next (by rw [hst]; exact runT_crowd_go (sl := sl') ha hgo) (hA _ _ sl' _ q (S.en hear hlt z1 fun x hx => z2 x hx hx) (Off.refl _ _) z3)
theorem evO_atomic {n : Nat} {a : Addr} {wr : Bool} (hi : b.F a.block = 0) (hn : a.block < n) : EvO b n ⟨.cell a, wr, true⟩ := by
  refine ⟨fun x hx => ?_, by simp, by simp, fun _ => by simp, by simp only [Go.ConcR.ofEvent_cell]; exact hn⟩
  simp only [Go.ConcR.ofEvent_cell, MemAct.touch?, Option.some.injEq] at hx
  subst hx
  refine ⟨fun a' e hi' => ?_, fun _ => by simp⟩
  injection e with e
  subst e
  exact absurd hi (ice_pos hi')
theorem evO_said {n : Nat} {a : Addr} {wr : Bool} (hi : b.F a.block = 0) (hn : a.block < n) : EvO b n ⟨.mark (if wr then .write a else .read a), false, true⟩ := by
  refine ⟨fun x hx => ?_, by cases wr <;> simp, by cases wr <;> simp, fun _ => by cases wr <;> simp, by cases wr <;> exact hn⟩
  have : x = ⟨.cell a, wr, .said⟩ := by cases wr <;> simpa [MemAct.ofEvent, MemAct.touch?] using hx.symm
  subst this
  refine ⟨fun a' e hi' => ?_, fun _ => by simp⟩
  injection e with e
  subst e
  exact absurd hi (ice_pos hi')
/-- the holder's step turns a group's block, and what is counted there -/
theorem At.turn {Wg lo hi p p' : Nat} {a : Goroutine} (hrun : a.status = .running) (hwt : b.wait = none) (hwg : b.wg Wg = some (lo, hi, p)) (hp' : hi - lo + p' < 1000000)
    (hs : ∀ w₁, RO ty b w w₁ → ∀ V : Nat, V < 1000000 → p ≤ V → WgAt ty Wg w₁ ((V : Int) * KK) 0 → ∃ a' es, stepG P (h == 0) a w₁ = .go a' (w₁.setCell (stA Wg) (.int .u64 (((V - p + p' : Nat) : Int) * KK))) es ∧ (∀ e ∈ es, EvO b w₁.heap.size e) ∧ At P ty Post { b with wg := upd b.wg Wg (some (lo, hi, p')) } h a' w₁) : At P ty Post b h a w :=
  pick_holder hrun fun gs wp d sl sl' T q S o ha hst => by
    generalize hw₁ : wp.at d = w₁ at S o hst
    obtain ⟨g1, g2, g3, g4⟩ := S.groups Wg lo hi p hwg
    obtain ⟨g1, gok⟩ : WgAt ty Wg w₁ (((cntG lo hi q + p : Nat) : Int) * KK) 0 ∧ ∀ i, lo ≤ i → i < hi → okS (q i).1 := by
      rcases g1 with ⟨_, k⟩ | ⟨h0, _⟩
      · exact k
      · rw [hwt] at h0; cases h0
    have hcl := cntG_le2 lo hi q
    obtain ⟨a', es, hgo, hes, hA⟩ := hs _ (S.ro o) (cntG lo hi q + p) (by omega) (by omega) g1
    have eV : cntG lo hi q + p - p + p' = cntG lo hi q + p' := by omega
    rw [eV] at hgo
    have hlt : h < gs.size := (Array.getElem?_eq_some_iff.1 ha).1
    obtain ⟨hops, hsx, hl, hdd, hn⟩ := evO_ops (b := b) (i := h) (fn := a.frame.fn) (pos := a.frame.place) hes
    have ha2 := aside_setCell w₁ (stA Wg) (.int .u64 (((cntG lo hi q + p' : Nat) : Int) * KK))
    generalize hw' : w₁.setCell (stA Wg) (.int .u64 (((cntG lo hi q + p' : Nat) : Int) * KK)) = w' at hgo ha2
    have hnew : WgAt ty Wg w' (((cntG lo hi q + p' : Nat) : Int) * KK) 0 := by rw [← hw']; exact g1.setSt _
    have o2 : Off b.shun w₁ w' := Off.aside ha2 g2 (by rw [← hw']; exact kind_setCell _ _ _ _)
    obtain ⟨z1, z2, z3, _⟩ := S.goArr o2 (g := a) (g' := a') hlt
    refine Ends.next (by rw [hst]; exact runT_crowd_go (sl := sl') ha hgo) (hA _ w' sl' _ q ⟨z1.trans S.n, S.hr, S.hq, fun e => by rw [hdd T]; exact S.deaf e, fun x y hx hy => ?_, fun i x hx => ?_, fun x => by rw [o2.size]; exact S.bd x, fun x hx => ?_, ⟨fun x hx => by rw [o2.size]; exact S.shunC.1 x hx, S.shunC.2⟩, S.wf, fun i s e c hc => S.chansOff o2 e hc, S.dumb, S.bell, fun j hj => ?_, fun Wg' lo' hi' p2 e => ?_, fun A lo1 hi1 p1 A' lo2 hi2 p2 e1 e2 => ?_, fun i A s kn B c kk z e => ?_, o2.even S.even, ?_, S.norel.app hn, fun x A s kn B c kk z e h6 => ?_, ⟨by rw [o2.size]; exact S.old.le, ⟨o2.os.trans S.old.sys.1, o2.output.trans S.old.sys.2⟩, fun x h1 h2 => (ha2.block x (by have h3 : x < b.oldN := h1; have := S.old.wg Wg (by rw [hwg]; simp); show x ≠ Wg; omega)).trans (S.old.same x h1 h2), fun A hA => (by
      by_cases eA : A = Wg
      · rw [eA]; exact S.old.wg Wg (by rw [hwg]; simp)
      · exact S.old.wg A (by intro e; exact hA (by show upd b.wg Wg _ A = none; rw [upd_ne _ _ eA]; exact e))), S.old.role⟩⟩ o2 z3)
    · rw [z2 x hx hx] at hy
      rw [Deaf_other T (fun z => hx z.symm) _ hops]
      exact S.fit x y hx hy
    · exact ⟨S.knOff o2 i x hx, (S.keep i x hx).2⟩
    · obtain ⟨h1, c, t, h2⟩ := S.warm x hx
      exact ⟨h1, c, t, by rw [o2.heap x h1]; exact h2⟩
    · have := S.n
      have hj : b.n ≤ j := hj
      rw [Deaf_other T (g' := h) (by omega) _ hops]
      exact S.above j hj
    · have e : upd b.wg Wg (some (lo, hi, p')) Wg' = some (lo', hi', p2) := e
      by_cases ew : Wg' = Wg
      · subst ew
        rw [upd_same] at e
        obtain ⟨rfl, rfl, rfl⟩ : lo = lo' ∧ hi = hi' ∧ p' = p2 := by
          have e1 := Option.some.inj e
          exact ⟨congrArg (·.1) e1, congrArg (·.2.1) e1, congrArg (·.2.2) e1⟩
        exact ⟨.inl ⟨by rw [hwt]; simp, hnew, gok⟩, g2, hp', g4⟩
      · rw [upd_ne _ _ ew] at e
        obtain ⟨k1, k2, k3⟩ := S.groups Wg' lo' hi' p2 e
        exact ⟨k1.heap (ha2.block Wg' ew), k2, k3⟩
    · have key : ∀ A lo1 hi1 p1, upd b.wg Wg (some (lo, hi, p')) A = some (lo1, hi1, p1) → ∃ p0, b.wg A = some (lo1, hi1, p0) := fun A lo1 hi1 p1 e => by
        by_cases ew : A = Wg
        · subst ew
          rw [upd_same] at e
          obtain ⟨rfl, rfl, rfl⟩ : lo = lo1 ∧ hi = hi1 ∧ p' = p1 := by
            have e1 := Option.some.inj e
            exact ⟨congrArg (·.1) e1, congrArg (·.2.1) e1, congrArg (·.2.2) e1⟩
          exact ⟨p, hwg⟩
        · rw [upd_ne _ _ ew] at e; exact ⟨p1, e⟩
      obtain ⟨q1, e1⟩ := key A lo1 hi1 p1 e1
      obtain ⟨q2, e2⟩ := key A' lo2 hi2 p2 e2
      exact S.apart A lo1 hi1 q1 A' lo2 hi2 q2 e1 e2
    · obtain ⟨k1, ⟨st, sm, k2⟩, k3⟩ := S.member i A s kn B c kk z e
      refine ⟨k1, ?_, fun hx => ?_⟩
      · by_cases ew : A = Wg
        · subst ew; exact ⟨_, _, hnew⟩
        · exact ⟨st, sm, by unfold WgAt at k2 ⊢; rw [ha2.block A ew]; exact k2⟩
      · obtain ⟨lo1, hi1, p1, m1, m2⟩ := k3 hx
        show ∃ lo1 hi1 p1, upd b.wg Wg (some (lo, hi, p')) A = some (lo1, hi1, p1) ∧ _
        by_cases ew : A = Wg
        · subst ew
          rw [hwg] at m1
          obtain ⟨rfl, rfl, rfl⟩ : lo = lo1 ∧ hi = hi1 ∧ p = p1 := by
            have e1 := Option.some.inj m1
            exact ⟨congrArg (·.1) e1, congrArg (·.2.1) e1, congrArg (·.2.2) e1⟩
          exact ⟨lo, hi, p', upd_same _ _ _, m2⟩
        · exact ⟨lo1, hi1, p1, by rw [upd_ne _ _ ew]; exact m1, m2⟩
    · rw [o2.size]
      exact S.pastOwn (Nat.le_refl _) hes
    · obtain ⟨r, hr⟩ := S.rel x A s kn B c kk z e h6
      refine ⟨r, hr.appOther hops fun z => ?_⟩
      rw [← z, S.hr] at e; cases e
end
end Go.Proofs.Ytaiinkeendejdaa
namespace Go.Proofs.Ytaiinkeendejdaa
open Go.Conc
open Go.ConcN (sumTo upd sumTo_upd upd_ne upd_same WgLive)
open Go.ConcR (KK wgBlock WgAt stA smA rd wr mk DC0)
section
variable {P : Program} {ty : TypeId} {Post : Value → World → Prop} {b : Bd} {h : Nat} {T : Trace} {gs : Array Goroutine} {w w' : World} {q : Nat → Nat × Nat}
/-- who hears the bell c leaves; whoever else has nothing to do with it -/
def Rings (P : Program) (ty : TypeId) (b : Bd) (c : Nat) (role' : Nat → Role) (i : Nat) : Prop :=
  (role' i = b.role i ∧ ∀ st s, (b.role i).at st = some s → ¬ s.has c) ∨
  ∃ s kn B Wg kk z lo hi p, b.role i = .seat s kn B ∧ role' i = .leave Wg s kn B c kk z ∧ s.cases[kk]? = some (rcase c z) ∧ 0 < i ∧ b.wg Wg = some (lo, hi, p) ∧ lo ≤ i ∧ i < hi ∧ ∀ g₂, s.home g₂ → ∃ m, LSit P ty Wg 7 m 0 (Go.Conc.served g₂ (commResult s.cases s.shape kk z false))
/-- stage and fuel behind the bell -/
def rungQ (role' : Nat → Role) (b : Bd) (q : Nat → Nat × Nat) (i : Nat) : Nat × Nat :=
  match b.role i, role' i with
  | .seat .., .leave .. => (8, if (q i).2 = 0 then 1 else (q i).2)
  | _, _ => q i
theorem rungQ_same {role' : Nat → Role} {i : Nat} (h : role' i = b.role i) : rungQ role' b q i = q i := by
  unfold rungQ
  rw [h]
  cases b.role i <;> rfl
theorem rungQ_leave {role' : Nat → Role} {i Wg c kk : Nat} {s : Seat} {kn : List (Addr × Value)} {B : Nat} {z : Value} (h : b.role i = .seat s kn B) (h' : role' i = .leave Wg s kn B c kk z) : rungQ role' b q i = (8, if (q i).2 = 0 then 1 else (q i).2) := by
  unfold rungQ
  rw [h, h']
theorem At.close {a a' : Goroutine} {c : Nat} {role' : Nat → Role} (hrun : a.status = .running) (hrun' : a'.status = .running) (hwake : mayWake P a = true) (hsh : b.shun c = false) (hru : b.rung c = false) {k : Nat} (hc : w.heap[c]? = some (.chan 0 #[] false k k false))
    (hs : ∀ w₁, RO ty b w w₁ → stepG P (h == 0) a w₁ = .go a' (w₁.setChan c 0 #[] true k k false) (closeEvents c)) (hrole : ∀ i, Rings P ty b c role' i)
    (fin : At P ty Post { b with role := role', rung := upd b.rung c true } h a' (w.setChan c 0 #[] true k k false)) : At P ty Post b h a w :=
  pick_holder hrun fun gs wp d sl sl' T q S o ha hst => by
    generalize hw₁ : wp.at d = w₁ at S o hst
    have hlt : h < gs.size := (Array.getElem?_eq_some_iff.1 ha).1
    have hc1 : w₁.heap[c]? = some (.chan 0 #[] false k k false) := by rw [o.heap c hsh]; exact hc
    have hcB : c < w₁.heap.size := (Array.getElem?_eq_some_iff.1 hc1).1
    have hes : ∀ e ∈ closeEvents c, EvO b w₁.heap.size e := by
      intro e he
      simp only [closeEvents, List.mem_toArray, List.mem_cons, List.not_mem_nil, or_false] at he
      rcases he with rfl | rfl
      · refine ⟨fun x hx => ?_, by simp, by simp, fun _ => by simp, hcB⟩
        simp only [MemAct.ofEvent, MemAct.touch?, Option.some.injEq] at hx
        subst hx
        exact ⟨fun a' e => (by cases e), fun ⟨_, e, _⟩ => by cases e⟩
      · exact ⟨fun x hx => by simp [MemAct.ofEvent, MemAct.touch?] at hx, by simp, by simp, fun _ => by simp, hcB⟩
    have hstp := hs _ (S.ro o)
    obtain ⟨hops, hsx, hl, hdd, hn⟩ := evO_ops (b := b) (i := h) (fn := a.frame.fn) (pos := a.frame.place) hes
    have hcell := cell_setChan hc1 rfl 0 #[] true k k false
    have hheap : ∀ x, x ≠ c → (w₁.setChan c 0 #[] true k k false).heap[x]? = w₁.heap[x]? := fun x hx => heap_setChan_ne w₁ _ _ _ _ _ _ (fun e => hx e.symm)
    have hself := heap_setChan_self w₁ hc1 0 #[] true k k false
    have hnc : ∀ {x : Nat} {cs : Array Value} {t : TypeId} {f : Nat × Nat}, w₁.heap[x]? = some (.cells cs t f) → x ≠ c := fun hx e => by rw [e, hc1] at hx; cases hx
    have hsize := size_setChan w₁ c 0 #[] true k k false
    have hsys : (w₁.setChan c 0 #[] true k k false).os = b.old.os ∧ (w₁.setChan c 0 #[] true k k false).output = b.old.output := S.old.sys
    generalize hw' : w₁.setChan c 0 #[] true k k false = w' at hsys hstp hcell hheap hself hsize
    have hoff : Off b.shun (w.setChan c 0 #[] true k k false) w' := by rw [← hw']; exact o.setChan _ _ _ _ _ _ _
    have hwok : ∀ y : Goroutine, woken P a a' w' y = y.again w' := fun y => by simp [woken, hwake, hrun']
    have wg : ∀ Wg st sm, WgAt ty Wg w₁ st sm → WgAt ty Wg w' st sm := fun Wg st sm hx => by unfold WgAt at hx ⊢; rw [hheap Wg (hnc hx)]; exact hx
    have hq6 : ∀ x, (rungQ role' b q x).1 = (q x).1 ∨ (5 ≤ (q x).1 ∧ 5 ≤ (rungQ role' b q x).1) := fun x => by
      rcases hrole x with ⟨e, _⟩ | ⟨s, kn, B, Wg, kk, z, _, _, _, e, e', _⟩
      · rw [rungQ_same e]; exact .inl rfl
      · rw [rungQ_leave e e']
        have : 5 ≤ (q x).1 := by
          by_cases hlt : x < gs.size
          · have hxh : x ≠ h := fun ex => by rw [ex, S.hr] at e; cases e
            have := S.fit x _ hxh (Array.getElem?_eq_getElem hlt)
            rw [e] at this
            rw [this.1]; omega
          · have := (S.above x (by rw [← S.n]; omega)).2
            rw [e] at this; cases this
        exact .inr ⟨this, by simp⟩
    have hkn : ∀ i, (role' i).kn = (b.role i).kn ∧ (role' i).bd = (b.role i).bd ∧ ((role' i) = .mute ↔ (b.role i) = .mute) := fun i => by
      rcases hrole i with ⟨e, _⟩ | ⟨s, kn, B, Wg, kk, z, _, _, _, e, e', _⟩
      · rw [e]; exact ⟨rfl, rfl, Iff.rfl⟩
      · rw [e, e']; exact ⟨rfl, rfl, by simp⟩
    have hat : ∀ i s, (role' i).at (rungQ role' b q i).1 = some s → (b.role i).at (q i).1 = some s := fun i s hx => by
      rcases hrole i with ⟨e, _⟩ | ⟨s', kn, B, Wg, kk, z, _, _, _, e, e', _⟩
      · rw [e, rungQ_same e] at hx; exact hx
      · rw [e', rungQ_leave e e'] at hx
        rw [e]
        simpa [Role.at] using hx
    have hrh : role' h = b.role h := by
      rcases hrole h with ⟨e, _⟩ | ⟨s, kn, B, Wg, kk, z, _, _, _, e, _⟩
      · exact e
      · rw [S.hr] at e; cases e
    have hrt : stepT P (crowd gs wp sl) = _ := hst.trans (runT_crowd_go (sl := sl') ha hstp)
    refine Ends.next hrt (fin _ w' sl' _ (rungQ role' b q) ⟨by simpa using S.n, hrh.trans S.hr, by rw [rungQ_same hrh]; exact S.hq, fun e => by rw [hdd T]; exact S.deaf e, fun x y hx hy => ?_, fun i x hx => ?_, fun x => by rw [hsize, (hkn x).2.1]; exact S.bd x, fun x hx => ?_, ⟨fun x hx => by rw [hsize]; exact S.shunC.1 x hx, fun i s e c' hc' => S.shunC.2 i s (hat i s e) c' hc'⟩, fun i s e => S.wf i s (hat i s e), fun i s e c' hc' => ?_, fun i s kn B e c' hc' => ?_, fun i Wg s kn B c' kk z e h8 => ?_, fun j hj => ?_, fun Wg lo hi p e => ?_, S.apart, fun i Wg s kn B c' kk z e => ?_, ?_, ?_, S.norel.app hn, fun i Wg s kn B c' kk z e h6 => ?_, ⟨by rw [hsize]; exact S.old.le, hsys, fun x h1 h2 => (hheap x (fun e => by have h3 : b.shun x = true := h2; rw [e, hsh] at h3; cases h3)).trans (S.old.same x h1 h2), S.old.wg, fun i Wg s kn B c' kk z e => ?_⟩⟩ hoff (Array.getElem?_setIfInBounds_self_of_lt (by simpa using hlt)))
    · -- who each of the others is now
      have hxh : x ≠ h := hx
      rw [Array.getElem?_setIfInBounds_ne (fun e => hxh e.symm), Array.getElem?_map] at hy
      obtain ⟨y₀, hy₀, rfl⟩ := Option.map_eq_some_iff.1 hy
      rw [hwok, Deaf_other T (fun z => hxh z.symm) _ hops]
      have hf := S.fit x y₀ hxh hy₀
      have hK := S.kn x
      rcases hrole x with ⟨e, hno⟩ | ⟨s, kn, B, Wg, kk, z, lo, hi, p, e, e', hk, h0, hwg, hlo, hhi, hhome⟩
      · show Fit P ty x (Deaf T x) (rungQ role' b q x) (y₀.again w') (role' x)
        rw [e, rungQ_same e]
        have hag : y₀.again w' = y₀ := by
          have hm := S.member x
          have hch := S.chans x
          have hdu := S.dumb x
          have hwf := S.wf x
          have hK' : Kn (b.role x).kn w' := fun p hp => by rw [hcell]; exact hK p hp
          generalize b.role x = r at hf hm hch hdu hwf hno hK'
          cases r with
          | mute => exact again_of_running hf.2.2.status w'
          | seat s kn B =>
            refine Sits.again hK' hf.2 (hwf s rfl) fun c' hc' => ?_
            obtain ⟨k', hk'⟩ := hch s rfl c' hc'
            rw [hdu s kn B rfl c' hc'] at hk'
            have hne : c' ≠ c := fun ec => hno 0 s rfl (ec ▸ hc')
            exact ⟨_, _, _, _, _, by rw [hheap c' hne]; exact hk'⟩
          | leave Wg s kn B c kk z =>
            rcases hf.2 with ⟨_, hr, _⟩ | ⟨_, hl⟩
            · exact again_of_running (.inl hr) w'
            · obtain ⟨_, hlive, _⟩ := hm Wg s kn B c kk z rfl
              exact again_of_running (hl.status hlive) w'
        rw [hag]; exact hf
      · show Fit P ty x (Deaf T x) (rungQ role' b q x) (y₀.again w') (role' x)
        rw [e', rungQ_leave e e']
        rw [e] at hf hK
        have hx0 : (x == 0) = false := by simp; omega
        refine ⟨h0, .inl ?_⟩
        have hsits := hf.2
        rw [hx0] at hsits
        rcases hsits with ⟨n, w₀, hn', hG⟩ | ⟨hn', g₀, g₂, rfl, hat'⟩
        · have hr : y₀.status = .running := (Sits.status (show Kn kn w₁ from hK) (.inl ⟨n, w₀, hn', hG⟩)).elim (·.1) fun z => by omega
          rw [again_of_running (.inl hr)]
          refine ⟨rfl, hr, ?_, hk, hhome⟩
          rw [if_neg (by omega)]
          exact .inl ⟨n, w₀, hn', hG⟩
        · rw [again_some_closed hk hself]
          refine ⟨rfl, rfl, ?_, hk, hhome⟩
          rw [if_pos hn']
          exact .inl ⟨0, w', rfl, fun _ _ => ⟨g₂, hat'.tries _ _⟩⟩
    · have hx : x ∈ (role' i).kn := hx
      rw [(hkn i).1] at hx
      obtain ⟨g1, g2, g3⟩ := S.keep i x hx
      refine ⟨by rw [hcell]; exact g1, g2, ?_⟩
      show x.1.block < (role' i).bd
      rw [(hkn i).2.1]; exact g3
    · obtain ⟨h1, cs, t, h2⟩ := S.warm x hx
      exact ⟨h1, cs, t, by rw [hheap x (hnc h2)]; exact h2⟩
    · show ∃ k', w'.heap[c']? = some (.chan 0 #[] (upd b.rung c true c') k' k' false)
      by_cases ec : c' = c
      · subst ec
        exact ⟨k, by rw [upd_same]; exact hself⟩
      · obtain ⟨k', hk'⟩ := S.chans i s (hat i s e) c' hc'
        exact ⟨k', by rw [upd_ne _ _ ec, hheap c' ec]; exact hk'⟩
    · show upd b.rung c true c' = false
      rcases hrole i with ⟨e1, hno⟩ | ⟨_, _, _, _, _, _, _, _, _, _, e', _⟩
      · have e : b.role i = .seat s kn B := by rw [← e1]; exact e
        have hne : c' ≠ c := fun ec => hno 0 s (by rw [e]; rfl) (ec ▸ hc')
        rw [upd_ne _ _ hne]
        exact S.dumb i s kn B e c' hc'
      · have e : role' i = .seat s kn B := e
        rw [e'] at e; cases e
    · show upd b.rung c true c' = true ∧ ∀ c2, s.has c2 → c2 ≠ c' → upd b.rung c true c2 = false
      have e : role' i = .leave Wg s kn B c' kk z := e
      rcases hrole i with ⟨e1, hno⟩ | ⟨s2, kn2, B2, Wg2, kk2, z2, _, _, _, e2, e', hk2, _⟩
      · have e : b.role i = .leave Wg s kn B c' kk z := by rw [← e1]; exact e
        rw [rungQ_same e1] at h8
        obtain ⟨g1, g2⟩ := S.bell i Wg s kn B c' kk z e h8
        refine ⟨?_, fun c2 h2 h3 => ?_⟩
        · have hne : c' ≠ c := fun ec => by rw [ec, hru] at g1; cases g1
          rw [upd_ne _ _ hne]; exact g1
        · have hne : c2 ≠ c := fun ec => hno 8 s (by rw [e]; rfl) (ec ▸ h2)
          rw [upd_ne _ _ hne]; exact g2 c2 h2 h3
      · rw [e'] at e
        injection e with _ e3 e4 e5 e6 _ _
        subst e3; subst e6
        refine ⟨upd_same _ _ _, fun c3 h2 h3 => ?_⟩
        rw [upd_ne _ _ h3]
        exact S.dumb i s2 kn2 B2 e2 c3 h2
    · have := S.n
      have hj : b.n ≤ j := hj
      rw [Deaf_other T (g' := h) (by omega) _ hops]
      exact ⟨(S.above j hj).1, (hkn j).2.2.2 (S.above j hj).2⟩
    · obtain ⟨g1, g2, g3⟩ := S.groups Wg lo hi p e
      obtain ⟨_, _, _, hbl⟩ := g1.block
      exact ⟨g1.congr (fun x _ _ => hq6 x) (hheap Wg (hnc hbl)), g2, g3⟩
    · have e : role' i = .leave Wg s kn B c' kk z := e
      rcases hrole i with ⟨e1, hno⟩ | ⟨s2, kn2, B2, Wg2, kk2, z2, lo, hi, p, e2, e', hk2, h0, hwg, hlo, hhi, _⟩
      · have e : b.role i = .leave Wg s kn B c' kk z := by rw [← e1]; exact e
        obtain ⟨g1, ⟨st, sm, g2⟩, g3⟩ := S.member i Wg s kn B c' kk z e
        exact ⟨g1, ⟨st, sm, wg Wg _ _ g2⟩, g3⟩
      · rw [e'] at e
        injection e with e3
        subst e3
        obtain ⟨g1, g2, _⟩ := S.groups Wg2 lo hi p hwg
        obtain ⟨st, sm, hl⟩ := g1.live
        exact ⟨g2, ⟨st, sm, wg Wg2 _ _ hl⟩, fun _ => ⟨lo, hi, p, hwg, hlo, hhi⟩⟩
    · rw [hsize, ← hw']
      exact even_setChan S.even _ _ _ _ _ _ _
    · have p1 := S.pastOwn (fn := a.frame.fn) (pos := a.frame.place) (Nat.le_refl _) hes
      rw [hsize]
      refine ⟨p1.clean, fun i x hx hm => ?_, p1.plain, fun i x hx hw g hg hS => ?_, fun g hg => ?_, p1.seen⟩
      · refine (p1.known i x hx hm).imp id fun z => z.imp (fun ⟨g, hg, hL, hS⟩ => ⟨g, hg, fun e => hL ((hkn g).2.2.1 e), ?_⟩) id
        rcases hS with ⟨h1, h2, h3⟩ | hS
        · refine .inl ⟨h1, h2, ?_⟩
          show Sn (role' g).kn x.loc
          rw [(hkn g).1]; exact h3
        · exact .inr hS
      · refine p1.wrote i x hx hw g (hg.imp id fun hg => ?_) ?_
        · obtain ⟨s, hs⟩ := Option.isSome_iff_exists.1 hg
          rw [hat g s hs]; rfl
        · show Sn (b.role g).kn x.loc
          rw [← (hkn g).1]; exact hS
      · refine p1.hears g (hg.imp id fun hg => ?_)
        obtain ⟨s, hs⟩ := Option.isSome_iff_exists.1 hg
        rw [hat g s hs]; rfl
    · have e : role' i = .leave Wg s kn B c' kk z := e
      rcases hrole i with ⟨e1, hno⟩ | ⟨s2, kn2, B2, Wg2, kk2, z2, lo, hi, p, e2, e', _⟩
      · have e : b.role i = .leave Wg s kn B c' kk z := by rw [← e1]; exact e
        rw [rungQ_same e1] at h6
        obtain ⟨r, hr⟩ := S.rel i Wg s kn B c' kk z e h6
        refine ⟨r, hr.appOther hops fun z => ?_⟩
        rw [← z, S.hr] at e; cases e
      · rw [rungQ_leave e2 e'] at h6
        have h6 : 8 ≤ 6 := h6
        omega
    · have e : role' i = .leave Wg s kn B c' kk z := e
      rcases hrole i with ⟨e1, hno⟩ | ⟨s2, kn2, B2, Wg2, kk2, z2, lo, hi, p, e2, e', _, _, h9, _⟩
      · rw [e1] at e
        exact S.old.role i Wg s kn B c' kk z e
      · rw [e'] at e
        injection e with e3
        subst e3
        exact S.old.wg _ (by rw [h9]; simp)
end
end Go.Proofs.Ytaiinkeendejdaa
