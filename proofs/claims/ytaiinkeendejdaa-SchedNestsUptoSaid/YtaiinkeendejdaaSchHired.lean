/-
  SCHED: the runner's view while threads are hired. No condition.
-/
import Derived.Test.YtaiinkeendejdaaSchMake
namespace Go.Proofs.Ytaiinkeendejdaa
open Go.RowKit Go.Conc
open Go.ConcN (sumTo upd sumTo_upd upd_ne upd_same WgLive)
set_option maxRecDepth 100000
/-- a frosted variable of the run -/
structure Frz (r : Rn) (Bl : Nat) (b : Bd) (v : World) (x : Nat) (u : Value) : Prop where
  cell : v.cell? ⟨x, 0, none⟩ = some u
  ice : iceF b.F ⟨x, 0, none⟩ = true
  lt : x < Bl
  shun : b.shun x = false
  low : r.N₀ ≤ x
  ne : x ≠ r.rb
/-- r.n threads are hired; Bl blocks stood ahead of the first -/
structure HireSt {σ : Type} (r : Rn) (b0 : Bd) (v0 : World) (O0 : Nat → Prop) (J : Nat → σ → (Nat → Prop) → World → Prop) (s0 : σ) (Bl : Nat) (b : Bd) (v w : World) : Prop where
  row : ∃ lv, v.cell? ⟨r.rb, 0, none⟩ = some lv ∧ OwnT v Bl lv ((List.range r.n).map r.th) ∧ (0 < r.n → lv = .slice (some ⟨r.lb, 0, none⟩) r.n r.cap)
  marks : v.cell? ⟨r.rb, 1, none⟩ = some (.slice none 0 0)
  warm0 : v.frozen? ⟨r.rb, 0, none⟩ = false
  warm1 : v.frozen? ⟨r.rb, 1, none⟩ = false
  low : r.rb < Bl ∧ r.N₀ ≤ r.rb ∧ r.N₀ ≤ Bl ∧ Bl ≤ v.heap.size ∧ r.B = v.heap.size
  open_ : b.shun r.rb = false
  thr : ∀ k, k < r.n → ThAt r b v O0 (fun _ => false) k
  tvlb : ∀ k, k < r.n → r.tv k ≠ r.lb
  svc : Frz r Bl b v r.sv (.chan (some r.stop))
  stvc : Frz r Bl b v r.stv r.step
  stopc : (∃ z, v.heap[r.stop]? = some (.chan 0 #[] false z z false)) ∧ b.shun r.stop = false ∧ b.rung r.stop = false ∧ r.N₀ ≤ r.stop ∧ r.stop < Bl
  wg : b.wg = upd b0.wg r.Wg (some (r.i0, r.i0 + r.n, 0))
  wgS : b.shun r.Wg = true ∧ r.Wg < Bl ∧ r.N₀ ≤ r.Wg
  pos : 0 < r.i0
  role : ∀ x, ¬ (r.i0 ≤ x ∧ x < r.i0 + r.n) → b.role x = b0.role x
  num : b.n = r.i0 + r.n ∧ r.i0 = b0.n
  F : ∀ x, x < r.N₀ → b.F x = b0.F x
  Fle : ∀ x, b0.F x ≤ b.F x
  shun : ∀ x, x < r.N₀ → b.shun x = b0.shun x
  rung : ∀ x, x < r.N₀ → b.rung x = b0.rung x
  wait : b.wait = b0.wait
  ear : b.ear = b0.ear
  old : b.oldN = b0.oldN ∧ b.old = b0.old
  J : J 0 s0 O0 v
  own : OwnO b r.N₀ O0
  same : ∀ x, x < r.N₀ → v.heap[x]? = v0.heap[x]?
  sim : Sim b.shun b.F v w
  even : Even (ZT b.shun v.heap.size) v
  tidy : Tidy b v.heap.size
/-- one thread more -/
def Rn.more (r : Rn) (th tv c d lb cap B : Nat) : Rn := { r with n := r.n + 1, cap := cap, lb := lb, B := B, th := upd r.th r.n th, tv := upd r.tv r.n tv, c := upd r.c r.n c, d := upd r.d r.n d, bd := upd r.bd r.n B }
/-- the band with one thread more -/
noncomputable def Bd.more (b b0 : Bd) (r' : Rn) : Bd := { b with n := b.n + 1, F := upd (upd b.F (r'.tv (r'.n - 1)) 1) (r'.th (r'.n - 1)) 2, role := upd b.role b.n (.seat (r'.seat (r'.n - 1)) (r'.kn (r'.n - 1)) (r'.bd (r'.n - 1))), wg := upd b0.wg r'.Wg (some (r'.i0, r'.i0 + r'.n, 0)) }
section
variable {σ : Type} {r : Rn} {b0 b : Bd} {v0 v v1 v2 w w2 : World} {O0 : Nat → Prop} {J : Nat → σ → (Nat → Prop) → World → Prop} {s0 : σ} {Bl c d th tv : Nat} {lv : Value}
theorem iceF_more {F : Nat → Nat} {a : Addr} {x y n m : Nat} (h : iceF F a = true) (h1 : a.block ≠ x) (h2 : a.block ≠ y) : iceF (upd (upd F x n) y m) a = true := by
  simp only [iceF, decide_eq_true_eq] at h ⊢
  rw [upd_ne _ _ h2, upd_ne _ _ h1]; exact h
theorem HireSt.next (H : HireSt r b0 v0 O0 J s0 Bl b v w) (hJS : JStill r.N₀ J) (hlv : v.cell? ⟨r.rb, 0, none⟩ = some lv) (M : Made v v1 c d th tv) (R : Rowed (frostW (frostW v1 tv 1) th 2) v2 r.rb Bl lv ((List.range r.n).map r.th ++ [th])) :
    ∃ lb cap, ∀ w2, Sim b.shun (upd (upd b.F tv 1) th 2) v2 w2 → Even (ZT b.shun v2.heap.size) v2 → HireSt (r.more th tv c d lb cap v2.heap.size) b0 v0 O0 J s0 Bl (b.more b0 (r.more th tv c d lb cap v2.heap.size)) v2 w2 := by
  obtain ⟨lv0, l1, l2, l3⟩ := H.row
  obtain rfl : lv0 = lv := Option.some.inj (l1.symm.trans hlv)
  obtain ⟨lv', n1, n2, n3⟩ := R.row
  obtain ⟨g, cap, hlv', hgB⟩ : ∃ g cap, lv' = .slice (some ⟨g, 0, none⟩) (r.n + 1) cap ∧ Bl ≤ g := by
    rcases n2.form with ⟨_, e⟩ | ⟨g, cap, e, hg⟩
    · simp at e
    · exact ⟨g, cap, by simpa using e, hg⟩
  refine ⟨g, cap, fun w2 hs he => ?_⟩
  have hsz1 : (frostW (frostW v1 tv 1) th 2).heap.size = v.heap.size + 4 := by rw [frostW_size, frostW_size]; exact M.size
  have hsz2 : v.heap.size + 4 ≤ v2.heap.size := by rw [← hsz1]; exact R.size
  obtain ⟨q1, q2, q3, q4, q5⟩ := H.low
  have hold : ∀ x, x < v.heap.size → x ≠ r.rb → some x ≠ lv0.ownBlock → v2.heap[x]? = v.heap[x]? := fun x h1 h2 h3 => by
    rw [R.same x (by omega) h2 h3, frostW_ne (by have := M.new; omega), frostW_ne (by have := M.new; omega)]
    exact M.same x h1
  have hlow : ∀ x, x < Bl → some x ≠ lv0.ownBlock := fun x hx e => by
    have := (l2.block e.symm).1; omega
  have hnew : ∀ x, v.heap.size ≤ x → x < v.heap.size + 4 → v2.heap[x]? = (frostW (frostW v1 tv 1) th 2).heap[x]? := fun x h1 h2 => R.same x (by omega) (by omega) fun e => by
    have := (l2.block e.symm).2; omega
  have hth2 : v2.heap[th]? = some (.cells #[.chan (some c), .chan (some d), .bool false] 71 (0, 2)) := by
    rw [hnew th M.new.2.2.1.1 M.new.2.2.1.2]
    exact frostW_self (by rw [frostW_ne M.ne.2]; exact M.hth)
  have htv2 : v2.heap[tv]? = some (.cells #[.pointer (some ⟨th, 0, none⟩)] 69 (0, 1)) := by
    rw [hnew tv M.new.2.2.2.1 M.new.2.2.2.2, frostW_ne M.ne.2.symm]
    exact frostW_self M.htv
  have hne_c : ∀ {x : Nat} {u}, v1.heap[x]? = some u → isCells u = false → x ≠ th ∧ x ≠ tv := fun {x u} hu hi => by
    constructor
    · intro e
      rw [e, M.hth] at hu
      have := Option.some.inj hu
      subst this
      cases hi
    · intro e
      rw [e, M.htv] at hu
      have := Option.some.inj hu
      subst this
      cases hi
  have hc2 : v2.heap[c]? = some (.chan 0 #[] false 0 0 false) := by
    obtain ⟨e1, e2⟩ := hne_c M.hc rfl
    rw [hnew c M.new.1.1 M.new.1.2, frostW_ne e1, frostW_ne e2]; exact M.hc
  have hd2 : v2.heap[d]? = some (.chan 0 #[] false 0 0 false) := by
    obtain ⟨e1, e2⟩ := hne_c M.hd rfl
    rw [hnew d M.new.2.1.1 M.new.2.1.2, frostW_ne e1, frostW_ne e2]; exact M.hd
  have hO : ∀ x, r.N₀ ≤ x → ¬ O0 x := fun x hx ho => by have := (H.own x ho).2.2; omega
  have hnz : ∀ x, v.heap.size ≤ x → b.shun x = false := fun x hx => by
    cases e : b.shun x with
    | false => rfl
    | true => have := H.sim.low x e; rw [← H.sim.size] at this; omega
  have hnr : ∀ x, v.heap.size ≤ x → b.rung x = false := fun x hx => by
    cases e : b.rung x with
    | false => rfl
    | true => have := H.tidy.rung x e; omega
  have frz : ∀ {x u}, Frz r Bl b v x u → Frz (r.more th tv c d g cap v2.heap.size) Bl (b.more b0 (r.more th tv c d g cap v2.heap.size)) v2 x u := fun {x u} Z => by
    refine ⟨(cell_same (a := ⟨x, 0, none⟩) (hold x (by have := Z.lt; omega) Z.ne (hlow x Z.lt))).trans Z.cell, ?_, Z.lt, Z.shun, Z.low, Z.ne⟩
    have h1 : x ≠ tv := by have := Z.lt; have := M.new; omega
    have h2 : x ≠ th := by have := Z.lt; have := M.new; omega
    show iceF (upd (upd b.F (upd r.tv r.n tv (r.n + 1 - 1)) 1) (upd r.th r.n th (r.n + 1 - 1)) 2) _ = true
    rw [show r.n + 1 - 1 = r.n by omega, upd_same, upd_same]
    exact iceF_more Z.ice h1 h2
  have hF' : (b.more b0 (r.more th tv c d g cap v2.heap.size)).F = upd (upd b.F tv 1) th 2 := by
    show upd (upd b.F (upd r.tv r.n tv (r.n + 1 - 1)) 1) (upd r.th r.n th (r.n + 1 - 1)) 2 = _
    rw [show r.n + 1 - 1 = r.n by omega, upd_same, upd_same]
  have hrole' : (b.more b0 (r.more th tv c d g cap v2.heap.size)).role = upd b.role b.n (.seat ((r.more th tv c d g cap v2.heap.size).seat r.n) ((r.more th tv c d g cap v2.heap.size).kn r.n) v2.heap.size) := by
    show upd b.role b.n (.seat ((r.more th tv c d g cap v2.heap.size).seat (r.n + 1 - 1)) ((r.more th tv c d g cap v2.heap.size).kn (r.n + 1 - 1)) (upd r.bd r.n v2.heap.size (r.n + 1 - 1))) = _
    rw [show r.n + 1 - 1 = r.n by omega, upd_same]
  have hseatN : ∀ x, ((r.more th tv c d g cap v2.heap.size).seat r.n).has x → x = c ∨ x = r.stop := fun x hx => by
    have := seatLive_has hx
    simpa [Rn.more, upd_same] using this
  have hrow : (List.range (r.n + 1)).map (upd r.th r.n th) = (List.range r.n).map r.th ++ [th] := by
    rw [List.range_succ, List.map_append, List.map_singleton, upd_same]
    congr 1
    refine List.map_congr_left fun j hj => ?_
    have := List.mem_range.1 hj
    rw [upd_ne _ _ (by omega)]
  obtain ⟨⟨zs, hst⟩, hst2⟩ := H.stopc
  have hstop2 : v2.heap[r.stop]? = some (.chan 0 #[] false zs zs false) := by
    rw [hold r.stop (by omega) (fun e => ?_) (hlow _ hst2.2.2.2)]
    · exact hst
    · have h := H.marks
      unfold World.cell? at h
      rw [← e] at h
      simp only [hst] at h
      cases h
  have hF2 : ∀ x, x < v.heap.size → upd (upd b.F tv 1) th 2 x = b.F x := fun x hx => by
    rw [upd_ne _ _ (by have := M.new; omega), upd_ne _ _ (by have := M.new; omega)]
  have hlb : 0 < r.n → lv0.ownBlock = some r.lb := fun h => by rw [l3 h]; rfl
  have hth_own : ∀ k, k < r.n → some (r.th k) ≠ lv0.ownBlock := fun k hk e => by
    rw [hlb (by omega)] at e
    exact (H.thr k hk).off.1 (Option.some.inj e)
  have htv_own : ∀ k, k < r.n → some (r.tv k) ≠ lv0.ownBlock := fun k hk e => by
    rw [hlb (by omega)] at e
    exact H.tvlb k hk (Option.some.inj e)
  have hg : ∀ x, x < v.heap.size + 4 → some x ≠ lv0.ownBlock → x ≠ g := fun x h1 h2 e => by
    subst e
    rcases n3 x (by rw [hlv']; rfl) with h3 | h3
    · exact h2 h3.symm
    · omega
  have hnown : ∀ x, v.heap.size ≤ x → some x ≠ lv0.ownBlock := fun x hx e => by have := (l2.block e.symm).2; omega
  have hch_own : ∀ {x z}, v.heap[x]? = some (.chan 0 #[] false z z false) → some x ≠ lv0.ownBlock := fun {x z} hx e => by
    obtain ⟨_, hm2⟩ := l2
    rcases hm2 with ⟨e1, _⟩ | ⟨g', cap', cur, hv, _, hh, _⟩
    · rw [e1] at e; cases e
    · rw [hv] at e
      obtain rfl : x = g' := by simpa [Value.ownBlock] using e
      rw [hx] at hh; cases hh
  have hch_rb : ∀ {x z}, v.heap[x]? = some (.chan 0 #[] false z z false) → x ≠ r.rb := fun {x z} hx e => by
    have h := H.marks
    unfold World.cell? at h
    rw [← e] at h
    simp only [hx] at h
    cases h
  have hrb1 : (frostW (frostW v1 tv 1) th 2).heap[r.rb]? = v.heap[r.rb]? := by
    rw [frostW_ne (by have := M.new; omega), frostW_ne (by have := M.new; omega)]
    exact M.same _ (by omega)
  refine ⟨⟨lv', n1, by rw [show (r.more th tv c d g cap v2.heap.size).th = upd r.th r.n th from rfl, show (r.more th tv c d g cap v2.heap.size).n = r.n + 1 from rfl, hrow]; exact n2, fun _ => hlv'⟩, R.marks.trans ((cell_same (a := ⟨r.rb, 1, none⟩) hrb1).trans H.marks), R.warm0, R.warm1.trans ((World.frozen?_of_block (a := ⟨r.rb, 1, none⟩) hrb1).trans H.warm1), ⟨q1, q2, q3, by omega, rfl⟩, H.open_, fun k hk => ?_, fun k hk => ?_, frz H.svc, frz H.stvc, ⟨⟨zs, hstop2⟩, hst2.1, hst2.2.1, hst2.2.2⟩, rfl, H.wgS, H.pos, fun x hx => ?_, ⟨?_, H.num.2⟩, fun x hx => ?_, fun x => ?_, H.shun, H.rung, H.wait, H.ear, H.old, hJS _ _ _ _ _ H.J fun x hx => ?_, fun x hx => ?_, fun x hx => ?_, by rw [hF']; exact hs, he, ?_⟩
  · have hk : k < r.n + 1 := hk
    obtain ⟨r', hr'⟩ : ∃ r', r' = r.more th tv c d g cap v2.heap.size := ⟨_, rfl⟩
    obtain ⟨b', hb'⟩ : ∃ b', b' = b.more b0 r' := ⟨_, rfl⟩
    rw [← hr'] at hrole' hF' hseatN ⊢
    rw [← hb'] at hrole' hF' ⊢
    have ei0 : r'.i0 = r.i0 := by rw [hr']; rfl
    have eN : r'.N₀ = r.N₀ := by rw [hr']; rfl
    have erb : r'.rb = r.rb := by rw [hr']; rfl
    have esv : r'.sv = r.sv := by rw [hr']; rfl
    have estv : r'.stv = r.stv := by rw [hr']; rfl
    have estop : r'.stop = r.stop := by rw [hr']; rfl
    have eWg : r'.Wg = r.Wg := by rw [hr']; rfl
    have estep : r'.step = r.step := by rw [hr']; rfl
    have elb : r'.lb = g := by rw [hr']; rfl
    have en : r'.n = r.n + 1 := by rw [hr']; rfl
    have eB : r'.B = v2.heap.size := by rw [hr']; rfl
    have eth : r'.th = upd r.th r.n th := by rw [hr']; rfl
    have etv : r'.tv = upd r.tv r.n tv := by rw [hr']; rfl
    have ec : r'.c = upd r.c r.n c := by rw [hr']; rfl
    have ed : r'.d = upd r.d r.n d := by rw [hr']; rfl
    have ebd : r'.bd = upd r.bd r.n v2.heap.size := by rw [hr']; rfl
    have esh : b'.shun = b.shun := by rw [hb']; rfl
    have erung : b'.rung = b.rung := by rw [hb']; rfl
    have hrow' : (List.range (r.n + 1)).map r'.th = (List.range r.n).map r.th ++ [th] := by rw [eth]; exact hrow
    have hat : v2.cell? ⟨g, k, none⟩ = some (.pointer (some ⟨r'.th k, 0, none⟩)) := by
      rw [hlv'] at n2
      refine n2.cell ?_
      rw [← hrow', List.getElem?_map, List.getElem?_range hk]
      rfl
    have hbn := H.num.1
    have tvl : ∀ j, j < r.n → r.tv j < v.heap.size := fun j hj => lt_of_cell ((H.thr j hj).keep (⟨r.tv j, 0, none⟩, .pointer (some ⟨r.th j, 0, none⟩)) (by simp [Rn.kn, knLive])).1
    have thl : ∀ j, j < r.n → r.th j < v.heap.size := fun j hj => lt_of_cell ((H.thr j hj).keep (⟨r.th j, 0, none⟩, .chan (some (r.c j))) (by simp [Rn.kn, knLive])).1
    by_cases hkn : k = r.n
    · subst hkn
      have kth : r'.th r.n = th := by rw [eth, upd_same]
      have ktv : r'.tv r.n = tv := by rw [etv, upd_same]
      have kc : r'.c r.n = c := by rw [ec, upd_same]
      have kd : r'.d r.n = d := by rw [ed, upd_same]
      have kbd : r'.bd r.n = v2.heap.size := by rw [ebd, upd_same]
      have cell2 : ∀ {x : Nat} {u cs t f}, v2.heap[x]? = some (.cells cs t f) → cs[0]? = some u → v2.cell? ⟨x, 0, none⟩ = some u := fun {x u cs t f} h1 h2 => by
        unfold World.cell?
        simp only [h1]
        exact h2
      have new1 : ∀ x, v.heap.size ≤ x → r.N₀ ≤ x ∧ x ≠ r.rb ∧ ¬ O0 x := fun x hx => ⟨by omega, by omega, hO x (by omega)⟩
      refine ⟨by rw [elb]; exact hat, ?_, ?_, ?_, fun p hp => ?_, by rw [kbd, eB]; exact Nat.le_refl _, ?_, fun x hx => ?_, ?_, fun x st s' hx hs' => ?_, ?_, ?_⟩
      · rw [kth]
        unfold World.cell?
        simp only [hth2]
        rfl
      · rw [kth]
        unfold World.frozen?
        simp only [hth2]
        rfl
      · rw [ei0, hrole', ← hbn, upd_same, kbd]; rfl
      · simp only [Rn.kn, knLive, kth, ktv, kc, esv, estv, estop, estep, List.mem_cons, List.not_mem_nil, or_false] at hp
        rw [hF', kbd, esh, eN, erb]
        have f1 : ∀ {x u}, Frz r Bl b v x u → v2.cell? ⟨x, 0, none⟩ = some u ∧ iceF (upd (upd b.F tv 1) th 2) ⟨x, 0, none⟩ = true ∧ x < v2.heap.size ∧ ¬ O0 x ∧ b.shun x = false ∧ r.N₀ ≤ x ∧ x ≠ r.rb := fun {x u} Z => by
          have zl := Z.lt
          exact ⟨(cell_same (a := ⟨x, 0, none⟩) (hold x (by omega) Z.ne (hlow x Z.lt))).trans Z.cell, iceF_more Z.ice (by show x ≠ tv; have := M.new; omega) (by show x ≠ th; have := M.new; omega), by omega, hO x Z.low, Z.shun, Z.low, Z.ne⟩
        rcases hp with rfl | rfl | rfl | rfl
        · obtain ⟨g1, g2, g3⟩ := new1 tv M.new.2.2.2.1
          exact ⟨cell2 htv2 rfl, by simp [iceF, upd_ne _ _ M.ne.2.symm, upd_same], by show tv < _; have := M.new; omega, g3, hnz tv M.new.2.2.2.1, g1, g2⟩
        · exact f1 H.svc
        · exact f1 H.stvc
        · obtain ⟨g1, g2, g3⟩ := new1 th M.new.2.2.1.1
          exact ⟨cell2 hth2 rfl, by simp [iceF, upd_same], by show th < _; have := M.new; omega, g3, hnz th M.new.2.2.1.1, g1, g2⟩
      · rw [kth, kd, hF']
        refine ⟨?_, by simp [iceF, upd_same]⟩
        unfold World.cell?
        simp only [hth2]
        rfl
      · rw [kc, kd, estop] at hx
        rw [esh, erung, eN]
        rcases hx with rfl | rfl | rfl
        · obtain ⟨g1, g2, g3⟩ := new1 x M.new.1.1
          exact ⟨⟨0, hc2⟩, hnz x M.new.1.1, hnr x M.new.1.1, g3, g1⟩
        · obtain ⟨g1, g2, g3⟩ := new1 x M.new.2.1.1
          exact ⟨⟨0, hd2⟩, hnz x M.new.2.1.1, hnr x M.new.2.1.1, g3, g1⟩
        · exact ⟨⟨zs, hstop2⟩, hst2.1, hst2.2.1, hO _ hst2.2.2.1, hst2.2.2.1⟩
      · rw [kc, kd, estop]
        have := M.new
        exact ⟨M.ne.1, by omega, by omega⟩
      · rw [hrole', upd_ne _ _ (by rw [ei0] at hx; omega)] at hs'
        rw [kc, kd]
        have := M.new
        exact ⟨fun h => by have := H.tidy.seat x st s' hs' _ h; omega, fun h => by have := H.tidy.seat x st s' hs' _ h; omega⟩
      · rw [kth, elb]
        refine ⟨hg th M.new.2.2.1.2 (hnown th M.new.2.2.1.1), fun j hj => ?_⟩
        rw [en] at hj
        by_cases hjn : j = r.n
        · subst hjn
          rw [ktv]
          exact ⟨M.ne.2, fun h => absurd rfl h⟩
        · rw [etv, eth, upd_ne _ _ hjn, upd_ne _ _ hjn]
          have := tvl j (by omega)
          have := thl j (by omega)
          have := M.new
          exact ⟨by omega, fun _ => by omega⟩
      · rw [kth, esv, estv]
        have := H.svc.lt
        have := H.stvc.lt
        have := M.new
        exact ⟨by omega, by omega⟩
    · have hk' : k < r.n := by omega
      have T := H.thr k hk'
      have kth : r'.th k = r.th k := by rw [eth, upd_ne _ _ hkn]
      have ktv : r'.tv k = r.tv k := by rw [etv, upd_ne _ _ hkn]
      have kc : r'.c k = r.c k := by rw [ec, upd_ne _ _ hkn]
      have kd : r'.d k = r.d k := by rw [ed, upd_ne _ _ hkn]
      have kbd : r'.bd k = r.bd k := by rw [ebd, upd_ne _ _ hkn]
      have kkn : r'.kn k = r.kn k := by simp only [Rn.kn, kth, ktv, kc, esv, estv, estop, estep]
      have kseat : r'.seat k = r.seat k := by simp only [Rn.seat, kth, ktv, kc, esv, estv, estop, estep, eWg]
      have hthrb : r.th k ≠ r.rb := (T.keep (⟨r.th k, 0, none⟩, .chan (some (r.c k))) (by simp [Rn.kn, knLive])).2.2.2.2.2.2
      have hthv : v2.heap[r.th k]? = v.heap[r.th k]? := hold _ (thl k hk') hthrb (hth_own k hk')
      have hbdB : r.bd k ≤ v.heap.size := Nat.le_trans T.bd (by omega)
      refine ⟨by rw [elb]; exact hat, ?_, ?_, ?_, fun p hp => ?_, by rw [kbd, eB]; omega, ?_, fun x hx => ?_, ?_, fun x st s' hx hs' => ?_, ?_, ?_⟩
      · rw [kth]; exact (cell_same (a := ⟨r.th k, 2, none⟩) hthv).trans T.ended
      · rw [kth]; exact (World.frozen?_of_block (a := ⟨r.th k, 2, none⟩) hthv).trans T.warm
      · rw [ei0, hrole', upd_ne _ _ (by omega), kbd, kkn, kseat, eWg]; exact T.role
      · rw [kkn] at hp
        obtain ⟨h1, h2, h3, h4, h5, h6, h7⟩ := T.keep p hp
        have hpl := lt_of_cell h1
        have hpo : some p.1.block ≠ lv0.ownBlock := by
          simp only [Rn.kn, knLive, List.mem_cons, List.not_mem_nil, or_false] at hp
          rcases hp with rfl | rfl | rfl | rfl
          · exact htv_own k hk'
          · exact hlow _ H.svc.lt
          · exact hlow _ H.stvc.lt
          · exact hth_own k hk'
        rw [kbd, esh, eN, erb, hF']
        refine ⟨(cell_same (hold _ hpl h7 hpo)).trans h1, iceF_more h2 ?_ ?_, h3, h4, h5, h6, h7⟩
        · have := M.new; omega
        · have := M.new; omega
      · rw [kth, kd, hF']
        refine ⟨(cell_same (a := ⟨r.th k, 1, none⟩) hthv).trans T.ans.1, iceF_more T.ans.2 ?_ ?_⟩
        · show r.th k ≠ tv
          have := thl k hk'; have := M.new; omega
        · show r.th k ≠ th
          have := thl k hk'; have := M.new; omega
      · rw [kc, kd, estop] at hx
        rw [esh, erung, eN]
        obtain ⟨⟨z, h1⟩, h2⟩ := T.chan x hx
        exact ⟨⟨z, (hold x (Array.getElem?_eq_some_iff.1 h1).1 (hch_rb h1) (hch_own h1)).trans h1⟩, h2⟩
      · rw [kc, kd, estop]; exact T.ne
      · rw [kc, kd]
        rw [hrole'] at hs'
        by_cases hxn : x = b.n
        · rw [hxn, upd_same] at hs'
          obtain rfl := Option.some.inj hs'
          obtain ⟨⟨z1, hz1⟩, _⟩ := T.chan _ (.inl rfl)
          obtain ⟨⟨z2, hz2⟩, _⟩ := T.chan _ (.inr (.inl rfl))
          have l1 := (Array.getElem?_eq_some_iff.1 hz1).1
          have l2 := (Array.getElem?_eq_some_iff.1 hz2).1
          have := M.new
          refine ⟨fun h => ?_, fun h => ?_⟩
          · rcases hseatN _ h with h | h
            · omega
            · exact T.ne.2.1 h
          · rcases hseatN _ h with h | h
            · omega
            · exact T.ne.2.2 h
        · rw [upd_ne _ _ hxn] at hs'
          exact T.uniq x st s' (by rw [ei0] at hx; exact hx) hs'
      · rw [kth, elb]
        refine ⟨hg _ (by have := thl k hk'; omega) (hth_own k hk'), fun j hj => ?_⟩
        rw [en] at hj
        by_cases hjn : j = r.n
        · subst hjn
          rw [etv, eth, upd_same, upd_same]
          have := thl k hk'
          have := M.new
          exact ⟨by omega, fun _ => by omega⟩
        · rw [etv, eth, upd_ne _ _ hjn, upd_ne _ _ hjn]
          exact T.off.2 j (by omega)
      · rw [kth, esv, estv]; exact T.off2
  · have hk : k < r.n + 1 := hk
    show upd r.tv r.n tv k ≠ g
    by_cases hkn : k = r.n
    · rw [hkn, upd_same]
      exact hg tv M.new.2.2.2.2 (hnown tv M.new.2.2.2.1)
    · rw [upd_ne _ _ hkn]
      have h1 := lt_of_cell ((H.thr k (by omega)).keep (⟨r.tv k, 0, none⟩, .pointer (some ⟨r.th k, 0, none⟩)) (by simp [Rn.kn, knLive])).1
      exact hg _ (by simp only at h1; omega) (htv_own k (by omega))
  · rw [hrole', upd_ne _ _ (by have := H.num.1; intro e; exact hx ⟨by show r.i0 ≤ x; omega, by show x < r.i0 + (r.n + 1); omega⟩)]
    exact H.role x fun h => hx ⟨h.1, by show x < r.i0 + (r.n + 1); omega⟩
  · show b.n + 1 = r.i0 + (r.n + 1)
    have := H.num.1; omega
  · rw [hF', hF2 x (by have : x < r.N₀ := hx; omega)]; exact H.F x hx
  · rw [hF']
    refine Nat.le_trans (H.Fle x) ?_
    by_cases h1 : x < v.heap.size
    · rw [hF2 x h1]; exact Nat.le_refl _
    · have : b.F x = 0 := by
        by_cases hf : b.F x = 0
        · exact hf
        · have := H.sim.iceLow hf
          rw [← H.sim.size] at this
          omega
      rw [this]; exact Nat.zero_le _
  · have hx' : x < r.N₀ := by
      rcases hx with hx | hx
      · exact hx
      · exact (H.own x hx).2.2
    exact hold x (by omega) (by omega) (hlow x (by omega))
  · obtain ⟨h1, h2, h3⟩ := H.own x hx
    exact ⟨by rw [hF', hF2 x (by omega)]; exact h1, h2, h3⟩
  · have hx : x < r.N₀ := hx
    exact (hold x (by omega) (by omega) (hlow x (by omega))).trans (H.same x hx)
  · refine ⟨fun x st s' hs' c' hc' => ?_, fun x hx => ?_, fun x hx => ?_⟩
    · rw [hrole'] at hs'
      by_cases hxn : x = b.n
      · rw [hxn, upd_same] at hs'
        obtain rfl := Option.some.inj hs'
        rcases hseatN _ hc' with rfl | rfl
        · have := M.new; omega
        · omega
      · rw [upd_ne _ _ hxn] at hs'
        have := H.tidy.seat x st s' hs' c' hc'
        omega
    · by_cases hxW : x = r.Wg
      · rw [hxW]; have := H.wgS.2.1; omega
      · have hx : upd b0.wg r.Wg (some (r.i0, r.i0 + (r.n + 1), 0)) x ≠ none := hx
        rw [upd_ne _ _ hxW] at hx
        have := H.tidy.wg x (by rw [H.wg, upd_ne _ _ hxW]; exact hx)
        omega
    · have := H.tidy.rung x hx
      omega
/-- all are hired -/
theorem HireSt.run (H : HireSt r b0 v0 O0 J s0 Bl b v w) (h0 : 0 < r.n) (h8 : r.n ≤ 8) : RunSt r b0 v0 O0 J b v w O0 0 s0 (fun _ => false) [] := by
  obtain ⟨lv, l1, l2, l3⟩ := H.row
  obtain ⟨q1, q2, q3, q4, q5⟩ := H.low
  have hl := l3 h0
  subst hl
  have hlbB := l2.block (g := r.lb) rfl
  have hO : ∀ x, r.N₀ ≤ x → ¬ O0 x := fun x hx ho => by have := (H.own x ho).2.2; omega
  have hlbs : b.shun r.lb = false := by
    cases hz : b.shun r.lb with
    | false => rfl
    | true =>
      exfalso
      rcases l2.2 with ⟨e, _⟩ | ⟨g, cap, cur, e, _, hh, h1, _, h2, _⟩
      · cases e
      · injection e with e1 _ e3
        injection e1 with e1
        injection e1 with e1
        subst e1
        simp only [List.length_map, List.length_range] at h1
        rcases H.sim.dead _ hz with ⟨t, d1, _⟩ | ⟨d1, _⟩
        · rw [hh] at d1
          injection d1 with d1
          injection d1 with d1
          subst d1
          have h2 : 0 = cap * 1 := h2
          omega
        · rw [hh] at d1
          injection d1 with d1
          cases d1
  refine ⟨⟨l1, ⟨_, H.marks, OwnM.nil _ _, fun g hg => by cases hg⟩, H.warm1, by omega, ⟨by omega, by omega, q2, by omega, by omega, by omega⟩, ⟨H.open_, hlbs, hO _ q2, hO _ (by omega)⟩, H.thr, H.wg, ⟨H.wgS.1, by have := H.wgS.2.1; omega, H.wgS.2.2⟩, h8, H.pos, H.role, ⟨by have := H.num.1; omega, H.num.2⟩, H.F, H.Fle, H.shun, H.rung, H.wait, H.ear, H.old⟩, H.J, Nat.le_refl _, fun x hx => ?_, fun x hx => .inl hx, fun x h1 _ => H.same x h1, H.sim, H.even, H.tidy⟩
  obtain ⟨h1, h2, h3⟩ := H.own x hx
  exact ⟨h1, h2, by omega⟩
end
end Go.Proofs.Ytaiinkeendejdaa
