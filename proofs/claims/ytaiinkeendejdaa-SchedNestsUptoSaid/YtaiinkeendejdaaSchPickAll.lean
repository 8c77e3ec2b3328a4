/-
  SCHED: a whole pick in company. No condition.
  And: SCHED: a run of threads as the runner sees it, and a whole pick. No condition.
-/
import Derived.Test.YtaiinkeendejdaaSchPicked
namespace Go.Proofs.Ytaiinkeendejdaa
open Go.RowKit Go.Conc Go.ConcR.Gen Go.ConcN.Gen
open Go.ConcN (sumTo upd sumTo_upd upd_ne upd_same WgLive)
set_option maxRecDepth 100000
/-- a run's blocks: N₀ stood before it, B when all its threads were hired; thread k is goroutine i0 + k -/
structure Rn where
  n : Nat
  cap : Nat
  rb : Nat
  lb : Nat
  Wg : Nat
  sv : Nat
  stv : Nat
  stop : Nat
  N₀ : Nat
  B : Nat
  i0 : Nat
  th : Nat → Nat
  tv : Nat → Nat
  c : Nat → Nat
  d : Nat → Nat
  bd : Nat → Nat
  f : FuncId
  caps : Array Value
def noZs : Nat → Bool := fun _ => false
namespace Rn
def step (r : Rn) : Value := .func (.func r.f) #[] r.caps
noncomputable def seat (r : Rn) (k : Nat) : Seat := seatLive (r.th k) (r.c k) r.stop r.step [frR1 r.Wg (r.tv k) r.sv r.stv (r.th k) r.stop r.step, bot] noZs
noncomputable def kn (r : Rn) (k : Nat) : List (Addr × Value) := knLive (r.tv k) r.sv r.stv (r.th k) (r.c k) r.stop r.step
end Rn
/-- thread k of a run: what holds of it whether it has ended or not -/
structure ThAt (r : Rn) (b : Bd) (v : World) (O : Nat → Prop) (e : Nat → Bool) (k : Nat) : Prop where
  at_ : v.cell? ⟨r.lb, k, none⟩ = some (.pointer (some ⟨r.th k, 0, none⟩))
  ended : v.cell? ⟨r.th k, 2, none⟩ = some (.bool (e k))
  warm : v.frozen? ⟨r.th k, 2, none⟩ = false
  role : b.role (r.i0 + k) = if e k then leftRole r.Wg else .seat (r.seat k) (r.kn k) (r.bd k)
  keep : ∀ p ∈ r.kn k, v.cell? p.1 = some p.2 ∧ iceF b.F p.1 = true ∧ p.1.block < r.bd k ∧ ¬ O p.1.block ∧ b.shun p.1.block = false ∧ r.N₀ ≤ p.1.block ∧ p.1.block ≠ r.rb
  bd : r.bd k ≤ r.B
  ans : v.cell? ⟨r.th k, 1, none⟩ = some (.chan (some (r.d k))) ∧ iceF b.F ⟨r.th k, 1, none⟩ = true
  chan : ∀ x, x = r.c k ∨ x = r.d k ∨ x = r.stop → (∃ z, v.heap[x]? = some (.chan 0 #[] false z z false)) ∧ b.shun x = false ∧ b.rung x = false ∧ ¬ O x ∧ r.N₀ ≤ x
  ne : r.c k ≠ r.d k ∧ r.c k ≠ r.stop ∧ r.d k ≠ r.stop
  uniq : ∀ x st s', x ≠ r.i0 + k → (b.role x).at st = some s' → ¬ s'.has (r.c k) ∧ ¬ s'.has (r.d k)
  off : r.th k ≠ r.lb ∧ ∀ j, j < r.n → r.th k ≠ r.tv j ∧ (j ≠ k → r.th k ≠ r.th j)
  off2 : r.th k ≠ r.sv ∧ r.th k ≠ r.stv
/-- the runner's view -/
structure RunOk (r : Rn) (b0 b : Bd) (v : World) (O : Nat → Prop) (e : Nat → Bool) (ms : List Mk) : Prop where
  list : v.cell? ⟨r.rb, 0, none⟩ = some (.slice (some ⟨r.lb, 0, none⟩) r.n r.cap)
  marks : ∃ mv, v.cell? ⟨r.rb, 1, none⟩ = some mv ∧ OwnM v r.B mv ms ∧ ∀ g, mv.ownBlock = some g → ¬ O g
  warm : v.frozen? ⟨r.rb, 1, none⟩ = false
  size : r.B ≤ v.heap.size
  low : r.rb < r.B ∧ r.lb < r.B ∧ r.N₀ ≤ r.rb ∧ r.N₀ ≤ r.lb ∧ r.N₀ ≤ r.B ∧ r.rb ≠ r.lb
  open_ : b.shun r.rb = false ∧ b.shun r.lb = false ∧ ¬ O r.rb ∧ ¬ O r.lb
  thr : ∀ k, k < r.n → ThAt r b v O e k
  wg : b.wg = upd b0.wg r.Wg (some (r.i0, r.i0 + r.n, 0))
  wgS : b.shun r.Wg = true ∧ r.Wg < r.B ∧ r.N₀ ≤ r.Wg
  n8 : r.n ≤ 8
  pos : 0 < r.i0
  role : ∀ x, ¬ (r.i0 ≤ x ∧ x < r.i0 + r.n) → b.role x = b0.role x
  num : r.i0 + r.n ≤ b.n ∧ r.i0 = b0.n
  F : ∀ x, x < r.N₀ → b.F x = b0.F x
  Fle : ∀ x, b0.F x ≤ b.F x
  shun : ∀ x, x < r.N₀ → b.shun x = b0.shun x
  rung : ∀ x, x < r.N₀ → b.rung x = b0.rung x
  wait : b.wait = b0.wait
  ear : b.ear = b0.ear
  old : b.oldN = b0.oldN ∧ b.old = b0.old
theorem lt_cell {v : World} {a : Addr} {x : Value} (h : v.cell? a = some x) : a.block < v.heap.size := lt_of_cell h
theorem ne_chan {v : World} {a : Addr} {x : Value} {c z : Nat} (h : v.cell? a = some x) (hc : v.heap[c]? = some (.chan 0 #[] false z z false)) : a.block ≠ c := fun e => by
  unfold World.cell? at h
  rw [e, hc] at h
  cases h
theorem cell_same {v v' : World} {a : Addr} (h : v'.heap[a.block]? = v.heap[a.block]?) : v'.cell? a = v.cell? a := World.cell?_of_block h
section
variable {r : Rn} {b0 b b' : Bd} {v v' : World} {O O' : Nat → Prop} {e : Nat → Bool} {ms ms' : List Mk} {k : Nat}
/-- what ThOk asks -/
theorem RunOk.th (K : RunOk r b0 b v O e ms) (hk : k < r.n) (he : e k = false) (hz : NoZ noZs r.step) : ThOk b v O noZs r.Wg (r.tv k) r.sv r.stv (r.th k) (r.c k) (r.d k) r.stop (r.bd k) (r.i0 + k) r.step := by
  have T := K.thr k hk
  refine ⟨?_, fun p hp => ?_, Nat.le_trans T.bd K.size, T.ans, fun x hx => ?_, T.ne, T.uniq, ⟨r.i0, r.i0 + r.n, 0, ?_, by omega, by omega, K.wgS.1⟩, by have := K.pos; omega, hz, rfl, rfl⟩
  · have := T.role
    rw [he] at this
    exact this
  · obtain ⟨h1, h2, h3, h4, h5, _⟩ := T.keep p hp
    exact ⟨h1, h2, h3, h4, h5⟩
  · obtain ⟨h1, h2, h3, h4, _⟩ := T.chan x hx
    exact ⟨h1, h2, h3, h4⟩
  · rw [K.wg, upd_same]
/-- behind a turn -/
theorem RunOk.turn {x : Bool} (K : RunOk r b0 b v O e ms) (hk : k < r.n) (he : e k = false)
    (G : Grew { b with role := upd b.role (r.i0 + k) (if x = true then leftRole r.Wg else b.role (r.i0 + k)) } b' v.heap.size) (hO : ∀ g, O' g → O g ∨ v.heap.size ≤ g) (hsz : v.heap.size ≤ v'.heap.size)
    (same : ∀ g, g < v.heap.size → ¬ O g → g ≠ r.c k → g ≠ r.d k → g ≠ r.th k → v'.heap[g]? = v.heap[g]?) (ch : ∀ g, g = r.c k ∨ g = r.d k → ∃ z, v'.heap[g]? = some (.chan 0 #[] false z z false))
    (c0 : v'.cell? ⟨r.th k, 0, none⟩ = v.cell? ⟨r.th k, 0, none⟩) (c1 : v'.cell? ⟨r.th k, 1, none⟩ = v.cell? ⟨r.th k, 1, none⟩) (c2 : v'.cell? ⟨r.th k, 2, none⟩ = some (.bool x)) (hfz : v'.frozen? ⟨r.th k, 2, none⟩ = false) :
    RunOk r b0 b' v' O' (upd e k x) ms := by
  have Tk := K.thr k hk
  obtain ⟨⟨zc, hc⟩, _⟩ := Tk.chan _ (.inl rfl)
  obtain ⟨⟨zd, hd⟩, _⟩ := Tk.chan _ (.inr (.inl rfl))
  have hthk : r.th k ≠ r.rb := (Tk.keep (⟨r.th k, 0, none⟩, .chan (some (r.c k))) (by simp [Rn.kn, knLive])).2.2.2.2.2.2
  have notO : ∀ g, g < v.heap.size → ¬ O g → ¬ O' g := fun g h1 h2 h3 => (hO g h3).elim h2 fun h => by omega
  have hcell : ∀ a u, v.cell? a = some u → ¬ O a.block → a.block ≠ r.th k → v'.heap[a.block]? = v.heap[a.block]? := fun a u ha ho hn => same _ (lt_of_cell ha) ho (ne_chan ha hc) (ne_chan ha hd) hn
  have rb0 := K.list
  obtain ⟨mv, m1, m2, m3⟩ := K.marks
  have hrb : v'.heap[r.rb]? = v.heap[r.rb]? := hcell ⟨r.rb, 0, none⟩ _ rb0 K.open_.2.2.1 hthk.symm
  have hB : r.B ≤ v.heap.size := K.size
  refine ⟨(cell_same (a := ⟨r.rb, 0, none⟩) hrb).trans rb0, ⟨mv, (cell_same (a := ⟨r.rb, 1, none⟩) hrb).trans m1, m2.at (fun g hg => ?_), fun g hg => notO g (m2.block hg).2 (m3 g hg)⟩, (World.frozen?_of_block (a := ⟨r.rb, 1, none⟩) hrb).trans K.warm, Nat.le_trans hB hsz, K.low,
    ⟨by rw [G.shun _ (Nat.lt_of_lt_of_le K.low.1 hB)]; exact K.open_.1, by rw [G.shun _ (Nat.lt_of_lt_of_le K.low.2.1 hB)]; exact K.open_.2.1, notO _ (Nat.lt_of_lt_of_le K.low.1 hB) K.open_.2.2.1, notO _ (Nat.lt_of_lt_of_le K.low.2.1 hB) K.open_.2.2.2⟩, fun j hj => ?_, G.wg.trans K.wg, ?_, K.n8, K.pos, fun y hy => ?_, ⟨Nat.le_trans K.num.1 G.n, K.num.2⟩,
    fun y hy => (G.F y (by have := K.low.2.2.2.2.1; omega)).trans (K.F y hy), fun y => Nat.le_trans (K.Fle y) (G.Fle y), fun y hy => (G.shun y (by have := K.low.2.2.2.2.1; omega)).trans (K.shun y hy), fun y hy => (G.rung y (by have := K.low.2.2.2.2.1; omega)).trans (K.rung y hy), G.wait.trans K.wait, G.ear.trans K.ear, G.old.1.trans K.old.1, G.old.2.trans K.old.2⟩
  · obtain ⟨g1, g2⟩ := m2.block hg
    have hth : r.th k < r.B := by
      have h1 := (Tk.keep (⟨r.th k, 0, none⟩, .chan (some (r.c k))) (by simp [Rn.kn, knLive])).2.2.1
      have := Tk.bd
      simp only at h1; omega
    obtain ⟨_, hm2⟩ := m2
    rcases hm2 with ⟨e1, _⟩ | ⟨g', cap', cur, hv, _, hh, _⟩
    · rw [e1] at hg; cases hg
    · rw [hv] at hg
      obtain rfl : g' = g := by simpa [Value.ownBlock] using hg
      refine same g' g2 (m3 g' (by rw [hv]; rfl)) (fun e => ?_) (fun e => ?_) (fun e => by omega)
      · rw [e, hc] at hh; cases hh
      · rw [e, hd] at hh; cases hh
  · have T := K.thr j hj
    have hbj : r.bd j ≤ v.heap.size := Nat.le_trans T.bd hB
    have hat : v'.heap[r.lb]? = v.heap[r.lb]? := hcell ⟨r.lb, j, none⟩ _ T.at_ K.open_.2.2.2 Tk.off.1.symm
    have hkeep : ∀ p ∈ r.kn j, v'.cell? p.1 = some p.2 := fun p hp => by
      obtain ⟨h1, h2, h3, h4, h5, h6, h7⟩ := T.keep p hp
      by_cases hpk : p.1.block = r.th k
      · by_cases hjk : j = k
        · subst hjk
          have hp0 : p = (⟨r.th j, 0, none⟩, .chan (some (r.c j))) := by
            simp only [Rn.kn, knLive, List.mem_cons, List.not_mem_nil, or_false] at hp
            rcases hp with rfl | rfl | rfl | rfl
            · exact absurd hpk.symm (Tk.off.2 j hj).1
            · exact absurd hpk.symm Tk.off2.1
            · exact absurd hpk.symm Tk.off2.2
            · rfl
          subst hp0
          exact c0.trans h1
        · exfalso
          simp only [Rn.kn, knLive, List.mem_cons, List.not_mem_nil, or_false] at hp
          rcases hp with rfl | rfl | rfl | rfl
          · exact absurd hpk.symm (Tk.off.2 j hj).1
          · exact absurd hpk.symm Tk.off2.1
          · exact absurd hpk.symm Tk.off2.2
          · exact absurd hpk.symm ((Tk.off.2 j hj).2 hjk)
      · exact (cell_same (hcell _ _ h1 h4 hpk)).trans h1
    have hFj : ∀ p ∈ r.kn j, iceF b'.F p.1 = true := fun p hp => by
      obtain ⟨h1, h2, _⟩ := T.keep p hp
      have := G.F p.1.block (lt_of_cell h1)
      simpa [iceF, this] using h2
    have hthO : ¬ O (r.th j) := (T.keep (⟨r.th j, 0, none⟩, .chan (some (r.c j))) (by simp [Rn.kn, knLive])).2.2.2.1
    refine ⟨(cell_same (a := ⟨r.lb, j, none⟩) hat).trans T.at_, ?_, ?_, ?_, fun p hp => ?_, T.bd, ?_, fun g hg => ?_, T.ne, fun y st s' hy hs' => ?_, T.off, T.off2⟩
    · by_cases hjk : j = k
      · subst hjk; rw [upd_same]; exact c2
      · rw [upd_ne _ _ hjk]
        exact (cell_same (hcell ⟨r.th j, 2, none⟩ _ T.ended hthO fun e => (Tk.off.2 j hj).2 hjk e.symm)).trans T.ended
    · by_cases hjk : j = k
      · subst hjk; exact hfz
      · exact (World.frozen?_of_block (a := ⟨r.th j, 2, none⟩) (hcell ⟨r.th j, 2, none⟩ _ T.ended hthO fun e => (Tk.off.2 j hj).2 hjk e.symm)).trans T.warm
    · rw [G.role]
      by_cases hjk : j = k
      · subst hjk
        show upd b.role (r.i0 + j) _ (r.i0 + j) = _
        rw [upd_same, upd_same, T.role, he]
        rfl
      · show upd b.role (r.i0 + k) _ (r.i0 + j) = _
        rw [upd_ne _ _ (by omega), upd_ne _ _ hjk]
        exact T.role
    · obtain ⟨h1, h2, h3, h4, h5, h6, h7⟩ := T.keep p hp
      exact ⟨hkeep p hp, hFj p hp, h3, notO _ (lt_of_cell h1) h4, by rw [G.shun _ (lt_of_cell h1)]; exact h5, h6, h7⟩
    · obtain ⟨h1, h2⟩ := T.ans
      refine ⟨?_, by have := G.F (r.th j) (lt_of_cell h1); simpa [iceF, this] using h2⟩
      by_cases hjk : j = k
      · subst hjk; exact c1.trans h1
      · exact (cell_same (hcell ⟨r.th j, 1, none⟩ _ h1 hthO fun e => (Tk.off.2 j hj).2 hjk e.symm)).trans h1
    · obtain ⟨⟨z, h1⟩, h2, h3, h4, h5⟩ := T.chan g hg
      have hl : g < v.heap.size := (Array.getElem?_eq_some_iff.1 h1).1
      refine ⟨?_, by rw [G.shun _ hl]; exact h2, by rw [G.rung _ hl]; exact h3, notO _ hl h4, h5⟩
      by_cases e1 : g = r.c k ∨ g = r.d k
      · exact ch g e1
      · refine ⟨z, (same g hl h4 (fun e => e1 (.inl e)) (fun e => e1 (.inr e)) fun e => ?_).trans h1⟩
        have h := Tk.ended
        unfold World.cell? at h
        rw [← e] at h
        simp only [h1] at h
        cases h
    · rw [G.role] at hs'
      by_cases hyk : y = r.i0 + k
      · subst hyk
        have hs' : (upd b.role (r.i0 + k) (if x = true then leftRole r.Wg else b.role (r.i0 + k)) (r.i0 + k)).at st = some s' := hs'
        rw [upd_same] at hs'
        cases x with
        | true => exact ⟨left_none hs', left_none hs'⟩
        | false => exact T.uniq _ st s' hy hs'
      · have hs' : (upd b.role (r.i0 + k) (if x = true then leftRole r.Wg else b.role (r.i0 + k)) y).at st = some s' := hs'
        rw [upd_ne _ _ hyk] at hs'
        exact T.uniq y st s' hy hs'
  · rw [G.shun _ (Nat.lt_of_lt_of_le K.wgS.2.1 hB)]
    exact K.wgS
  · rw [G.role]
    show upd b.role (r.i0 + k) _ y = _
    rw [upd_ne _ _ (by omega)]
    exact K.role y hy
/-- behind a mark -/
theorem RunOk.marked {mv : Value} (K : RunOk r b0 b v O e ms) (hmv : v.cell? ⟨r.rb, 1, none⟩ = some mv) (hO : ∀ g, O g → g < v.heap.size) (Mk' : Marked v v' r.rb r.B mv ms') : RunOk r b0 b v' O e ms' := by
  obtain ⟨mv0, m1, m2, m3⟩ := K.marks
  obtain rfl : mv0 = mv := Option.some.inj (m1.symm.trans hmv)
  obtain ⟨mv', n1, n2, n3⟩ := Mk'.row
  have hB := K.size
  have hcell : ∀ a u, v.cell? a = some u → a.block ≠ r.rb → a.block < r.B → v'.heap[a.block]? = v.heap[a.block]? := fun a u ha h1 h2 => Mk'.same _ (lt_of_cell ha) h1 fun e => by
    have := (m2.block e.symm).1
    omega
  refine ⟨Mk'.list.trans K.list, ⟨mv', n1, n2, fun g hg ho => ?_⟩, Mk'.warm, Nat.le_trans hB Mk'.size, K.low, K.open_, fun j hj => ?_, K.wg, K.wgS, K.n8, K.pos, K.role, K.num, K.F, K.Fle, K.shun, K.rung, K.wait, K.ear, K.old⟩
  · rcases n3 g hg with h | h
    · exact m3 g h ho
    · have := hO g ho; omega
  · have T := K.thr j hj
    have hthB : r.th j < r.B := by
      have h1 := (T.keep (⟨r.th j, 0, none⟩, .chan (some (r.c j))) (by simp [Rn.kn, knLive])).2.2.1
      have := T.bd
      simp only at h1; omega
    have hthr : r.th j ≠ r.rb := (T.keep (⟨r.th j, 0, none⟩, .chan (some (r.c j))) (by simp [Rn.kn, knLive])).2.2.2.2.2.2
    have hth : v'.heap[r.th j]? = v.heap[r.th j]? := hcell ⟨r.th j, 2, none⟩ _ T.ended hthr hthB
    have hlb : v'.heap[r.lb]? = v.heap[r.lb]? := hcell ⟨r.lb, j, none⟩ _ T.at_ K.low.2.2.2.2.2.symm K.low.2.1
    refine ⟨(cell_same (a := ⟨r.lb, j, none⟩) hlb).trans T.at_, (cell_same (a := ⟨r.th j, 2, none⟩) hth).trans T.ended, (World.frozen?_of_block (a := ⟨r.th j, 2, none⟩) hth).trans T.warm, T.role, fun p hp => ?_, T.bd, ⟨(cell_same (a := ⟨r.th j, 1, none⟩) hth).trans T.ans.1, T.ans.2⟩, fun g hg => ?_, T.ne, T.uniq, T.off, T.off2⟩
    · obtain ⟨h1, h2, h3, h4, h5, h6, h7⟩ := T.keep p hp
      exact ⟨(cell_same (hcell _ _ h1 h7 (Nat.lt_of_lt_of_le h3 T.bd))).trans h1, h2, h3, h4, h5, h6, h7⟩
    · obtain ⟨⟨z, h1⟩, h2⟩ := T.chan g hg
      refine ⟨⟨z, (Mk'.same g (Array.getElem?_eq_some_iff.1 h1).1 (fun e => ?_) fun e => ?_).trans h1⟩, h2⟩
      · have h := K.list
        unfold World.cell? at h
        rw [← e] at h
        simp only [h1] at h
        cases h
      · obtain ⟨_, hm2⟩ := m2
        rcases hm2 with ⟨e1, _⟩ | ⟨g', cap', cur, hv, _, hh, _⟩
        · rw [e1] at e; cases e
        · rw [hv] at e
          obtain rfl : g = g' := by simpa [Value.ownBlock] using e
          rw [h1] at hh; cases hh
end
end Go.Proofs.Ytaiinkeendejdaa
namespace Go.Proofs.Ytaiinkeendejdaa
open Go.RowKit Go.Conc Go.ConcR.Gen Go.ConcN.Gen
open Go.ConcN (sumTo upd sumTo_upd upd_ne upd_same WgLive)
set_option maxRecDepth 100000
/-- nothing that a step's state hangs on is turned by the runner -/
def JStill {σ : Type} (N₀ : Nat) (J : Nat → σ → (Nat → Prop) → World → Prop) : Prop := ∀ m s O v v', J m s O v → (∀ x, x < N₀ ∨ O x → v'.heap[x]? = v.heap[x]?) → J m s O v'
/-- where a run stands: the runner's view, the step's state, the lone world beside the real one; v0, O0: as it was at its start -/
structure RunSt {σ : Type} (r : Rn) (b0 : Bd) (v0 : World) (O0 : Nat → Prop) (J : Nat → σ → (Nat → Prop) → World → Prop) (b : Bd) (v w : World) (O : Nat → Prop) (m : Nat) (s : σ) (e : Nat → Bool) (ms : List Mk) : Prop where
  ok : RunOk r b0 b v O e ms
  J : J m s O v
  m : m ≤ ms.length
  own : OwnO b v.heap.size O
  grow : ∀ x, O x → O0 x ∨ r.N₀ ≤ x
  same : ∀ x, x < r.N₀ → ¬ O0 x → v.heap[x]? = v0.heap[x]?
  sim : Sim b.shun b.F v w
  even : Even (ZT b.shun v.heap.size) v
  tidy : Tidy b v.heap.size
/-- what a pick of thread k makes of state, ends, marks -/
def rstep {σ : Type} (next : σ → Int → Int × σ) (x : σ × (Nat → Bool) × List Mk) (k : Nat) : σ × (Nat → Bool) × List Mk :=
  if x.2.1 k = true then (x.1, x.2.1, x.2.2 ++ [((x.2.2.length : Int) + 1, (k : Int) + 1, 4)])
  else ((next x.1 ((k : Int) + 1)).2, upd x.2.1 k ((next x.1 ((k : Int) + 1)).1 == 4), x.2.2 ++ [((x.2.2.length : Int) + 1, (k : Int) + 1, (next x.1 ((k : Int) + 1)).1)])
theorem noz_mono {Z Z' : Nat → Bool} (h : ∀ b, Z' b = true → Z b = true) {x : Value} (hx : NoZ Z x) : NoZ Z' x := hx.mono h
section
variable {Post : Value → World → Prop} {h : Nat}
theorem pick_whole {σ : Type} {r : Rn} {b0 b : Bd} {v0 v w : World} {O0 O : Nat → Prop} {J : Nat → σ → (Nat → Prop) → World → Prop} {next : σ → Int → Int × σ} {m : Nat} {s : σ} {e : Nat → Bool} {ms : List Mk} {k : Nat} {c : Frame} {cs : List Frame} {fn : Func}
    (SC : StepC Try.prog 64 Post r.f r.caps r.n J next) (hf : Try.prog.funcs[r.f]? = some fn) (hname : (fn.name == "runtime.NumGoroutine") = false) (hb : fn.body.isNone = false) (hJS : JStill r.N₀ J)
    (K : RunSt r b0 v0 O0 J b v w O m s e ms) (hk : k < r.n) (hms : ms.length < 1000000) (hear : b0.ear = true) (hwt : b0.wait = none) (hh : b0.role h = .mute) (hne : ¬ (r.i0 ≤ h ∧ h < r.i0 + r.n))
    (fin : ∀ b' v' w' O' m', RunSt r b0 v0 O0 J b' v' w' O' m' (rstep next (s, e, ms) k).1 (rstep next (s, e, ms) k).2.1 (rstep next (s, e, ms) k).2.2 → At Try.prog 64 Post b' h (G (c.finish (.tuple #[])) cs) w') :
    At Try.prog 64 Post b h (G ((base 33).at ⟨#[.pointer (some ⟨r.rb, 0, none⟩), .int .i64 (k : Nat), undef, undef, undef, undef, undef, undef, undef, undef, undef, undef, undef, undef, undef, undef, undef, undef, undef, undef, undef, undef, undef, undef, undef, undef, undef, undef, undef, undef, undef, undef, undef, undef, undef, undef, undef, undef, undef, undef, undef, undef, undef, undef, undef, undef, undef, undef, undef, undef, undef, undef, undef], []⟩ [.code bodyPick]) (c :: cs)) w := by
  have Q := K.ok
  have T := Q.thr k hk
  have n8 := Q.n8
  have hB := Q.size
  have hthk := T.keep (⟨r.th k, 0, none⟩, .chan (some (r.c k))) (by simp [Rn.kn, knLive])
  have hstk := T.keep (⟨r.stv, 0, none⟩, r.step) (by simp [Rn.kn, knLive])
  obtain ⟨mv, m1, m2, m3⟩ := Q.marks
  have hnz : NoZ noZs r.step := noz_mono (Z := ZT b.shun v.heap.size) (fun _ h => by cases h) (.any _)
  have real : ∀ a x, v.cell? a = some x → b.shun a.block = false → w.cell? a = some x := fun a x h1 h2 => (K.sim.cell h2).symm.trans h1
  have zl : ∀ x, x < v.heap.size → b.shun x = false → ZT b.shun v.heap.size x = false := fun x h1 h2 => by rw [ZT_low h1]; exact h2
  obtain ⟨⟨zc, hcc⟩, hcs, _, hcO, hcN⟩ := T.chan _ (.inl rfl)
  obtain ⟨⟨zd, hdd⟩, hds, _, hdO, hdN⟩ := T.chan _ (.inr (.inl rfl))
  have hcl : r.c k < v.heap.size := (Array.getElem?_eq_some_iff.1 hcc).1
  have hdl : r.d k < v.heap.size := (Array.getElem?_eq_some_iff.1 hdd).1
  have hthl : r.th k < v.heap.size := lt_of_cell hthk.1
  refine pick_front (lb := r.lb) (th := r.th k) (n := r.n) (cap := r.cap) (c := r.c k) (ended := e k) (real _ _ Q.list Q.open_.1) (real _ _ T.at_ Q.open_.2.1) hk (real _ _ T.ended hthk.2.2.2.2.1) (real _ _ hthk.1 hthk.2.2.2.2.1) Q.open_.1 Q.open_.2.1 hthk.2.2.2.2.1 (by omega) (fun w1 o => ?_)
  have hs1 := o.sim K.sim
  cases he : e k with
  | true =>
    have er : rstep next (s, e, ms) k = (s, e, ms ++ [((ms.length : Int) + 1, (k : Int) + 1, 4)]) := by simp [rstep, he]
    rw [er] at fin
    refine pick_last (a := 4) (fun x hx => ?_) m1 Q.warm m2 hB Q.low.1 hms (by omega) hs1 K.even (fun v' w' hM he' hs' => fin b v' w' O m ⟨Q.marked m1 (fun g hg => (K.own g hg).2.2) hM, ?_, by rw [List.length_append]; exact Nat.le_add_right_of_le K.m, fun x hx => ⟨(K.own x hx).1, (K.own x hx).2.1, Nat.lt_of_lt_of_le (K.own x hx).2.2 hM.size⟩, K.grow, fun x h1 h2 => ?_, hs', he', ⟨fun x st s' h1 c' h2 => Nat.lt_of_lt_of_le (K.tidy.seat x st s' h1 c' h2) hM.size, fun x hx => Nat.lt_of_lt_of_le (K.tidy.wg x hx) hM.size, fun x hx => Nat.lt_of_lt_of_le (K.tidy.rung x hx) hM.size⟩⟩)
    · have z1 := zl r.rb (Nat.lt_of_lt_of_le Q.low.1 hB) Q.open_.1
      have z2 := zl r.lb (Nat.lt_of_lt_of_le Q.low.2.1 hB) Q.open_.2.1
      have z3 := zl (r.th k) hthl hthk.2.2.2.2.1
      simp only [List.mem_toArray, List.mem_cons, List.not_mem_nil, or_false] at hx
      repeat (
        rcases hx with rfl | hx
        · first
            | exact undef_ok
            | exact .int _ _
            | exact .bool _
            | exact .any _
            | exact .any _
            | exact .any _
            | exact .any _)
      all_goals (subst hx; exact undef_ok)
    · refine hJS m s O v v' K.J (fun x hx => hM.same x ?_ ?_ ?_)
      · rcases hx with hx | hx
        · have := Q.low.2.2.2.2.1; omega
        · exact (K.own x hx).2.2
      · rintro rfl
        rcases hx with hx | hx
        · have := Q.low.2.2.1; omega
        · exact Q.open_.2.2.1 hx
      · intro e1
        rcases hx with hx | hx
        · have := (m2.block e1.symm).1; have := Q.low.2.2.2.2.1; omega
        · exact m3 x e1.symm hx
    · refine (hM.same x ?_ ?_ ?_).trans (K.same x h1 h2)
      · have := Q.low.2.2.2.2.1; omega
      · rintro rfl; have := Q.low.2.2.1; omega
      · intro e1; have := (m2.block e1.symm).1; have := Q.low.2.2.2.2.1; omega
  | false =>
    obtain ⟨a, hans⟩ : ∃ a, a = (next s ((k : Int) + 1)).1 := ⟨_, rfl⟩
    have er : rstep next (s, e, ms) k = ((next s ((k : Int) + 1)).2, upd e k (a == 4), ms ++ [((ms.length : Int) + 1, (k : Int) + 1, a)]) := by simp [rstep, he, hans]
    rw [er] at fin
    have nthc : r.th k ≠ r.c k := ne_chan hthk.1 hcc
    have nthd : r.th k ≠ r.d k := ne_chan hthk.1 hdd
    refine pick_turn (N₀ := r.N₀) (N := r.n) SC hf hname hb (fun m s O v x a1 r1 a2 r2 hx hN hO hJ => hJS m s O v _ hJ fun y hy => setChan_ne (fun e1 => ?_) _ _ _ _ _ _) ⟨hcN, hdN⟩ hk (by have := K.m; omega) (Q.th hk he hnz) (fun e1 => hne ⟨by omega, by omega⟩) ((Q.role h hne).trans hh) (Q.ear.trans hear) (Q.wait.trans hwt) K.J hs1 K.even K.own K.tidy
      (fun b2 v2 w2 O2 hG hty2 hJ2 hO2 hOn2 hs2 he2 hsz2 hsame2 hch2 => ?_)
    · subst e1
      rcases hy with hy | hy
      · omega
      · exact hO hy
    rw [← hans] at hG ⊢
    have hth2 : v2.heap[r.th k]? = v.heap[r.th k]? := hsame2 _ hthl hthk.2.2.2.1 nthc nthd
    have sh2 : ∀ x, x < v.heap.size → b.shun x = false → ZT b2.shun v2.heap.size x = false := fun x h1 h2 => by rw [ZT_low (Nat.lt_of_lt_of_le h1 hsz2), hG.shun x h1]; exact h2
    have hz5 : ∀ x, x = r.rb ∨ x = r.lb ∨ x = r.th k ∨ x = r.c k ∨ x = r.d k → ZT b2.shun v2.heap.size x = false := by
      rintro x (rfl | rfl | rfl | rfl | rfl)
      · exact sh2 _ (Nat.lt_of_lt_of_le Q.low.1 hB) Q.open_.1
      · exact sh2 _ (Nat.lt_of_lt_of_le Q.low.2.1 hB) Q.open_.2.1
      · exact sh2 _ hthl hthk.2.2.2.2.1
      · exact sh2 _ hcl hcs
      · exact sh2 _ hdl hds
    refine pick_mark (a := a) hs2 he2 hz5 ⟨_, (cell_same (a := ⟨r.th k, 2, none⟩) hth2).trans T.ended⟩ ((World.frozen?_of_block (a := ⟨r.th k, 2, none⟩) hth2).trans T.warm) (fun v3 w3 hv3 he3 hs3 => ?_)
    obtain ⟨T3, d3, rfl⟩ := hv3
    have h3size : (onT (v2.setCell ⟨r.th k, 2, none⟩ (.bool (a == 4))) T3 d3).heap.size = v2.heap.size := World.size_setCell ..
    have h3same : ∀ x, x ≠ r.th k → (onT (v2.setCell ⟨r.th k, 2, none⟩ (.bool (a == 4))) T3 d3).heap[x]? = v2.heap[x]? := fun x hx => Below.heap_setCell _ _ _ _ hx
    have h3c : ∀ i, i ≠ 2 → (onT (v2.setCell ⟨r.th k, 2, none⟩ (.bool (a == 4))) T3 d3).cell? ⟨r.th k, i, none⟩ = v.cell? ⟨r.th k, i, none⟩ := fun i hi => by
      show (v2.setCell ⟨r.th k, 2, none⟩ (.bool (a == 4))).cell? ⟨r.th k, i, none⟩ = _
      rw [World.cell?_setCell_other _ _ _ _ (fun e1 => hi (by simpa using (congrArg Addr.off e1).symm))]
      exact cell_same (a := ⟨r.th k, i, none⟩) hth2
    have h3e : (onT (v2.setCell ⟨r.th k, 2, none⟩ (.bool (a == 4))) T3 d3).cell? ⟨r.th k, 2, none⟩ = some (.bool (a == 4)) := by
      show (v2.setCell ⟨r.th k, 2, none⟩ (.bool (a == 4))).cell? ⟨r.th k, 2, none⟩ = _
      exact World.cell?_setCell_same _ _ _ ((cell_same (a := ⟨r.th k, 2, none⟩) hth2).trans T.ended)
    have h3f : (onT (v2.setCell ⟨r.th k, 2, none⟩ (.bool (a == 4))) T3 d3).frozen? ⟨r.th k, 2, none⟩ = false := by
      show (v2.setCell ⟨r.th k, 2, none⟩ (.bool (a == 4))).frozen? ⟨r.th k, 2, none⟩ = false
      rw [frozen_setCell]
      exact (World.frozen?_of_block (a := ⟨r.th k, 2, none⟩) hth2).trans T.warm
    generalize onT (v2.setCell ⟨r.th k, 2, none⟩ (.bool (a == 4))) T3 d3 = v3 at h3size h3same h3c h3e h3f he3 hs3
    have hchan3 : ∀ g, g = r.c k ∨ g = r.d k → ∃ z, v3.heap[g]? = some (.chan 0 #[] false z z false) := fun g hg => by
      obtain ⟨z, hz⟩ := hch2 g hg
      refine ⟨z, (h3same g ?_).trans hz⟩
      rcases hg with rfl | rfl
      · exact nthc.symm
      · exact nthd.symm
    have hx4 : (if (a == 4) = true then leftRole r.Wg else b.role (r.i0 + k)) = (if a = 4 then leftRole r.Wg else b.role (r.i0 + k)) := by simp
    have Q3 : RunOk r b0 b2 v3 O2 (upd e k (a == 4)) ms := Q.turn (x := a == 4) hk he (by rw [hx4]; exact hG) hOn2 (by omega) (fun g h1 h2 h3 h4 h5 => (h3same g h5).trans (hsame2 g h1 h2 h3 h4)) hchan3 (h3c 0 (by omega)) (h3c 1 (by omega)) h3e h3f
    obtain ⟨mv3, n1, n2, n3⟩ := Q3.marks
    have hB3 := Q3.size
    have hz5' : ∀ x, x = r.rb ∨ x = r.lb ∨ x = r.th k ∨ x = r.c k ∨ x = r.d k → ZT b2.shun v3.heap.size x = false := fun x hx => by rw [h3size]; exact hz5 x hx
    have hO3 : OwnO b2 v3.heap.size O2 := fun x hx => by rw [h3size]; exact hO2 x hx
    refine pick_last (a := a) (fun x hx => ?_) n1 Q3.warm n2 hB3 Q3.low.1 hms (by omega) hs3 he3 (fun v' w' hM he' hs' => fin b2 v' w' O2 (m + 1) ⟨Q3.marked n1 (fun g hg => (hO3 g hg).2.2) hM, ?_, by rw [List.length_append]; exact Nat.succ_le_succ K.m, fun x hx => ⟨(hO3 x hx).1, (hO3 x hx).2.1, Nat.lt_of_lt_of_le (hO3 x hx).2.2 hM.size⟩, fun x hx => ?_, fun x h1 h2 => ?_, hs', he', ?_⟩)
    · have z1 := hz5' r.rb (by simp)
      have z2 := hz5' r.lb (by simp)
      have z3 := hz5' (r.th k) (by simp)
      have z4 := hz5' (r.c k) (by simp)
      have z5 := hz5' (r.d k) (by simp)
      simp only [List.mem_toArray, List.mem_cons, List.not_mem_nil, or_false] at hx
      repeat (
        rcases hx with rfl | hx
        · first
            | exact undef_ok
            | exact .int _ _
            | exact .bool _
            | exact .any _
            | exact .any _
            | exact .any _
            | exact .any _
            | exact .any _
            | exact .any _)
      all_goals (subst hx; exact undef_ok)
    · refine hJS _ _ O2 v3 v' (hJS _ _ O2 v2 v3 hJ2 fun x hx => h3same x ?_) (fun x hx => hM.same x ?_ ?_ ?_)
      · rintro rfl
        rcases hx with hx | hx
        · have h9 := hthk.2.2.2.2.2.1; change r.N₀ ≤ r.th k at h9; omega
        · exact (hOn2 _ hx).elim hthk.2.2.2.1 fun h1 => by omega
      · rcases hx with hx | hx
        · have := Q.low.2.2.2.2.1; omega
        · exact (hO3 x hx).2.2
      · rintro rfl
        rcases hx with hx | hx
        · have := Q.low.2.2.1; omega
        · exact Q3.open_.2.2.1 hx
      · intro e1
        rcases hx with hx | hx
        · have := (n2.block e1.symm).1; have := Q.low.2.2.2.2.1; omega
        · exact n3 x e1.symm hx
    · rcases hOn2 x hx with h1 | h1
      · exact K.grow x h1
      · exact .inr (by have := Q.low.2.2.2.2.1; omega)
    · have hOx : ¬ O x := fun hx => (K.grow x hx).elim h2 fun h3 => by omega
      have hxl : x < v.heap.size := by have := Q.low.2.2.2.2.1; omega
      refine (hM.same x (by omega) ?_ ?_).trans ((h3same x ?_).trans ((hsame2 x hxl hOx ?_ ?_).trans (K.same x h1 h2)))
      · rintro rfl; have := Q.low.2.2.1; omega
      · intro e1; have := (n2.block e1.symm).1; have := Q.low.2.2.2.2.1; omega
      · rintro rfl; have h9 := hthk.2.2.2.2.2.1; change r.N₀ ≤ r.th k at h9; omega
      · rintro rfl; omega
      · rintro rfl; omega
    · have hs3' : v2.heap.size ≤ v'.heap.size := by rw [← h3size]; exact hM.size
      exact ⟨fun x st s' h1 c' h2 => Nat.lt_of_lt_of_le (hty2.seat x st s' h1 c' h2) hs3', fun x hx => Nat.lt_of_lt_of_le (hty2.wg x hx) hs3', fun x hx => Nat.lt_of_lt_of_le (hty2.rung x hx) hs3'⟩
theorem pick_enter {σ : Type} {r : Rn} {b0 b : Bd} {v0 v w : World} {O0 O : Nat → Prop} {J : Nat → σ → (Nat → Prop) → World → Prop} {next : σ → Int → Int × σ} {m : Nat} {s : σ} {e : Nat → Bool} {ms : List Mk} {k : Nat} {c : Frame} {cs : List Frame} {fn : Func}
    (SC : StepC Try.prog 64 Post r.f r.caps r.n J next) (hf : Try.prog.funcs[r.f]? = some fn) (hname : (fn.name == "runtime.NumGoroutine") = false) (hb : fn.body.isNone = false) (hJS : JStill r.N₀ J)
    (K : RunSt r b0 v0 O0 J b v w O m s e ms) (hk : k < r.n) (hms : ms.length < 1000000) (hear : b0.ear = true) (hwt : b0.wait = none) (hh : b0.role h = .mute) (hne : ¬ (r.i0 ≤ h ∧ h < r.i0 + r.n))
    (fin : ∀ b' v' w' O' m', RunSt r b0 v0 O0 J b' v' w' O' m' (rstep next (s, e, ms) k).1 (rstep next (s, e, ms) k).2.1 (rstep next (s, e, ms) k).2.2 → At Try.prog 64 Post b' h (G (c.finish (.tuple #[])) cs) w') :
    At Try.prog 64 Post b h (G (Frame.enter Try.prog 33 #[.pointer (some ⟨r.rb, 0, none⟩), .int .i64 (k : Nat)] .normal) (c :: cs)) w := by
  have hP := pick_whole SC hf hname hb hJS K hk hms hear hwt hh hne fin
  simp only [bodyPick, Try.f33, Option.getD_some] at hP
  rw [enter_at _ Try.func33 rfl]
  walk_nrmf Try.f33
  exact hP
end
end Go.Proofs.Ytaiinkeendejdaa
