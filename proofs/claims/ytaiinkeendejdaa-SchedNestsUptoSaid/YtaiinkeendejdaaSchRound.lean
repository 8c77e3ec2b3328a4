/-
  SCHED: pick in company: a whole turn: the token goes to the thread and comes back. No condition.
  And: SCHED: the roles that a thread's goroutine and the runner take. No condition.
-/
import Derived.Test.YtaiinkeendejdaaSchTurn
namespace Go.Proofs.Ytaiinkeendejdaa
open Go.RowKit Go.Conc
open Go.ConcN (sumTo upd sumTo_upd upd_ne upd_same WgLive)
set_option maxRecDepth 100000
section
variable {P : Program} {ty : TypeId} {b : Bd} {i : Nat} {w : World}
theorem newSeat {s : Seat} {kn : List (Addr × Value)} {B n : Nat} {g : Goroutine} (hfit : Sits P (i == 0) (Kn kn) (Sn kn) B s n g) (hkeep : ∀ p ∈ kn, w.cell? p.1 = some p.2 ∧ iceF b.F p.1 = true ∧ p.1.block < B) (hB : B ≤ w.heap.size) (hwf : s.Wf)
    (hch : ∀ c, s.has c → (∃ k, w.heap[c]? = some (.chan 0 #[] false k k false)) ∧ b.shun c = false ∧ b.rung c = false) : NewRole P ty b i w (.seat s kn B) (9, n) g :=
  ⟨⟨rfl, hfit⟩, hkeep, hB, fun s' e => by obtain rfl : s = s' := Option.some.inj e; exact hwf, fun s' e c hc => by
    obtain rfl : s = s' := Option.some.inj e
    obtain ⟨⟨k, hk⟩, _, hr⟩ := hch c hc
    exact ⟨k, by rw [hr]; exact hk⟩, fun s' e c hc => by
    obtain rfl : s = s' := Option.some.inj e
    exact (hch c hc).2.1, fun s' kn' B' e c hc => by
    injection e with e1
    subst e1
    exact (hch c hc).2.2, fun Wg s' kn' B' c kk z e => (by cases e), fun e => (by cases e)⟩
theorem newLeave {Wg lo hi p m B c kk : Nat} {s : Seat} {kn : List (Addr × Value)} {z : Value} {g : Goroutine} (h0 : 0 < i) (hfit : LSit P ty Wg 7 m 0 g) (hkeep : ∀ p ∈ kn, w.cell? p.1 = some p.2 ∧ iceF b.F p.1 = true ∧ p.1.block < B) (hB : B ≤ w.heap.size)
    (hsh : b.shun Wg = true) (hwg : b.wg Wg = some (lo, hi, p)) (hlo : lo ≤ i) (hhi : i < hi) : NewRole P ty b i w (.leave Wg s kn B c kk z) (7, m) g := by
  have hat : ∀ s', (Role.leave Wg s kn B c kk z).at 7 = some s' → False := fun s' e => by simp [Role.at] at e
  refine ⟨⟨h0, .inr ⟨Nat.le_refl _, hfit⟩⟩, hkeep, hB, fun s' e => (hat s' e).elim, fun s' e => (hat s' e).elim, fun s' e => (hat s' e).elim, fun s' kn' B' e => (by cases e), fun Wg' s' kn' B' c' kk' z' e => ?_, fun e => (by cases e)⟩
  injection e with e1
  subst e1
  exact ⟨rfl, hsh, lo, hi, p, hwg, hlo, hhi⟩
end
theorem seatLive_wf {th c stop : Nat} {step : Value} {cs0 : List Frame} {Zs : Nat → Bool} (h : c ≠ stop) : (seatLive th c stop step cs0 Zs).Wf := by
  refine ⟨fun cc hcc => ?_, fun k m x z z' h1 h2 => ?_⟩
  · simp only [seatLive, List.mem_toArray, List.mem_cons, List.not_mem_nil, or_false] at hcc
    rcases hcc with rfl | rfl
    · exact ⟨_, _, rfl⟩
    · exact ⟨_, _, rfl⟩
  · rcases k with _ | _ | k <;> rcases m with _ | _ | m <;> simp only [seatLive, rcase, List.getElem?_toArray, List.getElem?_cons_zero, List.getElem?_cons_succ, List.getElem?_nil, Option.some.injEq, CommCase.mk.injEq, Value.chan.injEq, reduceCtorEq] at h1 h2
    · rfl
    · exact absurd (h1.1.trans h2.1.symm) h
    · exact absurd (h2.1.trans h1.1.symm) h
    · rfl
theorem seatLive_has {th c stop x : Nat} {step : Value} {cs0 : List Frame} {Zs : Nat → Bool} (h : (seatLive th c stop step cs0 Zs).has x) : x = c ∨ x = stop := by
  obtain ⟨k, z, h⟩ := h
  rcases k with _ | _ | k <;> simp only [seatLive, rcase, List.getElem?_toArray, List.getElem?_cons_zero, List.getElem?_cons_succ, List.getElem?_nil, Option.some.injEq, CommCase.mk.injEq, Value.chan.injEq, reduceCtorEq] at h
  · exact .inl h.1.symm
  · exact .inr h.1.symm
end Go.Proofs.Ytaiinkeendejdaa
namespace Go.Proofs.Ytaiinkeendejdaa
open Go.RowKit Go.Conc
open Go.ConcN (sumTo upd sumTo_upd upd_ne upd_same WgLive)
set_option maxRecDepth 100000
section
variable {Post : Value → World → Prop} {b : Bd} {h : Nat}
/-- what a thread's goroutine j is to the runner -/
structure ThOk (b : Bd) (v : World) (O : Nat → Prop) (Zs : Nat → Bool) (Wg tv sv stv th c d stop B j : Nat) (step : Value) : Prop where
  role : b.role j = .seat (seatLive th c stop step [frR1 Wg tv sv stv th stop step, bot] Zs) (knLive tv sv stv th c stop step) B
  keep : ∀ p ∈ knLive tv sv stv th c stop step, v.cell? p.1 = some p.2 ∧ iceF b.F p.1 = true ∧ p.1.block < B ∧ ¬ O p.1.block ∧ b.shun p.1.block = false
  bd : B ≤ v.heap.size
  ans : v.cell? ⟨th, 1, none⟩ = some (.chan (some d)) ∧ iceF b.F ⟨th, 1, none⟩ = true
  chan : ∀ x, x = c ∨ x = d ∨ x = stop → (∃ k, v.heap[x]? = some (.chan 0 #[] false k k false)) ∧ b.shun x = false ∧ b.rung x = false ∧ ¬ O x
  ne : c ≠ d ∧ c ≠ stop ∧ d ≠ stop
  uniq : ∀ x st s', x ≠ j → (b.role x).at st = some s' → ¬ s'.has c ∧ ¬ s'.has d
  wg : ∃ lo hi p, b.wg Wg = some (lo, hi, p) ∧ lo ≤ j ∧ j < hi ∧ b.shun Wg = true
  pos : 0 < j
  zs : NoZ Zs step ∧ Zs th = false ∧ Zs d = false
theorem sim_F {Z : Nat → Bool} {F : Nat → Nat} {v w : World} (hs : Sim Z F v w) {x : Nat} {o : Obj} (hx : v.heap[x]? = some o) (ho : isCells o = false) : F x = 0 := by
  by_cases hf : F x = 0
  · exact hf
  · obtain ⟨_, c, t, h1, _⟩ := hs.ice x hf
    rw [hx] at h1
    injection h1 with h1
    subst h1
    cases ho
/-- a thread's goroutine that has answered that it ends -/
def leftRole (Wg : Nat) : Role := .leave Wg { cases := #[], shape := .select, home := fun _ => False } [] 0 0 0 (.int .i64 0)
theorem left_none {Wg st x : Nat} {s : Seat} (h : (leftRole Wg).at st = some s) : ¬ s.has x := by
  simp only [leftRole, Role.at] at h
  split at h
  · obtain rfl := Option.some.inj h
    rintro ⟨k, z, e⟩
    simp at e
  · cases h
theorem pick_turn {rb lb th n cap k c d Wg tv sv stv stop B j N₀ : Nat} {cs : List Frame} {f : FuncId} {fn : Func} {caps : Array Value} {N m : Nat} {O : Nat → Prop} {σ : Type} {J : Nat → σ → (Nat → Prop) → World → Prop} {next : σ → Int → Int × σ} {Zs : Nat → Bool} {v w : World} {s : σ}
    (SC : StepC Try.prog 64 Post f caps N J next) (hf : Try.prog.funcs[f]? = some fn) (hname : (fn.name == "runtime.NumGoroutine") = false) (hb : fn.body.isNone = false)
    (hJc : ∀ m s O (v : World) x a r a' r', v.heap[x]? = some (.chan 0 #[] false a r false) → N₀ ≤ x → ¬ O x → J m s O v → J m s O (v.setChan x 0 #[] false a' r' false))
    (hN₀ : N₀ ≤ c ∧ N₀ ≤ d) (hkN : k < N) (hm : m < 1000000) (T : ThOk b v O Zs Wg tv sv stv th c d stop B j (.func (.func f) #[] caps)) (hjh : j ≠ h) (hh : b.role h = .mute) (hear : b.ear = true) (hwt : b.wait = none) (hJ : J m s O v) (hs : Sim b.shun b.F v w) (he : Even (ZT b.shun v.heap.size) v) (hown : OwnO b v.heap.size O) (hty : Tidy b v.heap.size)
    (fin : ∀ b2 v2 w2 O2, Grew { b with role := upd b.role j (if (next s ((k : Nat) + 1)).1 = 4 then leftRole Wg else b.role j) } b2 v.heap.size → Tidy b2 v2.heap.size → J (m + 1) (next s ((k : Nat) + 1)).2 O2 v2 → OwnO b2 v2.heap.size O2 → (∀ x, O2 x → O x ∨ v.heap.size ≤ x) → Sim b2.shun b2.F v2 w2 → Even (ZT b2.shun v2.heap.size) v2 → v.heap.size ≤ v2.heap.size →
      (∀ x, x < v.heap.size → ¬ O x → x ≠ c → x ≠ d → v2.heap[x]? = v.heap[x]?) → (∀ x, x = c ∨ x = d → ∃ k, v2.heap[x]? = some (.chan 0 #[] false k k false)) →
      At Try.prog 64 Post b2 h (Go.Conc.served (pickAt (pickR rb lb th n cap k c d) [.inRegion ansPick [4, 5], .code markPick, .code lastPick] cs) (.int .i64 (next s ((k : Nat) + 1)).1)) w2) :
    At Try.prog 64 Post b h (pickAt (pickS rb lb th n cap k c) [.inRegion sendPick [6], .code (.seq recvPick markPick), .code lastPick] cs) w := by
  have hthB : th < B := (T.keep (⟨th, 0, none⟩, .chan (some c)) (by simp [knLive])).2.2.1
  have hthO : ¬ O th := (T.keep (⟨th, 0, none⟩, .chan (some c)) (by simp [knLive])).2.2.2.1
  have hthS : b.shun th = false := (T.keep (⟨th, 0, none⟩, .chan (some c)) (by simp [knLive])).2.2.2.2
  obtain ⟨⟨ck, hcv⟩, hcs, hcr, hco⟩ := T.chan c (.inl rfl)
  obtain ⟨⟨dk, hdv⟩, hds, hdr, hdo⟩ := T.chan d (.inr (.inl rfl))
  obtain ⟨⟨sk, hsv⟩, hss, hsr, hso⟩ := T.chan stop (.inr (.inr rfl))
  have hFc : b.F c = 0 := sim_F hs hcv rfl
  have hthl : th < v.heap.size := Nat.lt_of_lt_of_le hthB T.bd
  have hcapz : ∀ a ∈ caps, NoZ (ZT b.shun v.heap.size) a := by
    obtain ⟨h1, _, h3, _, h5⟩ := T.keep (⟨stv, 0, none⟩, .func (.func f) #[] caps) (by simp [knLive])
    exact (he.cell trivial h1).fc.2
  have hdw : w.heap[d]? = some (.chan 0 #[] false dk dk false) := by rw [← hs.heap d hds (sim_F hs hdv rfl)]; exact hdv
  have hthc : th ≠ c := fun e => by
    have := T.ans.1
    unfold World.cell? at this
    simp only [e, hcv] at this
    cases this
  refine At.give (z := .int .i64 0) (kk := 0) (sm := (9, 8)) hjh T.role rfl (fun x st s' hx e => (T.uniq x st s' hx e).1) hear rfl (fun w₁ _ => pick_send w₁) (by simp) (newSeat (s := seatPick rb lb th n cap k c d cs) (kn := [(⟨th, 1, none⟩, .chan (some d))]) (B := v.heap.size) (pick_seat hthl) (fun p hp => ?_) (by rw [hs.size]; exact Nat.le_refl _) (Seat.one_wf _ _ _ _) (fun x hx => ?_)) (fun g₂ kc hg₂ hcw => ?_)
  · rw [List.mem_singleton] at hp
    subst hp
    exact ⟨(hs.cell (a := ⟨th, 1, none⟩) hthS).symm.trans T.ans.1, T.ans.2, hthl⟩
  · obtain rfl := Seat.one_has.1 hx
    exact ⟨⟨dk, hdw⟩, hds, hdr⟩
  have hsize1 : (v.setChan c 0 #[] false (kc + 1) (kc + 1) false).heap.size = v.heap.size := size_setChan _ _ _ _ _ _ _ _
  generalize hρ : Role.seat (seatPick rb lb th n cap k c d cs) [(⟨th, 1, none⟩, .chan (some d))] v.heap.size = ρ
  have hs1 : Sim (b.pass h ρ j).shun (b.pass h ρ j).F (v.setChan c 0 #[] false (kc + 1) (kc + 1) false) (w.setChan c 0 #[] false (kc + 1) (kc + 1) false) := hs.setChan hFc (hs.open_ hcv rfl rfl) _ _ _ _ _ _
  refine live_serve (b := b.pass h ρ j) (v := v.setChan c 0 #[] false (kc + 1) (kc + 1) false) (s := s) (d := d) SC hf hname hb hg₂ hear hwt (by omega) (by omega) hm (hJc m s O v c ck ck (kc + 1) (kc + 1) hcv hN₀.1 hco hJ) hs1 (by rw [hsize1]; exact even_setChan he _ _ _ _ _ _ _) (by rw [hsize1]; exact hown) (by rw [hsize1]; exact hcapz) ?_ ?_ hthO hthS (by rw [hsize1]; exact hthl) (fun b' v' w' O' g hG hty' hJ' hO' hOn hs' he' hsz hsame hSend => ?_)
  · rw [hsize1]
    refine ⟨fun x st s' e c' hc' => ?_, hty.wg, hty.rung⟩
    by_cases hxj : x = j
    · subst hxj; rw [Bd.pass_j] at e; cases e
    by_cases hxh : x = h
    · subst hxh
      rw [Bd.pass_h _ _ hjh, ← hρ] at e
      obtain rfl : seatPick rb lb th n cap k c d cs = s' := Option.some.inj e
      obtain rfl := Seat.one_has.1 hc'
      exact (Array.getElem?_eq_some_iff.1 hdv).1
    · rw [Bd.pass_x _ _ hxh hxj] at e
      exact hty.seat x st s' e c' hc'
  · rw [cell_setChan hcv rfl]
    exact T.ans.1
  have hsize2 : v.heap.size ≤ v'.heap.size := by rw [← hsize1]; exact hsz
  have hsame2 : ∀ x, x < v.heap.size → ¬ O x → x ≠ c → v'.heap[x]? = v.heap[x]? := fun x h1 h2 h3 => (hsame x (by rw [hsize1]; exact h1) h2).trans (setChan_ne h3 _ _ _ _ _ _)
  have hcl : c < v.heap.size := (Array.getElem?_eq_some_iff.1 hcv).1
  have hdl : d < v.heap.size := (Array.getElem?_eq_some_iff.1 hdv).1
  have hsl : stop < v.heap.size := (Array.getElem?_eq_some_iff.1 hsv).1
  have hcv' : v'.heap[c]? = some (.chan 0 #[] false (kc + 1) (kc + 1) false) := (hsame c (by rw [hsize1]; exact hcl) hco).trans (setChan_self hcv _ _ _ _ _ _)
  have hdv' : v'.heap[d]? = some (.chan 0 #[] false dk dk false) := (hsame2 d hdl hdo fun e => T.ne.1 e.symm).trans hdv
  have hsv' : v'.heap[stop]? = some (.chan 0 #[] false sk sk false) := (hsame2 stop hsl hso fun e => T.ne.2.1 e.symm).trans hsv
  have shN : ∀ x, x < v.heap.size → b'.shun x = b.shun x := fun x hx => hG.shun x (by rw [hsize1]; exact hx)
  have fN : ∀ x, x < v.heap.size → b'.F x = b.F x := fun x hx => hG.F x (by rw [hsize1]; exact hx)
  have rN : ∀ x, x < v.heap.size → b'.rung x = b.rung x := fun x hx => hG.rung x (by rw [hsize1]; exact hx)
  have hrj : b'.role h = ρ := by rw [hG.role]; exact Bd.pass_h _ _ hjh
  have hrx : ∀ x, x ≠ h → x ≠ j → b'.role x = b.role x := fun x h1 h2 => by rw [hG.role]; exact Bd.pass_x _ _ h1 h2
  have hrj2 : b'.role j = .mute := by rw [hG.role]; exact Bd.pass_j _ _
  have toW : ∀ x o, x < v.heap.size → b.shun x = false → v'.heap[x]? = some o → isCells o = false → w'.heap[x]? = some o := fun x o hx hz hv ho => by
    rw [← hs'.heap x (by rw [shN x hx]; exact hz) (sim_F hs' hv ho)]; exact hv
  have cellN : ∀ a x, v.cell? a = some x → ¬ O a.block → b.shun a.block = false → w'.cell? a = some x := fun a x hx ho hz => by
    have hne : a.block ≠ c := fun e => by
      unfold World.cell? at hx
      rw [e, hcv] at hx
      cases hx
    have hl : a.block < v.heap.size := by
      unfold World.cell? at hx
      cases e : v.heap[a.block]? with
      | none => rw [e] at hx; cases hx
      | some ob => exact (Array.getElem?_eq_some_iff.1 e).1
    have h1 : v'.cell? a = some x := by
      unfold World.cell? at hx ⊢
      rw [hsame2 _ hl ho hne]; exact hx
    rw [← hs'.cell (by rw [shN _ hl]; exact hz)]; exact h1
  have keepN : ∀ p ∈ knLive tv sv stv th c stop (.func (.func f) #[] caps), w'.cell? p.1 = some p.2 ∧ iceF b'.F p.1 = true ∧ p.1.block < B := fun p hp => by
    obtain ⟨h1, h2, h3, h4, h5⟩ := T.keep p hp
    refine ⟨cellN _ _ h1 h4 h5, ?_, h3⟩
    have := fN p.1.block (Nat.lt_of_lt_of_le h3 T.bd)
    simpa [iceF, this] using h2
  have hBw : B ≤ w'.heap.size := by rw [← hs'.size]; exact Nat.le_trans T.bd hsize2
  have key : ∀ ρ' sm, ρ' = (if (next s ((k : Nat) + 1)).1 = 4 then leftRole Wg else b.role j) →
      NewRole Try.prog 64 b' j w' ρ' sm (Go.Conc.served g undef) → At Try.prog 64 Post b' j g w' := fun ρ' sm hρ' N => by
    refine At.give (h := j) (j := h) (s := seatPick rb lb th n cap k c d cs) (kn := [(⟨th, 1, none⟩, .chan (some d))]) (B := v.heap.size) (z := .int .i64 0) (kk := 0) (fun e => hjh e.symm) (by rw [hrj, ← hρ]) rfl (fun x st s' hx e => ?_) (by rw [hG.ear]; exact hear) (answer_send (main := j == 0) hSend w').1 (fun w₁ _ => (answer_send hSend w₁).2) (by simp) N (fun g₃ kd hg₃ hdw' => ?_)
    · by_cases hxj : x = j
      · subst hxj; rw [hrj2] at e; cases e
      · rw [hrx x hx hxj] at e
        exact (T.uniq x st s' hxj e).2
    · have e3 : g₃ = pickAt (pickR rb lb th n cap k c d) [.inRegion ansPick [4, 5], .code markPick, .code lastPick] cs := hg₃
      subst e3
      have hds' : b'.shun d = false := by rw [shN d hdl]; exact hds
      have hdz : v'.heap[d]? = some (.chan 0 #[] false kd kd false) := by
        rw [hs'.heap d hds' (sim_F hs' hdv' rfl)]; exact hdw'
      have hdO' : ¬ O' d := fun hx => (hOn d hx).elim hdo (fun h => by rw [hsize1] at h; omega)
      have hsize3 : (v'.setChan d 0 #[] false (kd + 1) (kd + 1) false).heap.size = v'.heap.size := size_setChan _ _ _ _ _ _ _ _
      have hroles : (b'.pass j ρ' h).role = upd b.role j ρ' := by
        funext x
        by_cases hxh : x = h
        · subst hxh
          rw [Bd.pass_j, upd_ne _ _ fun e => hjh e.symm, hh]
        · by_cases hxj : x = j
          · subst hxj
            rw [Bd.pass_h _ _ (fun e => hjh e.symm), upd_same]
          · rw [Bd.pass_x _ _ hxj hxh, upd_ne _ _ hxj, hrx x hxh hxj]
      refine fin (b'.pass j ρ' h) (v'.setChan d 0 #[] false (kd + 1) (kd + 1) false) _ O' ⟨hG.n, by rw [hroles, hρ'], fN, hG.Fle, shN, rN, hG.wg, hG.wait, hG.ear, hG.old⟩ ⟨fun x st s' e c' hc' => ?_, fun x hx => by rw [hsize3]; exact hty'.wg x hx, fun x hx => by rw [hsize3]; exact hty'.rung x hx⟩ (hJc _ _ O' v' d kd kd _ _ hdz hN₀.2 hdO' hJ') (fun x hx => by rw [hsize3]; exact hO' x hx) (fun x hx => by rw [← hsize1]; exact hOn x hx) (hs'.setChan (sim_F hs' hdz rfl) (hs'.open_ hdz rfl rfl) _ _ _ _ _ _) (by rw [hsize3]; exact even_setChan he' _ _ _ _ _ _ _) (by rw [hsize3]; exact hsize2) (fun x h1 h2 h3 h4 => (setChan_ne h4 _ _ _ _ _ _).trans (hsame2 x h1 h2 h3)) (fun x hx => ?_)
      · rw [hsize3]
        rw [hroles] at e
        by_cases hxj : x = j
        · subst hxj
          rw [upd_same, hρ'] at e
          split at e
          · exact absurd hc' (left_none e)
          · rw [T.role] at e
            obtain rfl := Option.some.inj e
            rcases seatLive_has hc' with rfl | rfl
            · exact Nat.lt_of_lt_of_le hcl hsize2
            · exact Nat.lt_of_lt_of_le hsl hsize2
        · rw [upd_ne _ _ hxj] at e
          exact Nat.lt_of_lt_of_le (hty.seat x st s' e c' hc') hsize2
      · by_cases e : x = d
        · subst e
          exact ⟨_, setChan_self hdz _ _ _ _ _ _⟩
        · rcases hx with rfl | rfl
          · exact ⟨_, (setChan_ne e _ _ _ _ _ _).trans hcv'⟩
          · exact absurd rfl e
  by_cases ha : (next s ((k : Nat) + 1)).1 = 4
  · obtain ⟨lo, hi, p, hwg, hlo, hhi, hsW⟩ := T.wg
    have hWl : Wg < v.heap.size := hty.wg Wg (by rw [hwg]; simp)
    rw [ha] at hSend
    exact key _ (7, 55) (if_pos ha).symm (newLeave T.pos (live_ends hSend) (by simp) (Nat.zero_le _) (by rw [shN _ hWl]; exact hsW) (by rw [hG.wg]; exact hwg) hlo hhi)
  · refine key _ (9, 26) (if_neg ha).symm ?_
    rw [T.role]
    refine newSeat (live_back hSend ha T.zs.1 T.zs.2.1 T.zs.2.2 (by simp [knLive]) hthB) keepN hBw (seatLive_wf T.ne.2.1) (fun x hx => ?_)
    rcases seatLive_has hx with rfl | rfl
    · exact ⟨⟨_, toW _ _ hcl hcs hcv' rfl⟩, by rw [shN _ hcl]; exact hcs, by rw [rN _ hcl]; exact hcr⟩
    · exact ⟨⟨_, toW _ _ hsl hss hsv' rfl⟩, by rw [shN _ hsl]; exact hss, by rw [rN _ hsl]; exact hsr⟩
end
end Go.Proofs.Ytaiinkeendejdaa
