/-
  SCHED: Run's loop that hires, in company. No condition.
-/
import Derived.Test.YtaiinkeendejdaaSchHired
namespace Go.Proofs.Ytaiinkeendejdaa
open Go.RowKit Go.Conc Go.ConcR.Gen Go.ConcN.Gen
open Go.ConcN (sumTo upd sumTo_upd upd_ne upd_same WgLive)
set_option maxRecDepth 100000
theorem nm_add : ((Try.f29).name == "runtime.NumGoroutine") = false := by kernel_rfl
def mask1 : FuncId → Nat → Bool := fun _ i => decide (¬ i ∈ ([14, 35, 36, 37, 38] : List Nat))
def mask2 : FuncId → Nat → Bool := fun _ i => decide (¬ i ∈ ([13, 14, 39, 40, 41, 42, 43, 44, 45, 46, 47, 48] : List Nat))
/-- no function is called -/
theorem nobody {M : FuncId → Nat → Bool} : FunAll Try.prog M (fun f => opW Try.prog (fun _ => false) (M f)) fun _ => false := funOk_of fun f hf => by cases hf
theorem make_lone : codeC (opW Try.prog (fun _ => false) (mask1 0)) makeHire = true := by kernel_rfl
theorem row_lone : codeC (opW Try.prog (fun _ => false) (mask2 0)) rowHire = true := by kernel_rfl
theorem Made.from {v w' : World} {T : Tp} {d0 : Nat} {c d th tv : Nat} (h : Made (onT v T d0) w' c d th tv) : Made v w' c d th tv := by
  obtain ⟨h1, h2, h3, h4, h5, h6, h7, h8⟩ := h
  exact ⟨h1, h2, h3, h4, h5, h6, h7, h8⟩
theorem Made.onT {v w' : World} {T : Tp} {d0 : Nat} {c d th tv : Nat} (h : Made v (Go.Proofs.Ytaiinkeendejdaa.onT w' T d0) c d th tv) : Made v w' c d th tv := by
  obtain ⟨h1, h2, h3, h4, h5, h6, h7, h8⟩ := h
  exact ⟨h1, h2, h3, h4, h5, h6, h7, h8⟩
theorem OwnT.same {v v' : World} {B : Nat} {lv : Value} {l : List Nat} (h : OwnT v B lv l) (e : v'.heap = v.heap) : OwnT v' B lv l := h.at fun _ _ => by rw [e]
theorem Rowed.from {v w' : World} {T : Tp} {d0 rb B : Nat} {lv : Value} {l : List Nat} (h : Rowed (onT v T d0) w' rb B lv l) : Rowed v w' rb B lv l := by
  obtain ⟨h1, h2, h3, h4, h5, h6⟩ := h
  exact ⟨h1, h2, h3, h4, h5, h6⟩
theorem Rowed.onT {v w' : World} {T : Tp} {d0 rb B : Nat} {lv : Value} {l : List Nat} (h : Rowed v (Go.Proofs.Ytaiinkeendejdaa.onT w' T d0) rb B lv l) : Rowed v w' rb B lv l := by
  obtain ⟨⟨lv', h0, h1, h1'⟩, h2, h3, h4, h5, h6⟩ := h
  exact ⟨⟨lv', h0, h1.same rfl, h1'⟩, h2, h3, h4, h5, h6⟩
/-- which run it is -/
structure RnIs (r : Rn) (N₀ rb sv stv stop Wg i0 : Nat) (f : FuncId) (caps : Array Value) : Prop where
  eqs : r.N₀ = N₀ ∧ r.rb = rb ∧ r.sv = sv ∧ r.stv = stv ∧ r.stop = stop ∧ r.Wg = Wg ∧ r.i0 = i0 ∧ r.f = f ∧ r.caps = caps
section
variable {Post : Value → World → Prop} {h : Nat}
set_option maxHeartbeats 1000000 in
theorem hire_loop {σ : Type} {n : Nat} {b0 : Bd} {v0 : World} {O0 : Nat → Prop} {J : Nat → σ → (Nat → Prop) → World → Prop} {s0 : σ} {Bl np pc : Nat} {pa : Option Addr} {dr : Int} {cs : List Frame} {N₀ rb sv stv stop Wg i0 : Nat} {f : FuncId} {caps : Array Value}
    (hJS : JStill N₀ J) (hear : b0.ear = true) (hwt : b0.wait = none) (hn8 : n ≤ 8) (hgr : ∀ Wg lo hi p, b0.wg Wg = some (lo, hi, p) → hi ≤ b0.n)
    (fin : ∀ (r : Rn) b v w, RnIs r N₀ rb sv stv stop Wg i0 f caps → r.n = n → HireSt r b0 v0 O0 J s0 Bl b v w → ∀ x1 x4 x6 x7 x10 x14 x15 x16 x17 x18 x19 x20 x21 x22 x23 x24 x25 x26 x27 x28 x29 x30 x31 x32 x33 x34 x35 x36 x37 x38 x39 x40 x41 x42 x43 x44 x45 x46 x47 x48 x49 x50 x51 x52 x53 x54 x55 x56 x57 x58 x59 x60 x61 x62 x63 x64 x65 x66 x67 x68 x69 x70 x71 x72 x73 x74 x75 x76 x77 x78 x79 x80 x81 x82 x83 x84 x85 x86 : Value, At Try.prog 64 Post b h (runAt #[.int .i64 (n : Nat), x1, .slice pa np pc, .int .i64 dr, x4, .pointer (some ⟨r.stv, 0, none⟩), x6, x7, .slice none 0 0, .int .i64 0, x10, .pointer (some ⟨r.sv, 0, none⟩), .pointer (some ⟨r.Wg, 0, none⟩), .pointer (some ⟨r.rb, 0, none⟩), x14, x15, x16, x17, x18, x19, x20, x21, x22, x23, x24, x25, x26, x27, x28, x29, x30, x31, x32, x33, x34, x35, x36, x37, x38, x39, x40, x41, x42, x43, x44, x45, x46, x47, x48, x49, x50, x51, x52, x53, x54, x55, x56, x57, x58, x59, x60, x61, x62, x63, x64, x65, x66, x67, x68, x69, x70, x71, x72, x73, x74, x75, x76, x77, x78, x79, x80, x81, x82, x83, x84, x85, x86] [.code tailPicks] cs) w) :
    ∀ (k : Nat) (r : Rn) (b : Bd) (v w : World), r.n + k = n → RnIs r N₀ rb sv stv stop Wg i0 f caps → HireSt r b0 v0 O0 J s0 Bl b v w → ∀ x1 x4 x6 x7 x10 x14 x15 x16 x17 x18 x19 x20 x21 x22 x23 x24 x25 x26 x27 x28 x29 x30 x31 x34 x35 x36 x37 x38 x39 x40 x41 x42 x43 x44 x45 x46 x47 x48 x49 x50 x51 x52 x53 x54 x55 x56 x57 x58 x59 x60 x61 x62 x63 x64 x65 x66 x67 x68 x69 x70 x71 x72 x73 x74 x75 x76 x77 x78 x79 x80 x81 x82 x83 x84 x85 x86 : Value, (∀ x ∈ [x14, x35, x36, x37, x38, x39, x40, x41, x42, x43, x44, x45, x46, x47, x48], NoZ (ZT b.shun v.heap.size) x) →
      At Try.prog 64 Post b h (runAt #[.int .i64 (n : Nat), x1, .slice pa np pc, .int .i64 dr, x4, .pointer (some ⟨r.stv, 0, none⟩), x6, x7, .slice none 0 0, .int .i64 0, x10, .pointer (some ⟨r.sv, 0, none⟩), .pointer (some ⟨r.Wg, 0, none⟩), .pointer (some ⟨r.rb, 0, none⟩), x14, x15, x16, x17, x18, x19, x20, x21, x22, x23, x24, x25, x26, x27, x28, x29, x30, x31, .int .i64 (n : Nat), .int .i64 (r.n : Nat), x34, x35, x36, x37, x38, x39, x40, x41, x42, x43, x44, x45, x46, x47, x48, x49, x50, x51, x52, x53, x54, x55, x56, x57, x58, x59, x60, x61, x62, x63, x64, x65, x66, x67, x68, x69, x70, x71, x72, x73, x74, x75, x76, x77, x78, x79, x80, x81, x82, x83, x84, x85, x86] [.code loopHire, .inLoop loopHire, .inBlock 0, .code tailPicks] cs) w := by
  have hmk := @make_wp
  have hrw := @row_wp
  have l1 := make_lone
  have l2 := row_lone
  simp only [runAt, makeHire, rowHire, bodyHire, loopHire, tailPicks, bodyRun, Try.f19, Option.getD_some] at fin hmk hrw l1 l2 ⊢
  intro k
  induction k with
  | zero =>
    intro r b v w hk e1 H
    intros
    have hF : Off b.shun w w := Off.refl _ _
    obtain rfl : r.n = n := by omega
    have hlt : decide ((r.n : Int) < (r.n : Int)) = false := by simp
    refine At.goes0 (n := 10) ?_
    u_c stepG_seq ro_off2 hF
    u_reg ro_off2 hF
    u_op ro_off2 hF
    u_c stepG_region_end ro_off2 hF
    u_c stepG_seq ro_off2 hF
    u_cond false ro_off2 hF
    u_exit ro_off2 hF
    refine Goes.stop (fun _ q => ?_)
    replace hF := ro_off2 hF q
    exact fin r b v _ e1 rfl { H with sim := hF.sim H.sim } _ _ _ _ _ _ _ _ _ _ _ _ _ _ _ _ _ _ _ _ _ _ _ _ _ _ _ _ _ _ _ _ _ _ _ _ _ _ _ _ _ _ _ _ _ _ _ _ _ _ _ _ _ _ _ _ _ _ _ _ _ _ _ _ _ _ _ _ _ _ _ _ _ _ _ _ _ _
  | succ k ih =>
    intro r b v w hk e1 H x1 x4 x6 x7 x10 x14 x15 x16 x17 x18 x19 x20 x21 x22 x23 x24 x25 x26 x27 x28 x29 x30 x31 x34 x35 x36 x37 x38 x39 x40 x41 x42 x43 x44 x45 x46 x47 x48 x49 x50 x51 x52 x53 x54 x55 x56 x57 x58 x59 x60 x61 x62 x63 x64 x65 x66 x67 x68 x69 x70 x71 x72 x73 x74 x75 x76 x77 x78 x79 x80 x81 x82 x83 x84 x85 x86 hz
    have hF : Off b.shun w w := Off.refl _ _
    have hlt : decide ((r.n : Int) < (n : Int)) = true := by simp; omega
    have hlt2 : decide (r.n < n) = true := by simp; omega
    have wi : IntKind.i64.wrap ((r.n : Int) + 1) = ((r.n + 1 : Nat) : Int) := by rw [IntKind.wrap_i64]; omega
    obtain ⟨lv, c1, c2, c3⟩ := H.row
    obtain ⟨q1, q2, q3, q4, q5⟩ := H.low
    refine At.goes0 (n := 20) ?_
    u_c stepG_seq ro_off2 hF
    u_reg ro_off2 hF
    u_op ro_off2 hF
    u_c stepG_region_end ro_off2 hF
    u_c stepG_seq ro_off2 hF
    u_cond true ro_off2 hF
    u_c stepG_skip ro_off2 hF
    u_c stepG_seq ro_off2 hF
    u_c stepG_block ro_off2 hF
    u_c stepG_seq ro_off2 hF
    refine Goes.stop (fun _ q => ?_)
    replace hF := ro_off2 hF q
    clear q
    refine At.piece (M := mask1) (R := fun a' w' => ∃ c d th tv, a'.tmps = #[.int .i64 (n : Nat), x1, .slice pa np pc, .int .i64 dr, x4, .pointer (some ⟨r.stv, 0, none⟩), x6, x7, .slice none 0 0, .int .i64 0, x10, .pointer (some ⟨r.sv, 0, none⟩), .pointer (some ⟨r.Wg, 0, none⟩), .pointer (some ⟨r.rb, 0, none⟩), .pointer (some ⟨tv, 0, none⟩), x15, x16, x17, x18, x19, x20, x21, x22, x23, x24, x25, x26, x27, x28, x29, x30, x31, .int .i64 (n : Nat), .int .i64 (r.n : Nat), .bool true, .chan (some c), .chan (some d), .agg #[.chan (some c), .chan (some d), .bool false], .pointer (some ⟨th, 0, none⟩), x39, x40, x41, x42, x43, x44, x45, x46, x47, x48, x49, x50, x51, x52, x53, x54, x55, x56, x57, x58, x59, x60, x61, x62, x63, x64, x65, x66, x67, x68, x69, x70, x71, x72, x73, x74, x75, x76, x77, x78, x79, x80, x81, x82, x83, x84, x85, x86] ∧ Made v w' c d th tv) nobody ⟨_, Try.func19⟩ l1 ?_ H.even (hF.sim H.sim) (fun T => ?_) (fun t1 v1 T d0 w1 hsl1 he1 hR1 hs1 => ?_)
    · intro i y hi hy
      have hi : i ∈ ([14, 35, 36, 37, 38] : List Nat) := Classical.not_not.1 (of_decide_eq_false hi)
      simp only [List.mem_cons, List.not_mem_nil, or_false] at hi
      rcases hi with rfl | rfl | rfl | rfl | rfl
      all_goals (obtain rfl := Option.some.inj hy; exact hz _ (by simp))
    · refine Code.wp_mono ?_ (hmk (v := onT v T 0))
      rintro e a' w' ⟨g1, _, c, d, th, tv, g2, g3⟩
      exact ⟨g1, c, d, th, tv, g2, g3.from⟩
    obtain ⟨c, d, th, tv, ht1, hM⟩ := hR1
    have hM := hM.onT
    obtain rfl := ht1
    have hnz : ∀ x, v.heap.size ≤ x → b.shun x = false := fun x hx => by
      cases e : b.shun x with
      | false => rfl
      | true => have := H.sim.low x e; rw [← H.sim.size] at this; omega
    have hnF : ∀ x, v.heap.size ≤ x → b.F x = 0 := fun x hx => by
      by_cases hf : b.F x = 0
      · exact hf
      · have := H.sim.iceLow hf
        rw [← H.sim.size] at this
        omega
    have hN := hM.new
    have hs1f : Sim b.shun (upd (upd b.F tv 1) th 2) (frostW (frostW v1 tv 1) th 2) w1 := (hs1.frost hM.htv (hnz tv hN.2.2.2.1) (hnF tv hN.2.2.2.1)).frost ((frostW_ne hM.ne.2).trans hM.hth) (hnz th hN.2.2.1.1) (by rw [upd_ne _ _ hM.ne.2]; exact hnF th hN.2.2.1.1)
    have he1f : Even (ZT b.shun (frostW (frostW v1 tv 1) th 2).heap.size) (frostW (frostW v1 tv 1) th 2) := by
      rw [frostW_size, frostW_size]; exact (he1.frost tv 1).frost th 2
    have hsz1f : (frostW (frostW v1 tv 1) th 2).heap.size = v.heap.size + 4 := by rw [frostW_size, frostW_size]; exact hM.size
    refine At.frost (F' := upd (upd b.F tv 1) th 2) (fun x => ?_) (fun x hx => ?_) ?_
    · by_cases e2 : x = th
      · rw [e2, hnF th hN.2.2.1.1]; exact Nat.zero_le _
      · rw [upd_ne _ _ e2]
        by_cases e3 : x = tv
        · rw [e3, hnF tv hN.2.2.2.1]; exact Nat.zero_le _
        · rw [upd_ne _ _ e3]; exact Nat.le_refl _
    · obtain ⟨h0, cs0, t0, _, h2⟩ := hs1f.ice x hx
      exact ⟨h0, cs0, t0, h2⟩
    obtain ⟨b1, hb1⟩ : ∃ b1, b1 = ({ b with F := upd (upd b.F tv 1) th 2 } : Bd) := ⟨_, rfl⟩
    rw [← hb1]
    have b1s : b1.shun = b.shun := by rw [hb1]
    have b1F : b1.F = upd (upd b.F tv 1) th 2 := by rw [hb1]
    rw [← b1s] at he1f
    rw [← b1s, ← b1F] at hs1f
    have hF : Off b1.shun w1 w1 := Off.refl _ _
    refine At.goes0 (n := 10) ?_
    u_c stepG_seq ro_off2 hF
    refine Goes.stop (fun _ q => ?_)
    replace hF := ro_off2 hF q
    clear q
    have hv1 : ∀ x, x < v.heap.size → (frostW (frostW v1 tv 1) th 2).heap[x]? = v.heap[x]? := fun x hx => by
      rw [frostW_ne (by omega), frostW_ne (by omega)]; exact hM.same x hx
    have hc1 : (frostW (frostW v1 tv 1) th 2).cell? ⟨r.rb, 0, none⟩ = some lv := (cell_same (a := ⟨r.rb, 0, none⟩) (hv1 r.rb (by omega))).trans c1
    have hfz1 : (frostW (frostW v1 tv 1) th 2).frozen? ⟨r.rb, 0, none⟩ = false := (World.frozen?_of_block (a := ⟨r.rb, 0, none⟩) (hv1 r.rb (by omega))).trans H.warm0
    have hown1 : OwnT (frostW (frostW v1 tv 1) th 2) Bl lv ((List.range r.n).map r.th) := c2.at fun g hg => hv1 g (c2.block hg).2
    have htv1 : (frostW (frostW v1 tv 1) th 2).cell? ⟨tv, 0, none⟩ = some (.pointer (some ⟨th, 0, none⟩)) := by
      rw [frostW_cell, frostW_cell]
      unfold World.cell?
      simp only [hM.htv]
      rfl
    have hmono : ∀ {x}, NoZ (ZT b.shun v.heap.size) x → NoZ (ZT b1.shun (frostW (frostW v1 tv 1) th 2).heap.size) x := fun {x} hx => by
      rw [b1s]; exact hx.mono (ZT_le (by omega))
    have hnew : ∀ x, v.heap.size ≤ x → x < v.heap.size + 4 → ZT b1.shun (frostW (frostW v1 tv 1) th 2).heap.size x = false := fun x h1 h2 => by
      rw [ZT_low (by omega), b1s]; exact hnz x h1
    have hrbz : ZT b1.shun (frostW (frostW v1 tv 1) th 2).heap.size r.rb = false := by rw [ZT_low (by omega), b1s]; exact H.open_
    refine At.piece (M := mask2) (R := fun a' w' => ∃ y39 y40 y41 y42 y43 y44 y45 y46 y47 y48, a'.tmps = #[.int .i64 (n : Nat), x1, .slice pa np pc, .int .i64 dr, x4, .pointer (some ⟨r.stv, 0, none⟩), x6, x7, .slice none 0 0, .int .i64 0, x10, .pointer (some ⟨r.sv, 0, none⟩), .pointer (some ⟨r.Wg, 0, none⟩), .pointer (some ⟨r.rb, 0, none⟩), .pointer (some ⟨tv, 0, none⟩), x15, x16, x17, x18, x19, x20, x21, x22, x23, x24, x25, x26, x27, x28, x29, x30, x31, .int .i64 (n : Nat), .int .i64 (r.n : Nat), .bool true, .chan (some c), .chan (some d), .agg #[.chan (some c), .chan (some d), .bool false], .pointer (some ⟨th, 0, none⟩), y39, y40, y41, y42, y43, y44, y45, y46, y47, y48, x49, x50, x51, x52, x53, x54, x55, x56, x57, x58, x59, x60, x61, x62, x63, x64, x65, x66, x67, x68, x69, x70, x71, x72, x73, x74, x75, x76, x77, x78, x79, x80, x81, x82, x83, x84, x85, x86] ∧ Rowed (frostW (frostW v1 tv 1) th 2) w' r.rb Bl lv ((List.range r.n).map r.th ++ [th])) nobody ⟨_, Try.func19⟩ l2 ?_ he1f (hF.sim hs1f) (fun T => ?_) (fun t2 v2 T d0 w2 hsl2 he2 hR2 hs2 => ?_)
    · intro i y hi hy
      have hi : i ∈ ([13, 14, 39, 40, 41, 42, 43, 44, 45, 46, 47, 48] : List Nat) := Classical.not_not.1 (of_decide_eq_false hi)
      simp only [List.mem_cons, List.not_mem_nil, or_false] at hi
      rcases hi with rfl | rfl | rfl | rfl | rfl | rfl | rfl | rfl | rfl | rfl | rfl | rfl
      · obtain rfl := Option.some.inj hy
        exact .any _
      · obtain rfl := Option.some.inj hy
        exact .any _
      all_goals (obtain rfl := Option.some.inj hy; exact hmono (hz _ (by simp)))
    · refine Code.wp_mono ?_ (hrw (v := onT (frostW (frostW v1 tv 1) th 2) T 0) hc1 hfz1 (hown1.same rfl) (by show Bl ≤ (frostW (frostW v1 tv 1) th 2).heap.size; omega) q1 (by simp; omega) htv1)
      refine onN_mono ?_
      rintro a' w' ⟨_, y39, y40, y41, y42, y43, y44, y45, y46, y47, y48, g2, g3⟩
      exact ⟨y39, y40, y41, y42, y43, y44, y45, y46, y47, y48, g2, g3.from⟩
    obtain ⟨y39, y40, y41, y42, y43, y44, y45, y46, y47, y48, ht2, hR⟩ := hR2
    have hR := hR.onT
    obtain rfl := ht2
    obtain ⟨lb, cap, hnext⟩ := H.next (by rw [e1.eqs.1]; exact hJS) c1 hM hR
    have hF : Off b1.shun w2 w2 := Off.refl _ _
    have b1ear : b1.ear = true := by rw [hb1]; exact H.ear.trans hear
    have b1wt : b1.wait = none := by rw [hb1]; exact H.wait.trans hwt
    have b1wg : b1.wg r.Wg = some (r.i0, r.i0 + r.n, 0) := by rw [hb1]; show b.wg r.Wg = _; rw [H.wg, upd_same]
    refine At.goes0 (n := 10) ?_
    u_c stepG_seq ro_off2 hF
    u_reg ro_off2 hF
    refine Goes.stop (fun wB q => ?_)
    replace hF := ro_off2 hF q
    clear q
    refine At.list rfl (fun wB q => ⟨_, #[], stepG_call rfl rfl (by decide) rfl Try.func29 nm_add rfl, by simp, ?_⟩)
    replace hF := ro_off2 hF q
    clear q
    rw [enter_at _ Try.func29 rfl]
    walk_nrmf Try.f29
    have hA := @addPosB Try.prog link Post b1 h wgLib r.Wg r.i0 (r.i0 + r.n) 0 b1ear b1wt b1wg (by omega)
    simp only [link] at hA
    refine hA ?_
    walk_nrm
    obtain ⟨b2, hb2⟩ : ∃ b2, b2 = ({ b1 with wg := upd b1.wg r.Wg (some (r.i0, r.i0 + r.n, 0 + 1)) } : Bd) := ⟨_, rfl⟩
    rw [← hb2]
    have b2s : b2.shun = b.shun := by rw [hb2]; exact b1s
    have b2F : b2.F = upd (upd b.F tv 1) th 2 := by rw [hb2]; exact b1F
    have b2n : b2.n = b.n := by rw [hb2, hb1]
    have b2r : b2.role = b.role := by rw [hb2, hb1]
    have b2ru : b2.rung = b.rung := by rw [hb2, hb1]
    have b2ear : b2.ear = true := by rw [hb2]; exact b1ear
    have b2wg : b2.wg = upd b1.wg r.Wg (some (r.i0, r.i0 + r.n, 1)) := by rw [hb2]
    have b1wg' : b1.wg = upd b0.wg r.Wg (some (r.i0, r.i0 + r.n, 0)) := by rw [hb1]; exact H.wg
    have hs3 := hF.sim hs2
    rw [b1s, b1F] at hs3
    have he3 := he2
    rw [b1s] at he3
    have HN := hnext wB hs3 he3
    have hF : Off b2.shun wB wB := Off.refl _ _
    obtain ⟨r', hr'⟩ : ∃ r', r' = r.more th tv c d lb cap v2.heap.size := ⟨_, rfl⟩
    rw [← hr'] at HN
    have kn' : r'.n = r.n + 1 := by rw [hr']; rfl
    have ki0 : r'.i0 = r.i0 := by rw [hr']; rfl
    have kth : r'.th r.n = th := by rw [hr']; exact upd_same _ _ _
    have ktv : r'.tv r.n = tv := by rw [hr']; exact upd_same _ _ _
    have kc : r'.c r.n = c := by rw [hr']; exact upd_same _ _ _
    have kbd : r'.bd r.n = v2.heap.size := by rw [hr']; exact upd_same _ _ _
    have kkn : r'.kn r.n = knLive tv r.sv r.stv th c r.stop r.step := by
      simp only [Rn.kn, kth, ktv, kc]; rw [hr']; rfl
    have kseat : r'.seat r.n = seatLive th c r.stop r.step [frR1 r.Wg tv r.sv r.stv th r.stop r.step, bot] noZs := by
      simp only [Rn.seat, kth, ktv, kc]; rw [hr']; rfl
    have hT := HN.thr r.n (by omega)
    have hbF : (b.more b0 r').F = b2.F := by
      rw [b2F]
      show upd (upd b.F (r'.tv (r'.n - 1)) 1) (r'.th (r'.n - 1)) 2 = _
      rw [show r'.n - 1 = r.n by omega, kth, ktv]
    have hband : b2.hire (seatLive th c r.stop r.step [frR1 r.Wg tv r.sv r.stv th r.stop r.step, bot] noZs) (knLive tv r.sv r.stv th c r.stop r.step) v2.heap.size (upd b0.wg r.Wg (some (r.i0, r.i0 + (r.n + 1), 0))) = b.more b0 r' := by
      have h1 : (b.more b0 r').role = upd b.role b.n (.seat (seatLive th c r.stop r.step [frR1 r.Wg tv r.sv r.stv th r.stop r.step, bot] noZs) (knLive tv r.sv r.stv th c r.stop r.step) v2.heap.size) := by
        show upd b.role b.n (.seat (r'.seat (r'.n - 1)) (r'.kn (r'.n - 1)) (r'.bd (r'.n - 1))) = _
        rw [show r'.n - 1 = r.n by omega, kseat, kkn, kbd]
      have h2 : (b.more b0 r').wg = upd b0.wg r.Wg (some (r.i0, r.i0 + (r.n + 1), 0)) := by
        show upd b0.wg r'.Wg (some (r'.i0, r'.i0 + r'.n, 0)) = _
        rw [ki0, kn', hr']; rfl
      unfold Bd.hire
      rw [← h2, b2n, b2r, ← h1, hb2, hb1]
      unfold Bd.more at hbF ⊢
      simp only [b2F] at hbF ⊢
      rw [hbF]
    refine At.goes0 (n := 10) ?_
    u_c stepG_region_end ro_off2 hF
    u_reg ro_off2 hF
    u_op ro_off2 hF
    refine Goes.stop (fun wC q => ?_)
    replace hF := ro_off2 hF q
    clear q
    have hs4 : Sim b2.shun b2.F v2 wC := by
      rw [b2s, b2F]
      rw [b2s] at hF
      exact hF.sim hs3
    refine At.hire (s := seatLive th c r.stop r.step [frR1 r.Wg tv r.sv r.stv th r.stop r.step, bot] noZs) (kn := knLive tv r.sv r.stv th c r.stop r.step) (B := v2.heap.size) (nc := 27) (child := born Try.prog (callR1 r.Wg tv r.sv r.stv)) (es := #[]) (upd b0.wg r.Wg (some (r.i0, r.i0 + (r.n + 1), 0))) b2ear rfl (fun w₁ o => by
      rw [stepG_spawn (d := callR1 r.Wg tv r.sv r.stv) (w' := w₁) (f := .func 30) (c := #[.pointer (some ⟨r.Wg, 0, none⟩), .pointer (some ⟨tv, 0, none⟩), .pointer (some ⟨r.sv, 0, none⟩), .pointer (some ⟨r.stv, 0, none⟩)]) rfl rfl (by decide) (by simp [go_sem, execOp, callR1, Deferred.ofValue, Act.eval]) rfl, listed_none (by simp [go_sem, execOp, Act.eval])]) (by simp) ?_ ?_ ?_ ?_ ?_
    · have hn0 : (b2.n == 0) = false := by
        have := H.pos
        have := H.num.1
        simp; omega
      have key : ∀ p ∈ knLive tv r.sv r.stv th c r.stop r.step, v2.cell? p.1 = some p.2 ∧ iceF b2.F p.1 = true ∧ p.1.block < v2.heap.size ∧ b2.shun p.1.block = false := fun p hp => by
        rw [← kkn] at hp
        obtain ⟨g1, g2, g3, _, g5, _⟩ := hT.keep p hp
        rw [kbd] at g3
        rw [hbF] at g2
        exact ⟨g1, g2, g3, by rw [b2s]; exact g5⟩
      have hch : ∀ x, x = c ∨ x = r.stop → (∃ z, wC.heap[x]? = some (.chan 0 #[] false z z false)) ∧ b2.shun x = false ∧ b2.rung x = false := fun x hx => by
        have estop : r'.stop = r.stop := by rw [hr']; rfl
        obtain ⟨⟨z, g1⟩, g2, g3, _⟩ := hT.chan x (by rcases hx with rfl | rfl; exact .inl kc.symm; exact .inr (.inr estop.symm))
        exact ⟨⟨z, by rw [← hs4.heap x (by rw [b2s]; exact g2) (sim_F hs4 g1 rfl)]; exact g1⟩, by rw [b2s]; exact g2, by rw [b2ru]; exact g3⟩
      refine newSeat (by rw [hn0]; exact live_birth (key (⟨tv, 0, none⟩, .pointer (some ⟨th, 0, none⟩)) (by simp [knLive])).2.2.1 (key (⟨r.sv, 0, none⟩, .chan (some r.stop)) (by simp [knLive])).2.2.1 (key (⟨r.stv, 0, none⟩, r.step) (by simp [knLive])).2.2.1 (key (⟨th, 0, none⟩, .chan (some c)) (by simp [knLive])).2.2.1) (fun p hp => ?_) (by rw [hs4.size]; exact Nat.le_refl _) (seatLive_wf ?_) (fun x hx => ?_)
      · obtain ⟨g1, g2, g3, g4⟩ := key p hp
        exact ⟨(hs4.cell g4).symm.trans g1, g2, g3⟩
      · have := hT.ne.2.1
        rw [kc, show r'.stop = r.stop by rw [hr']; rfl] at this
        exact this
      · exact hch x (seatLive_has hx)
    · intro Wg' lo hi p hw
      by_cases hWe : Wg' = r.Wg
      · subst hWe
        rw [upd_same] at hw
        obtain ⟨rfl, rfl, rfl⟩ : r.i0 = lo ∧ r.i0 + (r.n + 1) = hi ∧ 0 = p := by
          have e1 := Option.some.inj hw
          exact ⟨congrArg (·.1) e1, congrArg (·.2.1) e1, congrArg (·.2.2) e1⟩
        refine .inr ⟨by rw [b2wg, upd_same, b2n, H.num.1], by rw [b2n, H.num.1]; omega, by rw [b2n, H.num.1]; omega, by rw [b2n, H.num.1]; omega⟩
      · rw [upd_ne _ _ hWe] at hw
        exact .inl (by rw [b2wg, b1wg', upd_ne _ _ hWe, upd_ne _ _ hWe]; exact hw)
    · intro Wg' _ lo hi p hw
      rw [b2wg, b1wg'] at hw
      by_cases hWe : Wg' = r.Wg
      · subst hWe
        rw [upd_same] at hw
        obtain ⟨rfl, rfl, rfl⟩ : r.i0 = lo ∧ r.i0 + r.n = hi ∧ 1 = p := by
          have e1 := Option.some.inj hw
          exact ⟨congrArg (·.1) e1, congrArg (·.2.1) e1, congrArg (·.2.2) e1⟩
        exact ⟨_, _, upd_same _ _ _, by omega⟩
      · rw [upd_ne _ _ hWe, upd_ne _ _ hWe] at hw
        exact ⟨hi, p, by rw [upd_ne _ _ hWe]; exact hw, Nat.le_refl _⟩
    · have one : ∀ W lo p, upd b0.wg r.Wg (some (r.i0, r.i0 + (r.n + 1), 0)) W = some (lo, b2.n + 1, p) → W = r.Wg := fun W lo p hw => by
        by_cases hWe : W = r.Wg
        · exact hWe
        · rw [upd_ne _ _ hWe] at hw
          have := hgr W lo _ p hw
          have := H.num
          rw [b2n] at *
          omega
      exact fun W W' lo p lo' p' h1 h2 => (one W lo p h1).trans (one W' lo' p' h2).symm
    rw [hband]
    have bms : ∀ {r' : Rn}, (b.more b0 r').shun = b.shun := rfl
    have HN' : HireSt r' b0 v0 O0 J s0 Bl (b.more b0 r') v2 wC := { HN with sim := by rw [bms, hbF, ← b2s]; exact hs4 }
    have hF : Off (b.more b0 r').shun wC wC := Off.refl _ _
    refine At.goes0 (n := 20) ?_
    u_c stepG_region_end ro_off2 hF
    u_c stepG_inBlock ro_off2 hF
    u_reg ro_off2 hF
    u_op ro_off2 hF
    u_op ro_off2 hF
    u_c stepG_region_end ro_off2 hF
    u_c stepG_inLoop ro_off2 hF
    refine Goes.stop (fun wD q => ?_)
    replace hF := ro_off2 hF q
    clear q
    have hsz2 : v.heap.size + 4 ≤ v2.heap.size := by rw [← hsz1f]; exact hR.size
    have hzn : ∀ x, v.heap.size ≤ x → x < v.heap.size + 4 → ZT (b.more b0 r').shun v2.heap.size x = false := fun x h1 h2 => by
      rw [ZT_low (by omega), bms]; exact hnz x h1
    have en : (r.n : Int) + 1 = ((r'.n : Nat) : Int) := by rw [kn']; omega
    have hY := hsl2
    rw [b1s, ← bms (r' := r')] at hY
    have hIH := ih r' (b.more b0 r') v2 wD (by omega) ⟨by rw [hr']; exact e1.eqs⟩ { HN' with sim := hF.sim HN'.sim }
    rw [show r'.stv = r.stv by rw [hr']; rfl, show r'.sv = r.sv by rw [hr']; rfl, show r'.Wg = r.Wg by rw [hr']; rfl, show r'.rb = r.rb by rw [hr']; rfl, kn'] at hIH
    refine hIH _ _ _ _ _ _ _ _ _ _ _ _ _ _ _ _ _ _ _ _ _ _ _ _ _ _ _ _ _ _ _ _ _ _ _ _ _ _ _ _ _ _ _ _ _ _ _ _ _ _ _ _ _ _ _ _ _ _ _ _ _ _ _ _ _ _ _ _ _ _ _ _ _ _ _ _ ?_
    intro x hx
    simp only [List.mem_cons, List.not_mem_nil, or_false] at hx
    rcases hx with rfl | rfl | rfl | rfl | rfl | rfl | rfl | rfl | rfl | rfl | rfl | rfl | rfl | rfl | rfl
    · exact .any _
    · exact .any _
    · exact .any _
    · refine .agg _ fun y hy => ?_
      simp only [List.mem_toArray, List.mem_cons, List.not_mem_nil, or_false] at hy
      rcases hy with rfl | rfl | rfl
      · exact .any _
      · exact .any _
      · exact .bool _
    · exact .any _
    · exact hY 39 _ (by decide) rfl
    · exact hY 40 _ (by decide) rfl
    · exact hY 41 _ (by decide) rfl
    · exact hY 42 _ (by decide) rfl
    · exact hY 43 _ (by decide) rfl
    · exact hY 44 _ (by decide) rfl
    · exact hY 45 _ (by decide) rfl
    · exact hY 46 _ (by decide) rfl
    · exact hY 47 _ (by decide) rfl
    · exact hY 48 _ (by decide) rfl
end
end Go.Proofs.Ytaiinkeendejdaa

