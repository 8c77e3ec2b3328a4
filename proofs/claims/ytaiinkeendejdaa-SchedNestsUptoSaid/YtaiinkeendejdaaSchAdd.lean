/-
  SCHED: (*sync.WaitGroup).Add(1) by the holder of a band (printed by gen/schwg.py). No condition.
-/
import Derived.Test.YtaiinkeendejdaaSchDone
namespace Go.Proofs.Ytaiinkeendejdaa
open Go.Conc Go.ConcN Go.RowKit Go.Conc.Lib Go.ConcR.Gen Go.ConcN.Gen
open Go.ConcR (KK wgBlock WgAt stA smA rd wr mk DC0)

variable {P : Program} {L : WgLink} {Post : Value → World → Prop} {b : Bd} {h : Nat}
theorem ro_rely {ty : TypeId} {Wg lo hi p : Nat} {w₀ w w₁ : World} (hwg : b.wg Wg = some (lo, hi, p)) (o : Off b.shun w₀ w ∧ WgLive ty Wg w) (r : RO ty b w w₁) : Off b.shun w₀ w₁ ∧ WgLive ty Wg w₁ := ⟨o.1.trans r.off, (r.live _ _ _ _ hwg).1⟩
theorem ro_off {ty : TypeId} {Wg lo hi p : Nat} {w₀ w w₁ : World} (hwg : b.wg Wg = some (lo, hi, p)) (o : Off b.shun w₀ w) (r : RO ty b w w₁) : Off b.shun w₀ w₁ ∧ WgLive ty Wg w₁ := ⟨o.trans r.off, (r.live _ _ _ _ hwg).1⟩
theorem evs_add {ty : TypeId} {Wg lo hi p : Nat} {w w₁ : World} {st sm : Int} (hwg : b.wg Wg = some (lo, hi, p)) (r : RO ty b w w₁) (hw : WgAt ty Wg w₁ st sm) : ∀ e ∈ #[rd (stA Wg), wr (stA Wg)], EvO b w₁.heap.size e := fun e he => by
  have hi := r.ice Wg (r.live _ _ _ _ hwg).2
  have hn : Wg < w₁.heap.size := (Array.getElem?_eq_some_iff.1 hw).1
  simp only [List.mem_toArray, List.mem_cons, List.not_mem_nil, or_false] at he
  rcases he with rfl | rfl
  · exact evO_atomic hi hn
  · exact evO_atomic hi hn
theorem ear_back {W : Nat → Option (Nat × Nat × Nat)} (hear : b.ear = true) : ({ ({ ({ b with ear := false } : Bd) with wg := W } : Bd) with ear := true } : Bd) = { b with wg := W } := by cases b; simp only at hear; subst hear; rfl
set_option maxRecDepth 100000 in
set_option maxHeartbeats 8000000 in
theorem addPosB (H : WgLib P L) {Wg lo hi p : Nat} (hear : b.ear = true) (hwt : b.wait = none) (hwg : b.wg Wg = some (lo, hi, p)) (hp : hi - lo + (p + 1) < 1000000) {b₀ : Frame} {a₀ : Act} {ops₀ : Array Oper} {i₀ : Nat} {rest₀ : List Nat} {k₀ : List Item} {cs : List Frame} {w₀ : World}
    (hA : At P L.tWg Post { b with wg := upd b.wg Wg (some (lo, hi, p + 1)) } h (G (b₀.at (a₀.put ((ops₀[i₀]?).bind (·.dst)) (.tuple #[])) (.inRegion ops₀ rest₀ :: k₀)) cs) w₀) :
    At P L.tWg Post b h (G ((base L.add).at ⟨#[.pointer (some ⟨Wg, 0, none⟩), .int .i64 1, undef, undef, undef, undef, undef, undef, undef, undef, undef, undef, undef, undef, undef, undef, undef, undef, undef, undef, undef, undef, undef, undef, undef, undef, undef, undef, undef, undef, undef, undef, undef, undef, undef, undef, undef, undef, undef, undef, undef, undef, undef, undef, undef, undef, undef, undef, undef, undef, undef, undef, undef, undef, undef, undef, undef, undef, undef, undef, undef, undef, undef, undef, undef, undef, undef, undef, undef, undef, undef, undef, undef, undef, undef, undef, undef, undef, undef, undef, undef, undef, undef, undef, undef, undef, undef, undef, undef, undef, undef, undef, undef, undef, undef, undef, undef, undef, undef, undef, undef, undef, undef, undef, undef, undef, undef, undef, undef, undef, undef, undef, undef, undef, undef, undef, undef], []⟩ [.code (body_add L)]) (b₀.at a₀ (.inRegion ops₀ (i₀ :: rest₀) :: k₀) :: cs)) w₀ := by
  rw [← ear_back hear] at hA
  have hwg1 : ({ b with ear := false } : Bd).wg Wg = some (lo, hi, p) := hwg
  have hwg2 : ({ ({ b with ear := false } : Bd) with wg := upd b.wg Wg (some (lo, hi, p + 1)) } : Bd).wg Wg = some (lo, hi, p + 1) := by simp [upd]
  generalize hb3 : ({ ({ ({ b with ear := false } : Bd) with wg := upd b.wg Wg (some (lo, hi, p + 1)) } : Bd) with ear := true } : Bd) = b3 at hA
  have hb3s : b3.shun = b.shun := by rw [← hb3]
  have hb3w : b3.wg Wg = some (lo, hi, p + 1) := by rw [← hb3]; exact hwg2
  generalize hb2 : ({ ({ b with ear := false } : Bd) with wg := upd b.wg Wg (some (lo, hi, p + 1)) } : Bd) = b2 at hwg2 hb3
  have hb2s : b2.shun = b.shun := by rw [← hb2]
  have hb2e : b2.ear = false := by rw [← hb2]
  generalize hb1 : ({ b with ear := false } : Bd) = b1 at hwg1 hb2
  have hb1s : b1.shun = b.shun := by rw [← hb1]
  have hb1e : b1.ear = false := by rw [← hb1]
  have hb1t : b1.wait = none := by rw [← hb1]; exact hwt
  have hF : Off b.shun w₀ w₀ := Off.refl _ _
  lib_facts
  simp only [body_add, addFn, Option.getD_some]
  refine At.goes0 (n := 20) ?_
  u_c stepG_seq (ro_off hwg) hF
  u_cond true (ro_rely hwg) hF
  u_c stepG_seq (ro_rely hwg) hF
  u_c stepG_seq (ro_rely hwg) hF
  u_reg (ro_rely hwg) hF
  u_op (ro_rely hwg) hF
  u_op (ro_rely hwg) hF
  u_c stepG_region_end (ro_rely hwg) hF
  u_cond false (ro_rely hwg) hF
  u_c stepG_skip (ro_rely hwg) hF
  u_c stepG_seq (ro_rely hwg) hF
  u_reg (ro_rely hwg) hF
  refine Goes.stop (fun _ r => ?_)
  replace hF := ro_rely hwg hF r
  clear r
  refine At.dis hear rfl (fun _ r => ⟨_, stepG_mark0 .disable (by simp) rfl rfl (by k_ne) rfl H.f_disable (x_disable_n L) (x_disable_b L) (x_disable_x L) (x_disable_f L), ?_⟩)
  replace hF := ro_rely hwg hF r
  clear r
  rw [hb1]
  rw [← hb1s] at hF
  walk_nrm
  refine At.goes0 (n := 60) ?_
  u_c stepG_region_end (ro_rely hwg1) hF
  u_reg (ro_rely hwg1) hF
  u_defer (ro_rely hwg1) hF
  u_c stepG_region_end (ro_rely hwg1) hF
  u_c stepG_seq (ro_rely hwg1) hF
  u_reg (ro_rely hwg1) hF
  u_op (ro_rely hwg1) hF
  u_c stepG_region_end (ro_rely hwg1) hF
  u_c stepG_seq (ro_rely hwg1) hF
  u_c stepG_seq (ro_rely hwg1) hF
  u_reg (ro_rely hwg1) hF
  u_bub (ro_rely hwg1) hF
  u_c stepG_region_end (ro_rely hwg1) hF
  u_cond false (ro_rely hwg1) hF
  u_c stepG_skip (ro_rely hwg1) hF
  u_c stepG_seq (ro_rely hwg1) hF
  u_reg (ro_rely hwg1) hF
  u_op (ro_rely hwg1) hF
  u_op (ro_rely hwg1) hF
  u_op (ro_rely hwg1) hF
  u_op (ro_rely hwg1) hF
  u_op (ro_rely hwg1) hF
  u_op (ro_rely hwg1) hF
  u_call H.f_uAdd (nm_uAdd L) uAddFn (ro_rely hwg1) hF
  u_c stepG_seq (ro_rely hwg1) hF
  u_reg (ro_rely hwg1) hF
  u_op (ro_rely hwg1) hF
  u_c stepG_region_end (ro_rely hwg1) hF
  u_c stepG_seq (ro_rely hwg1) hF
  u_reg (ro_rely hwg1) hF
  u_op (ro_rely hwg1) hF
  u_op (ro_rely hwg1) hF
  u_op (ro_rely hwg1) hF
  u_op (ro_rely hwg1) hF
  refine Goes.stop (fun _ r => ?_)
  replace hF := ro_rely hwg1 hF r
  clear r
  refine At.turn (p' := p + 1) rfl hb1t hwg1 hp (fun w₂ r V hV hpV hw => ?_)
  have hes := evs_add hwg1 r hw
  replace hF := ro_rely hwg1 hF r
  clear r
  have hnew : ({ b1 with wg := upd b1.wg Wg (some (lo, hi, p + 1)) } : Bd) = b2 := by rw [← hb2, ← hb1]
  rw [hnew]
  rw [hb1s, ← hb2s] at hF
  rw [show V - p + (p + 1) = V + 1 by omega]
  rcases Nat.eq_zero_or_pos V with rfl | hvp
  · replace hw : WgAt L.tWg Wg w₂ 0 0 := by simpa using hw
    have z : (((0 + 1 : Nat)) : Int) * KK = KK := by simp
    rw [z]
    have e0 : IntKind.u64.wrap (0 + 4294967296) = KK := by decide
    refine ⟨_, _, (stepG_add_atomic rfl rfl (by k_ne) rfl H.f_addU64 (x_addU64_n L) (x_addU64_b L) (x_addU64_x L) .u64 (x_addU64_f L) rfl rfl hw.cellSt (hw.thaw 0)).trans (by rw [e0]; rfl), hes, ?_⟩
    clear hw hes z e0
    simp only [KK]
    walk_nrm
    refine At.goes0 (n := 80) ?_
    u_op (ro_rely hwg2) hF
    u_c stepG_region_end (ro_rely hwg2) hF
    u_c stepG_ret' (ro_rely hwg2) hF
    u_leave1 H.f_uAdd (ro_rely hwg2) hF
    u_op (ro_rely hwg2) hF
    u_c stepG_region_end (ro_rely hwg2) hF
    u_c stepG_seq (ro_rely hwg2) hF
    u_c stepG_seq (ro_rely hwg2) hF
    u_reg (ro_rely hwg2) hF
    u_op (ro_rely hwg2) hF
    u_op (ro_rely hwg2) hF
    u_op (ro_rely hwg2) hF
    u_op (ro_rely hwg2) hF
    u_skip (ro_rely hwg2) hF
    u_skip (ro_rely hwg2) hF
    u_op (ro_rely hwg2) hF
    u_c stepG_region_end (ro_rely hwg2) hF
    u_cond false (ro_rely hwg2) hF
    u_c stepG_skip (ro_rely hwg2) hF
    u_c stepG_seq (ro_rely hwg2) hF
    u_reg (ro_rely hwg2) hF
    u_op (ro_rely hwg2) hF
    u_op (ro_rely hwg2) hF
    u_op (ro_rely hwg2) hF
    u_op (ro_rely hwg2) hF
    u_c stepG_region_end (ro_rely hwg2) hF
    u_c stepG_seq (ro_rely hwg2) hF
    u_reg (ro_rely hwg2) hF
    u_op (ro_rely hwg2) hF
    u_op (ro_rely hwg2) hF
    u_op (ro_rely hwg2) hF
    u_op (ro_rely hwg2) hF
    u_c stepG_region_end (ro_rely hwg2) hF
    u_c stepG_seq (ro_rely hwg2) hF
    u_c stepG_seq (ro_rely hwg2) hF
    u_reg (ro_rely hwg2) hF
    u_op (ro_rely hwg2) hF
    u_op (ro_rely hwg2) hF
    u_op (ro_rely hwg2) hF
    u_op (ro_rely hwg2) hF
    u_op (ro_rely hwg2) hF
    u_op (ro_rely hwg2) hF
    u_op (ro_rely hwg2) hF
    u_op (ro_rely hwg2) hF
    u_op (ro_rely hwg2) hF
    u_op (ro_rely hwg2) hF
    u_c stepG_region_end (ro_rely hwg2) hF
    u_cond true (ro_rely hwg2) hF
    u_reg (ro_rely hwg2) hF
    u_op (ro_rely hwg2) hF
    u_op (ro_rely hwg2) hF
    u_op (ro_rely hwg2) hF
    u_conv H.underlying_tPU32 H.room_tU32 (WgLive.cell1 hF.2).choose_spec (ro_rely hwg2) hF
    refine Goes.stop (fun _ r => ?_)
    replace hF := ro_rely hwg2 hF r
    clear r
    refine At.list rfl (fun w₃ r => ⟨_, _, stepG_markAt .read (by simp) rfl rfl (by k_ne) rfl H.f_raceRead (x_raceRead_n L) (x_raceRead_b L) (x_raceRead_x L) (x_raceRead_f L) (ad := ⟨Wg, 1, none⟩) (by simp [Act.eval]), fun e he => ?_, ?_⟩)
    · rw [Array.mem_singleton] at he
      subst he
      obtain ⟨_, _, hx⟩ := (r.live _ _ _ _ hwg2).1
      exact evO_said (wr := false) (r.ice Wg (r.live _ _ _ _ hwg2).2) (Array.getElem?_eq_some_iff.1 hx).1
    replace hF := ro_rely hwg2 hF r
    clear r
    walk_nrm
    refine At.goes0 (n := 60) ?_
    u_c stepG_region_end (ro_rely hwg2) hF
    u_c stepG_seq (ro_rely hwg2) hF
    u_c stepG_seq (ro_rely hwg2) hF
    u_reg (ro_rely hwg2) hF
    u_op (ro_rely hwg2) hF
    u_op (ro_rely hwg2) hF
    u_c stepG_region_end (ro_rely hwg2) hF
    u_cond false (ro_rely hwg2) hF
    u_c stepG_skip (ro_rely hwg2) hF
    u_c stepG_seq (ro_rely hwg2) hF
    u_c stepG_seq (ro_rely hwg2) hF
    u_reg (ro_rely hwg2) hF
    u_op (ro_rely hwg2) hF
    u_op (ro_rely hwg2) hF
    u_op (ro_rely hwg2) hF
    u_skip (ro_rely hwg2) hF
    u_skip (ro_rely hwg2) hF
    u_op (ro_rely hwg2) hF
    u_op (ro_rely hwg2) hF
    u_skip (ro_rely hwg2) hF
    u_skip (ro_rely hwg2) hF
    u_skip (ro_rely hwg2) hF
    u_skip (ro_rely hwg2) hF
    u_op (ro_rely hwg2) hF
    u_c stepG_region_end (ro_rely hwg2) hF
    u_cond false (ro_rely hwg2) hF
    u_c stepG_skip (ro_rely hwg2) hF
    u_c stepG_seq (ro_rely hwg2) hF
    u_c stepG_seq (ro_rely hwg2) hF
    u_reg (ro_rely hwg2) hF
    u_op (ro_rely hwg2) hF
    u_op (ro_rely hwg2) hF
    u_op (ro_rely hwg2) hF
    u_skip (ro_rely hwg2) hF
    u_skip (ro_rely hwg2) hF
    u_op (ro_rely hwg2) hF
    u_c stepG_region_end (ro_rely hwg2) hF
    u_cond true (ro_rely hwg2) hF
    u_c stepG_ret' (ro_rely hwg2) hF
    refine Goes.stop (fun _ r => ?_)
    replace hF := ro_rely hwg2 hF r
    clear r
    refine At.en hb2e rfl (fun _ r => ⟨_, stepG_unwind_entry (v := .tuple #[]) (evs := #[mk .enable]) rfl H.f_enable (x_enable_n L) (x_enable_b L) (x_enable_x L) (x_enable_f L) (by simp [Extern.Race.none_]) (by simp [mk]) (by simp [mk]), ?_⟩)
    replace hF := ro_rely hwg2 hF r
    clear r
    rw [hb3]
    rw [hb2s, ← hb3s] at hF
    refine At.goes0 (n := 3) ?_
    u_leave0 H.f_add (ro_rely hb3w) hF
    refine Goes.stop (fun _ r => ?_)
    replace hF := ro_rely hb3w hF r
    exact hA.off hF.1
  · obtain ⟨Vn, hVn⟩ : ∃ Vn : Int, Vn = (V : Int) + 1 := ⟨_, rfl⟩
    obtain ⟨S, hS⟩ : ∃ S : Int, S = Vn * KK := ⟨_, rfl⟩
    have eS : IntKind.u64.wrap ((V : Int) * KK + 4294967296) = S := by rw [IntKind.wrap_u64, hS, hVn]; simp only [KK]; omega
    have z : (((V + 1 : Nat)) : Int) * KK = S := by rw [hS, hVn]; simp
    rw [z]
    have a1 : S / 4294967296 = Vn := by rw [hS]; simp only [KK]; omega
    have b1 : bits .and .u64 S 2147483648 = 0 := by rw [hS, hVn]; have := st_flag (V + 1) 0 (by omega) (by omega); simpa [KK] using this
    have b2 : bits .and .u64 S 2147483647 = 0 := by rw [hS, hVn]; have := st_waiters (V + 1) 0 (by omega) (by omega); simpa [KK] using this
    have c1 : IntKind.i32.wrap Vn = Vn := by rw [IntKind.wrap_i32]; omega
    have hV1 : 1 < Vn := by omega
    have hV2 : Vn < 2147483648 := by omega
    have q1 : (Vn == 1) = false := by simp; omega
    have q2 : decide (Vn = 1) = false := decide_eq_false (by omega)
    have q3 : decide (Vn < 0) = false := decide_eq_false (by omega)
    have q4 : decide (0 < Vn) = true := decide_eq_true (by omega)
    have q5 : (Vn == 0) = false := by simp; omega
    have q6 : decide (Vn = 0) = false := decide_eq_false (by omega)
    refine ⟨_, _, (stepG_add_atomic rfl rfl (by k_ne) rfl H.f_addU64 (x_addU64_n L) (x_addU64_b L) (x_addU64_x L) .u64 (x_addU64_f L) rfl rfl hw.cellSt (hw.thaw 0)).trans (by rw [eS]; rfl), hes, ?_⟩
    clear hw hes z hS hVn eS
    walk_nrm
    refine At.goes0 (n := 120) ?_
    u_op (ro_rely hwg2) hF
    u_c stepG_region_end (ro_rely hwg2) hF
    u_c stepG_ret' (ro_rely hwg2) hF
    u_leave1 H.f_uAdd (ro_rely hwg2) hF
    u_op (ro_rely hwg2) hF
    u_c stepG_region_end (ro_rely hwg2) hF
    u_c stepG_seq (ro_rely hwg2) hF
    u_c stepG_seq (ro_rely hwg2) hF
    u_reg (ro_rely hwg2) hF
    u_op (ro_rely hwg2) hF
    u_op (ro_rely hwg2) hF
    u_op (ro_rely hwg2) hF
    u_op (ro_rely hwg2) hF
    u_skip (ro_rely hwg2) hF
    u_skip (ro_rely hwg2) hF
    u_op (ro_rely hwg2) hF
    u_c stepG_region_end (ro_rely hwg2) hF
    u_cnd false (ro_rely hwg2) hF
    u_c stepG_skip (ro_rely hwg2) hF
    u_c stepG_seq (ro_rely hwg2) hF
    u_reg (ro_rely hwg2) hF
    u_op (ro_rely hwg2) hF
    u_op (ro_rely hwg2) hF
    u_op (ro_rely hwg2) hF
    u_op (ro_rely hwg2) hF
    u_c stepG_region_end (ro_rely hwg2) hF
    u_c stepG_seq (ro_rely hwg2) hF
    u_reg (ro_rely hwg2) hF
    u_op (ro_rely hwg2) hF
    u_op (ro_rely hwg2) hF
    u_op (ro_rely hwg2) hF
    u_op (ro_rely hwg2) hF
    u_c stepG_region_end (ro_rely hwg2) hF
    u_c stepG_seq (ro_rely hwg2) hF
    u_c stepG_seq (ro_rely hwg2) hF
    u_reg (ro_rely hwg2) hF
    u_op (ro_rely hwg2) hF
    u_op (ro_rely hwg2) hF
    u_op (ro_rely hwg2) hF
    u_op (ro_rely hwg2) hF
    u_op (ro_rely hwg2) hF
    u_op (ro_rely hwg2) hF
    u_op (ro_rely hwg2) hF
    u_op (ro_rely hwg2) hF
    u_op (ro_rely hwg2) hF
    u_op (ro_rely hwg2) hF
    u_c stepG_region_end (ro_rely hwg2) hF
    u_cnd false (ro_rely hwg2) hF
    u_c stepG_skip (ro_rely hwg2) hF
    u_c stepG_seq (ro_rely hwg2) hF
    u_c stepG_seq (ro_rely hwg2) hF
    u_reg (ro_rely hwg2) hF
    u_op (ro_rely hwg2) hF
    u_op (ro_rely hwg2) hF
    u_c stepG_region_end (ro_rely hwg2) hF
    u_cnd false (ro_rely hwg2) hF
    u_c stepG_skip (ro_rely hwg2) hF
    u_c stepG_seq (ro_rely hwg2) hF
    u_c stepG_seq (ro_rely hwg2) hF
    u_reg (ro_rely hwg2) hF
    u_op (ro_rely hwg2) hF
    u_op (ro_rely hwg2) hF
    u_op (ro_rely hwg2) hF
    u_skip (ro_rely hwg2) hF
    u_skip (ro_rely hwg2) hF
    u_op (ro_rely hwg2) hF
    u_op (ro_rely hwg2) hF
    u_skip (ro_rely hwg2) hF
    u_skip (ro_rely hwg2) hF
    u_skip (ro_rely hwg2) hF
    u_skip (ro_rely hwg2) hF
    u_op (ro_rely hwg2) hF
    u_c stepG_region_end (ro_rely hwg2) hF
    u_cnd false (ro_rely hwg2) hF
    u_c stepG_skip (ro_rely hwg2) hF
    u_c stepG_seq (ro_rely hwg2) hF
    u_c stepG_seq (ro_rely hwg2) hF
    u_reg (ro_rely hwg2) hF
    u_op (ro_rely hwg2) hF
    u_op (ro_rely hwg2) hF
    u_op (ro_rely hwg2) hF
    u_skip (ro_rely hwg2) hF
    u_skip (ro_rely hwg2) hF
    u_op (ro_rely hwg2) hF
    u_c stepG_region_end (ro_rely hwg2) hF
    u_cnd true (ro_rely hwg2) hF
    u_c stepG_ret' (ro_rely hwg2) hF
    refine Goes.stop (fun _ r => ?_)
    replace hF := ro_rely hwg2 hF r
    clear r
    refine At.en hb2e rfl (fun _ r => ⟨_, stepG_unwind_entry (v := .tuple #[]) (evs := #[mk .enable]) rfl H.f_enable (x_enable_n L) (x_enable_b L) (x_enable_x L) (x_enable_f L) (by simp [Extern.Race.none_]) (by simp [mk]) (by simp [mk]), ?_⟩)
    replace hF := ro_rely hwg2 hF r
    clear r
    rw [hb3]
    rw [hb2s, ← hb3s] at hF
    refine At.goes0 (n := 3) ?_
    u_leave0 H.f_add (ro_rely hb3w) hF
    refine Goes.stop (fun _ r => ?_)
    replace hF := ro_rely hb3w hF r
    exact hA.off hF.1
end Go.Proofs.Ytaiinkeendejdaa
