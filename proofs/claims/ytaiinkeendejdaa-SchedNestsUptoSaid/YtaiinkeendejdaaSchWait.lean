/-
  SCHED: (*sync.WaitGroup).Wait by the holder of a band (printed by gen/schwg.py). No condition.
-/
import Derived.Test.YtaiinkeendejdaaSchAdd
namespace Go.Proofs.Ytaiinkeendejdaa
open Go.Conc Go.ConcN Go.RowKit Go.Conc.Lib Go.ConcR.Gen Go.ConcN.Gen
open Go.ConcR (KK wgBlock WgAt stA smA rd wr mk DC0)

variable {P : Program} {L : WgLink} {Post : Value → World → Prop} {b : Bd} {h : Nat}
theorem ro_off2 {ty : TypeId} {w₀ w w₁ : World} (o : Off b.shun w₀ w) (r : RO ty b w w₁) : Off b.shun w₀ w₁ := o.trans r.off
theorem evs_load {ty : TypeId} {Wg lo hi p : Nat} {w w₁ : World} {st sm : Int} (hwg : b.wg Wg = some (lo, hi, p)) (r : RO ty b w w₁) (hw : WgAt ty Wg w₁ st sm) : ∀ e ∈ #[rd (stA Wg)], EvO b w₁.heap.size e := fun e he => by
  simp only [List.mem_toArray, List.mem_singleton] at he
  subst he
  exact evO_atomic (r.ice Wg (r.live _ _ _ _ hwg).2) (Array.getElem?_eq_some_iff.1 hw).1
theorem ear_again (hear : b.ear = true) : ({ ({ b with ear := false } : Bd) with ear := true } : Bd) = b := by cases b; simp only at hear; subst hear; rfl
set_option maxRecDepth 100000 in
set_option maxHeartbeats 8000000 in
theorem waitRoundB (H : WgLib P L) {Wg lo hi : Nat} (hear : b.ear = true) (hwt : b.wait = none) (hwg : b.wg Wg = some (lo, hi, 0)) (hall : AllLeave b Wg lo hi) {b₀ : Frame} {a₀ : Act} {ops₀ : Array Oper} {i₀ : Nat} {rest₀ : List Nat} {k₀ : List Item} {cs : List Frame} {w₀ : World}
    (hA : At P L.tWg Post (b.joined Wg lo hi) h (G (b₀.at (a₀.put ((ops₀[i₀]?).bind (·.dst)) (.tuple #[])) (.inRegion ops₀ rest₀ :: k₀)) cs) w₀) (b1 : Bd) (hb1 : ({ b with ear := false } : Bd) = b1) (n : Nat) : ∀ (T : Array Value) (w : World), T.size = 84 → T[0]? = some (.pointer (some ⟨Wg, 0, none⟩)) → Off b1.shun w₀ w ∧ WgLive L.tWg Wg w →
    AtN P L.tWg Post lo hi n b1 h (G ((base L.wait).at ⟨T, []⟩ [.code (L7 L), .inLoop (L7 L), .inBlock 0]) (b₀.at a₀ (.inRegion ops₀ (i₀ :: rest₀) :: k₀) :: cs)) w := by
  lib_facts
  have hb1s : b1.shun = b.shun := by rw [← hb1]
  have hb1e : b1.ear = false := by rw [← hb1]
  have hb1t : b1.wait = none := by rw [← hb1]; exact hwt
  have hwg1 : b1.wg Wg = some (lo, hi, 0) := by rw [← hb1]; exact hwg
  have hall1 : AllLeave b1 Wg lo hi := by rw [← hb1]; exact hall
  have hback : ({ b1 with ear := true } : Bd) = b := by rw [← hb1]; exact ear_again hear
  have hwg2 : (b1.waits Wg).wg Wg = some (lo, hi, 0) := hwg1
  have hjs : (b.joined Wg lo hi).shun = b.shun := rfl
  generalize hbw : b1.waits Wg = bw at hwg2
  have hbws : bw.shun = b1.shun := by rw [← hbw]; rfl
  generalize hbj : b.joined Wg lo hi = bj at hA hjs
  induction n using Nat.strongRecOn with | _ n ih => ?_
  intro T w hT84 t0 hF
  obtain ⟨v0, v1, v2, v3, v4, v5, v6, v7, v8, v9, v10, v11, v12, v13, v14, v15, v16, v17, v18, v19, v20, v21, v22, v23, v24, v25, v26, v27, v28, v29, v30, v31, v32, v33, v34, v35, v36, v37, v38, v39, v40, v41, v42, v43, v44, v45, v46, v47, v48, v49, v50, v51, v52, v53, v54, v55, v56, v57, v58, v59, v60, v61, v62, v63, v64, v65, v66, v67, v68, v69, v70, v71, v72, v73, v74, v75, v76, v77, v78, v79, v80, v81, v82, v83, rfl⟩ := array84 T hT84
  simp only [List.getElem?_toArray, List.getElem?_cons_zero, Option.some.injEq] at t0
  subst t0
  simp only [L7, body_wait, waitFn, Option.getD_some]
  refine AtN.goes0 (k := 30) ?_
  u_c stepG_block (ro_rely hwg1) hF
  u_c stepG_seq (ro_rely hwg1) hF
  u_reg (ro_rely hwg1) hF
  u_op (ro_rely hwg1) hF
  u_op (ro_rely hwg1) hF
  u_op (ro_rely hwg1) hF
  u_call H.f_uLoad (nm_uLoad L) uLoadFn (ro_rely hwg1) hF
  u_c stepG_seq (ro_rely hwg1) hF
  u_reg (ro_rely hwg1) hF
  u_op (ro_rely hwg1) hF
  u_c stepG_region_end (ro_rely hwg1) hF
  u_c stepG_seq (ro_rely hwg1) hF
  u_reg (ro_rely hwg1) hF
  u_op (ro_rely hwg1) hF
  u_op (ro_rely hwg1) hF
  u_op (ro_rely hwg1) hF
  refine Goes.stop (fun _ r => ?_)
  replace hF := ro_rely hwg1 hF r
  clear r
  refine AtN.list rfl hb1t hwg1 (fun w₁ r V hV hV2 hw => ?_)
  have hes := evs_load hwg1 r hw
  replace hF := ro_rely hwg1 hF r
  clear r
  rcases Nat.eq_zero_or_pos V with rfl | hvp
  · replace hw : WgAt L.tWg Wg w₁ 0 0 := by simpa using hw
    refine ⟨_, _, stepG_load_atomic (v := 0) rfl rfl (by k_ne) rfl H.f_loadU64 (x_loadU64_n L) (x_loadU64_b L) (x_loadU64_x L) .u64 (x_loadU64_f L) rfl hw.cellSt, hes, ?_⟩
    clear hw hes
    walk_nrm
    refine AtN.goes0 (k := 50) ?_
    u_op (ro_rely hwg1) hF
    u_c stepG_region_end (ro_rely hwg1) hF
    u_c stepG_ret' (ro_rely hwg1) hF
    u_leave1 H.f_uLoad (ro_rely hwg1) hF
    u_op (ro_rely hwg1) hF
    u_c stepG_region_end (ro_rely hwg1) hF
    u_c stepG_seq (ro_rely hwg1) hF
    u_reg (ro_rely hwg1) hF
    u_op (ro_rely hwg1) hF
    u_op (ro_rely hwg1) hF
    u_op (ro_rely hwg1) hF
    u_op (ro_rely hwg1) hF
    u_c stepG_region_end (ro_rely hwg1) hF
    u_c stepG_seq (ro_rely hwg1) hF
    u_reg (ro_rely hwg1) hF
    u_op (ro_rely hwg1) hF
    u_op (ro_rely hwg1) hF
    u_op (ro_rely hwg1) hF
    u_op (ro_rely hwg1) hF
    u_c stepG_region_end (ro_rely hwg1) hF
    u_c stepG_seq (ro_rely hwg1) hF
    u_c stepG_seq (ro_rely hwg1) hF
    u_reg (ro_rely hwg1) hF
    u_op (ro_rely hwg1) hF
    u_op (ro_rely hwg1) hF
    u_c stepG_region_end (ro_rely hwg1) hF
    u_cond true (ro_rely hwg1) hF
    u_c stepG_seq (ro_rely hwg1) hF
    u_cond true (ro_rely hwg1) hF
    u_c stepG_seq (ro_rely hwg1) hF
    u_reg (ro_rely hwg1) hF
    refine Goes.stop (fun _ r => ?_)
    replace hF := ro_rely hwg1 hF r
    clear r
    refine AtN.en hb1e rfl (fun _ r => ⟨_, stepG_mark0 .enable (by simp) rfl rfl (by k_ne) rfl H.f_enable (x_enable_n L) (x_enable_b L) (x_enable_x L) (x_enable_f L), ?_⟩)
    replace hF := ro_rely hwg1 hF r
    clear r
    rw [hback]
    rw [hb1s] at hF
    walk_nrm
    refine AtN.goes0 (k := 12) ?_
    u_c stepG_region_end (ro_rely hwg) hF
    u_reg (ro_rely hwg) hF
    u_op (ro_rely hwg) hF
    u_conv H.underlying_tWgP H.room_tWg (WgLive.cell0 hF.2).choose_spec (ro_rely hwg) hF
    refine Goes.stop (fun _ r => ?_)
    replace hF := ro_rely hwg hF r
    clear r
    refine AtN.acquire rfl hwt hear hwg hall (fun _ r => ⟨_, stepG_markAt .acquire (by simp) rfl rfl (by k_ne) rfl H.f_acquire (x_acquire_n L) (x_acquire_b L) (x_acquire_x L) (x_acquire_f L) (by simp [Act.eval, stA]), ?_⟩)
    replace hF := ro_rely hwg hF r
    clear r
    rw [hbj]
    rw [← hjs] at hF
    replace hF := hF.1
    walk_nrm
    refine At.goes0 (n := 40) ?_
    u_c stepG_region_end ro_off2 hF
    u_c stepG_seq ro_off2 hF
    u_c stepG_seq ro_off2 hF
    u_reg ro_off2 hF
    u_op ro_off2 hF
    u_op ro_off2 hF
    u_op ro_off2 hF
    u_op ro_off2 hF
    u_op ro_off2 hF
    u_op ro_off2 hF
    u_op ro_off2 hF
    u_op ro_off2 hF
    u_skip ro_off2 hF
    u_skip ro_off2 hF
    u_op ro_off2 hF
    u_c stepG_region_end ro_off2 hF
    u_cond false ro_off2 hF
    u_c stepG_skip ro_off2 hF
    u_c stepG_ret' ro_off2 hF
    u_leave0 H.f_wait ro_off2 hF
    refine Goes.stop (fun _ r => ?_)
    replace hF := ro_off2 hF r
    exact hA.off hF
  · obtain ⟨S, hS⟩ : ∃ S : Int, (V : Int) * KK = S := ⟨_, rfl⟩
    have a1 : S / 4294967296 = (V : Int) := by rw [← hS]; simp only [KK]; omega
    have bb1 : bits .and .u64 S 2147483648 = 0 := by rw [← hS]; have := st_flag V 0 (by omega) (by omega); simpa [KK] using this
    have bb2 : bits .and .u64 S 2147483647 = 0 := by rw [← hS]; have := st_waiters V 0 (by omega) (by omega); simpa [KK] using this
    have c1 : IntKind.i32.wrap (V : Int) = (V : Int) := by rw [IntKind.wrap_i32]; omega
    have w1 : IntKind.u64.wrap (S + 1) = S + 1 := by rw [IntKind.wrap_u64, ← hS]; simp only [KK]; omega
    have q3 : decide ((V : Int) < 0) = false := decide_eq_false (by omega)
    have q4 : decide (0 < (V : Int)) = true := decide_eq_true (by omega)
    have q5 : ((V : Int) == 0) = false := by simp; omega
    have q6 : decide ((V : Int) = 0) = false := decide_eq_false (by omega)
    rw [hS] at hw
    refine ⟨_, _, stepG_load_atomic (v := S) rfl rfl (by k_ne) rfl H.f_loadU64 (x_loadU64_n L) (x_loadU64_b L) (x_loadU64_x L) .u64 (x_loadU64_f L) rfl hw.cellSt, hes, ?_⟩
    clear hw hes
    walk_nrm
    refine AtN.goes0 (k := 60) ?_
    u_op (ro_rely hwg1) hF
    u_c stepG_region_end (ro_rely hwg1) hF
    u_c stepG_ret' (ro_rely hwg1) hF
    u_leave1 H.f_uLoad (ro_rely hwg1) hF
    u_op (ro_rely hwg1) hF
    u_c stepG_region_end (ro_rely hwg1) hF
    u_c stepG_seq (ro_rely hwg1) hF
    u_reg (ro_rely hwg1) hF
    u_op (ro_rely hwg1) hF
    u_op (ro_rely hwg1) hF
    u_op (ro_rely hwg1) hF
    u_op (ro_rely hwg1) hF
    u_c stepG_region_end (ro_rely hwg1) hF
    u_c stepG_seq (ro_rely hwg1) hF
    u_reg (ro_rely hwg1) hF
    u_op (ro_rely hwg1) hF
    u_op (ro_rely hwg1) hF
    u_op (ro_rely hwg1) hF
    u_op (ro_rely hwg1) hF
    u_c stepG_region_end (ro_rely hwg1) hF
    u_c stepG_seq (ro_rely hwg1) hF
    u_c stepG_seq (ro_rely hwg1) hF
    u_reg (ro_rely hwg1) hF
    u_op (ro_rely hwg1) hF
    u_op (ro_rely hwg1) hF
    u_c stepG_region_end (ro_rely hwg1) hF
    u_cnd false (ro_rely hwg1) hF
    u_c stepG_skip (ro_rely hwg1) hF
    u_c stepG_seq (ro_rely hwg1) hF
    u_reg (ro_rely hwg1) hF
    u_op (ro_rely hwg1) hF
    u_op (ro_rely hwg1) hF
    u_op (ro_rely hwg1) hF
    u_op (ro_rely hwg1) hF
    u_op (ro_rely hwg1) hF
    u_op (ro_rely hwg1) hF
    u_call H.f_uCas (nm_uCas L) uCasFn (ro_rely hwg1) hF
    u_c stepG_seq (ro_rely hwg1) hF
    u_reg (ro_rely hwg1) hF
    u_op (ro_rely hwg1) hF
    u_c stepG_region_end (ro_rely hwg1) hF
    u_c stepG_seq (ro_rely hwg1) hF
    u_reg (ro_rely hwg1) hF
    u_op (ro_rely hwg1) hF
    u_op (ro_rely hwg1) hF
    u_op (ro_rely hwg1) hF
    u_op (ro_rely hwg1) hF
    u_op (ro_rely hwg1) hF
    refine Goes.stop (fun _ r => ?_)
    replace hF := ro_rely hwg1 hF r
    clear r
    refine AtN.cas (vs := V) rfl hb1t hb1e hwg1 (fun w₂ r V' hV' hV2' hw => ⟨fun e => ?_, fun e => ?_⟩)
    · subst e
      replace hF := ro_rely hwg1 hF r
      clear r
      rw [hS] at hw ⊢
      refine ⟨hvp, _, (stepG_cas_hit (v := S) (n := S + 1) rfl rfl (by k_ne) rfl H.f_casU64 (x_casU64_n L) (x_casU64_b L) (x_casU64_x L) .u64 (x_casU64_f L) rfl rfl rfl hw.cellSt (hw.thaw 0)).trans (by rfl), ?_⟩
      clear hw
      rw [hbw]
      rw [← hbws] at hF
      walk_nrm
      refine At.goes0 (n := 70) ?_
      u_op (ro_rely hwg2) hF
      u_c stepG_region_end (ro_rely hwg2) hF
      u_c stepG_ret' (ro_rely hwg2) hF
      u_leave1 H.f_uCas (ro_rely hwg2) hF
      u_c stepG_region_end (ro_rely hwg2) hF
      u_cond true (ro_rely hwg2) hF
      u_c stepG_seq (ro_rely hwg2) hF
      u_c stepG_seq (ro_rely hwg2) hF
      u_reg (ro_rely hwg2) hF
      u_op (ro_rely hwg2) hF
      u_op (ro_rely hwg2) hF
      u_op (ro_rely hwg2) hF
      u_op (ro_rely hwg2) hF
      u_c stepG_region_end (ro_rely hwg2) hF
      u_cond true (ro_rely hwg2) hF
      u_reg (ro_rely hwg2) hF
      u_op (ro_rely hwg2) hF
      u_op (ro_rely hwg2) hF
      u_op (ro_rely hwg2) hF
      u_conv H.underlying_tPU32 H.room_tU32 (WgLive.cell1 hF.2).choose_spec (ro_rely hwg2) hF
      refine Goes.stop (fun _ r => ?_)
      replace hF := ro_rely hwg2 hF r
      clear r
      refine At.list rfl (fun w₃ r => ⟨_, _, stepG_markAt .write (by simp) rfl rfl (by k_ne) rfl H.f_raceWrite (x_raceWrite_n L) (x_raceWrite_b L) (x_raceWrite_x L) (x_raceWrite_f L) (ad := ⟨Wg, 1, none⟩) (by simp [Act.eval]), fun e he => ?_, ?_⟩)
      · rw [Array.mem_singleton] at he
        subst he
        obtain ⟨_, _, hx⟩ := (r.live _ _ _ _ hwg2).1
        exact evO_said (wr := true) (r.ice Wg (r.live _ _ _ _ hwg2).2) (Array.getElem?_eq_some_iff.1 hx).1
      replace hF := ro_rely hwg2 hF r
      clear r
      walk_nrm
      refine At.goes0 (n := 60) ?_
      u_c stepG_region_end (ro_rely hwg2) hF
      u_c stepG_seq (ro_rely hwg2) hF
      u_reg (ro_rely hwg2) hF
      u_op (ro_rely hwg2) hF
      u_c stepG_region_end (ro_rely hwg2) hF
      u_c stepG_seq (ro_rely hwg2) hF
      u_c stepG_seq (ro_rely hwg2) hF
      u_reg (ro_rely hwg2) hF
      u_op (ro_rely hwg2) hF
      u_op (ro_rely hwg2) hF
      u_op (ro_rely hwg2) hF
      u_op (ro_rely hwg2) hF
      u_skip (ro_rely hwg2) hF
      u_op (ro_rely hwg2) hF
      u_c stepG_region_end (ro_rely hwg2) hF
      u_cond false (ro_rely hwg2) hF
      u_c stepG_skip (ro_rely hwg2) hF
      u_c stepG_seq (ro_rely hwg2) hF
      u_reg (ro_rely hwg2) hF
      u_op (ro_rely hwg2) hF
      u_op (ro_rely hwg2) hF
      u_op (ro_rely hwg2) hF
      u_op (ro_rely hwg2) hF
      refine Goes.stop (fun _ r => ?_)
      replace hF := ro_rely hwg2 hF r
      clear r
      rw [hbws] at hF
      rw [← hbw]
      refine At.waits hb1t hb1e hwg1 hall1 ⟨rfl, rfl, fun w₄ st o hw => stepG_semacquire_wait rfl rfl rfl H.f_semacquire (x_semacquire_n L) (x_semacquire_b L) (x_semacquire_x L) (x_semacquire_f L) (by simp [Act.eval, smA]) hw.cellSm, fun w₄ o hw => ?_⟩
      refine ⟨_, (stepG_semacquire (n := 1) rfl rfl (by k_ne) rfl H.f_semacquire (x_semacquire_n L) (x_semacquire_b L) (x_semacquire_x L) (x_semacquire_f L) (by simp [Act.eval, smA]) hw.cellSm (by k_ne) (hw.thaw 1)).trans (by rfl), ?_⟩
      replace hF : Off b1.shun w₀ w₄ ∧ WgLive L.tWg Wg w₄ := ⟨hF.1.trans o, ⟨_, _, hw⟩⟩
      clear hw o
      walk_nrm
      refine AtN.goes0 (k := 30) ?_
      u_c stepG_region_end (ro_rely hwg1) hF
      u_c stepG_seq (ro_rely hwg1) hF
      u_reg (ro_rely hwg1) hF
      u_op (ro_rely hwg1) hF
      u_op (ro_rely hwg1) hF
      u_op (ro_rely hwg1) hF
      u_call H.f_uLoad (nm_uLoad L) uLoadFn (ro_rely hwg1) hF
      u_c stepG_seq (ro_rely hwg1) hF
      u_reg (ro_rely hwg1) hF
      u_op (ro_rely hwg1) hF
      u_c stepG_region_end (ro_rely hwg1) hF
      u_c stepG_seq (ro_rely hwg1) hF
      u_reg (ro_rely hwg1) hF
      u_op (ro_rely hwg1) hF
      u_op (ro_rely hwg1) hF
      u_op (ro_rely hwg1) hF
      refine Goes.stop (fun _ r => ?_)
      replace hF := ro_rely hwg1 hF r
      clear r
      refine AtN.list rfl hb1t hwg1 (fun w₅ r V0 hV0 _ hw => ?_)
      have hes := evs_load hwg1 r hw
      replace hF := ro_rely hwg1 hF r
      clear r
      obtain rfl : V0 = 0 := by omega
      replace hw : WgAt L.tWg Wg w₅ 0 0 := by simpa using hw
      refine ⟨_, _, stepG_load_atomic (v := 0) rfl rfl (by k_ne) rfl H.f_loadU64 (x_loadU64_n L) (x_loadU64_b L) (x_loadU64_x L) .u64 (x_loadU64_f L) rfl hw.cellSt, hes, ?_⟩
      clear hw hes
      walk_nrm
      refine AtN.goes0 (k := 30) ?_
      u_op (ro_rely hwg1) hF
      u_c stepG_region_end (ro_rely hwg1) hF
      u_c stepG_ret' (ro_rely hwg1) hF
      u_leave1 H.f_uLoad (ro_rely hwg1) hF
      u_op (ro_rely hwg1) hF
      u_op (ro_rely hwg1) hF
      u_c stepG_region_end (ro_rely hwg1) hF
      u_c stepG_seq (ro_rely hwg1) hF
      u_cond true (ro_rely hwg1) hF
      u_c stepG_seq (ro_rely hwg1) hF
      u_reg (ro_rely hwg1) hF
      refine Goes.stop (fun _ r => ?_)
      replace hF := ro_rely hwg1 hF r
      clear r
      refine AtN.en hb1e rfl (fun _ r => ⟨_, stepG_mark0 .enable (by simp) rfl rfl (by k_ne) rfl H.f_enable (x_enable_n L) (x_enable_b L) (x_enable_x L) (x_enable_f L), ?_⟩)
      replace hF := ro_rely hwg1 hF r
      clear r
      rw [hback]
      rw [hb1s] at hF
      walk_nrm
      refine AtN.goes0 (k := 12) ?_
      u_c stepG_region_end (ro_rely hwg) hF
      u_reg (ro_rely hwg) hF
      u_op (ro_rely hwg) hF
      u_conv H.underlying_tWgP H.room_tWg (WgLive.cell0 hF.2).choose_spec (ro_rely hwg) hF
      refine Goes.stop (fun _ r => ?_)
      replace hF := ro_rely hwg hF r
      clear r
      refine AtN.acquire rfl hwt hear hwg hall (fun _ r => ⟨_, stepG_markAt .acquire (by simp) rfl rfl (by k_ne) rfl H.f_acquire (x_acquire_n L) (x_acquire_b L) (x_acquire_x L) (x_acquire_f L) (by simp [Act.eval, stA]), ?_⟩)
      replace hF := ro_rely hwg hF r
      clear r
      rw [hbj]
      rw [← hjs] at hF
      replace hF := hF.1
      walk_nrm
      refine At.goes0 (n := 40) ?_
      u_c stepG_region_end ro_off2 hF
      u_c stepG_seq ro_off2 hF
      u_c stepG_seq ro_off2 hF
      u_reg ro_off2 hF
      u_op ro_off2 hF
      u_c stepG_region_end ro_off2 hF
      u_cond false ro_off2 hF
      u_c stepG_skip ro_off2 hF
      u_c stepG_ret' ro_off2 hF
      u_leave0 H.f_wait ro_off2 hF
      refine Goes.stop (fun _ r => ?_)
      replace hF := ro_off2 hF r
      exact hA.off hF
    · have hes := evs_load hwg1 r hw
      replace hF := ro_rely hwg1 hF r
      clear r
      refine ⟨_, stepG_cas_miss (v := (V' : Int) * KK) (old := S) (n := S + 1) rfl rfl (by k_ne) rfl H.f_casU64 (x_casU64_n L) (x_casU64_b L) (x_casU64_x L) .u64 (x_casU64_f L) rfl rfl rfl hw.cellSt (hw.thaw 0) (by rw [← hS]; simp only [KK]; omega), ?_⟩
      clear hw hes
      walk_nrm
      refine AtN.goes0 (k := 30) ?_
      u_op (ro_rely hwg1) hF
      u_c stepG_region_end (ro_rely hwg1) hF
      u_c stepG_ret' (ro_rely hwg1) hF
      u_leave1 H.f_uCas (ro_rely hwg1) hF
      u_c stepG_region_end (ro_rely hwg1) hF
      u_cond false (ro_rely hwg1) hF
      u_c stepG_skip (ro_rely hwg1) hF
      u_c stepG_inBlock (ro_rely hwg1) hF
      u_c stepG_inLoop (ro_rely hwg1) hF
      refine Goes.stop (fun _ r => ?_)
      replace hF := ro_rely hwg1 hF r
      exact ih V' (by omega) _ _ (by simp) (by simp) hF
set_option maxRecDepth 100000 in
set_option maxHeartbeats 8000000 in
theorem waitB (H : WgLib P L) {Wg lo hi : Nat} (hear : b.ear = true) (hwt : b.wait = none) (hwg : b.wg Wg = some (lo, hi, 0)) (hall : AllLeave b Wg lo hi) {b₀ : Frame} {a₀ : Act} {ops₀ : Array Oper} {i₀ : Nat} {rest₀ : List Nat} {k₀ : List Item} {cs : List Frame} {w₀ : World}
    (hA : At P L.tWg Post (b.joined Wg lo hi) h (G (b₀.at (a₀.put ((ops₀[i₀]?).bind (·.dst)) (.tuple #[])) (.inRegion ops₀ rest₀ :: k₀)) cs) w₀) :
    At P L.tWg Post b h (G ((base L.wait).at ⟨#[.pointer (some ⟨Wg, 0, none⟩), undef, undef, undef, undef, undef, undef, undef, undef, undef, undef, undef, undef, undef, undef, undef, undef, undef, undef, undef, undef, undef, undef, undef, undef, undef, undef, undef, undef, undef, undef, undef, undef, undef, undef, undef, undef, undef, undef, undef, undef, undef, undef, undef, undef, undef, undef, undef, undef, undef, undef, undef, undef, undef, undef, undef, undef, undef, undef, undef, undef, undef, undef, undef, undef, undef, undef, undef, undef, undef, undef, undef, undef, undef, undef, undef, undef, undef, undef, undef, undef, undef, undef, undef], []⟩ [.code (body_wait L)]) (b₀.at a₀ (.inRegion ops₀ (i₀ :: rest₀) :: k₀) :: cs)) w₀ := by
  have hR := fun T w => waitRoundB H hear hwt hwg hall hA _ rfl hi T w
  have hF : Off b.shun w₀ w₀ := Off.refl _ _
  lib_facts
  simp only [L7, body_wait, waitFn, Option.getD_some] at hR ⊢
  refine At.goes0 (n := 20) ?_
  u_c stepG_seq (ro_off hwg) hF
  u_cond true (ro_rely hwg) hF
  u_reg (ro_rely hwg) hF
  refine Goes.stop (fun _ r => ?_)
  replace hF := ro_rely hwg hF r
  clear r
  refine At.dis hear rfl (fun _ r => ⟨_, stepG_mark0 .disable (by simp) rfl rfl (by k_ne) rfl H.f_disable (x_disable_n L) (x_disable_b L) (x_disable_x L) (x_disable_f L), ?_⟩)
  replace hF := ro_rely hwg hF r
  clear r
  walk_nrm
  refine At.goes0 (n := 10) ?_
  u_c stepG_region_end (ro_rely (b := { b with ear := false }) hwg) hF
  u_c stepG_block (ro_rely (b := { b with ear := false }) hwg) hF
  u_c stepG_loop (ro_rely (b := { b with ear := false }) hwg) hF
  refine Goes.stop (fun _ r => ?_)
  replace hF := ro_rely (b := { b with ear := false }) hwg hF r
  exact AtN.at (hR _ _ (by simp) (by simp) hF)
end Go.Proofs.Ytaiinkeendejdaa
