/-
  SCHED: (*sync.WaitGroup).Done in company (printed by gen/schwg.py). No condition.
-/
import Derived.Test.YtaiinkeendejdaaSchLib
namespace Go.Proofs.Ytaiinkeendejdaa
open Go.Conc Go.ConcN Go.RowKit Go.Conc.Lib Go.ConcR.Gen Go.ConcN.Gen
open Go.ConcR (KK wgBlock WgAt stA smA rd wr mk DC0)
variable {P : Program} {L : WgLink}
set_option maxRecDepth 100000 in
set_option maxHeartbeats 8000000 in
theorem addNegB (H : WgLib P L) {Wg : Nat} {b₀ : Frame} {a₀ : Act} {ops₀ : Array Oper} {i₀ : Nat} {rest₀ : List Nat} {k₀ : List Item} {cs : List Frame} {qt : Nat}
    (hT : QuitsD P qt 0 (G (b₀.at (a₀.put ((ops₀[i₀]?).bind (·.dst)) (.tuple #[])) (.inRegion ops₀ rest₀ :: k₀)) cs)) :
    GL P L.tWg Wg (LR0 P L.tWg Wg) 40 (G ((base L.add).at ⟨#[.pointer (some ⟨Wg, 0, none⟩), .int .i64 (-1), undef, undef, undef, undef, undef, undef, undef, undef, undef, undef, undef, undef, undef, undef, undef, undef, undef, undef, undef, undef, undef, undef, undef, undef, undef, undef, undef, undef, undef, undef, undef, undef, undef, undef, undef, undef, undef, undef, undef, undef, undef, undef, undef, undef, undef, undef, undef, undef, undef, undef, undef, undef, undef, undef, undef, undef, undef, undef, undef, undef, undef, undef, undef, undef, undef, undef, undef, undef, undef, undef, undef, undef, undef, undef, undef, undef, undef, undef, undef, undef, undef, undef, undef, undef, undef, undef, undef, undef, undef, undef, undef, undef, undef, undef, undef, undef, undef, undef, undef, undef, undef, undef, undef, undef, undef, undef, undef, undef, undef, undef, undef, undef, undef, undef, undef], []⟩ [.code (body_add L)]) (b₀.at a₀ (.inRegion ops₀ (i₀ :: rest₀) :: k₀) :: cs)) := by
  intro w
  lib_facts
  have hF : True := trivial
  simp only [body_add, addFn, Option.getD_some]
  u_c stepG_seq (fun _ r => r) hF
  u_cond true (fun _ r => r) hF
  u_c stepG_seq (fun _ r => r) hF
  u_c stepG_seq (fun _ r => r) hF
  u_reg (fun _ r => r) hF
  u_op (fun _ r => r) hF
  u_op (fun _ r => r) hF
  u_c stepG_region_end (fun _ r => r) hF
  u_cond true (fun _ r => r) hF
  u_reg (fun _ r => r) hF
  u_op (fun _ r => r) hF
  u_conv H.underlying_tWgP H.room_tWg (WgLive.cell0 hF).choose_spec (fun _ r => r) hF
  refine Goes.stop (fun _ _ => ?_)
  clear hF w
  refine ⟨rfl, _, 60, fun _ _ => stepG_markAt .releaseMerge (by simp) rfl rfl (by k_ne) rfl H.f_relMerge (x_relMerge_n L) (x_relMerge_b L) (x_relMerge_x L) (x_relMerge_f L) (by simp [Act.eval, stA]), ?_⟩
  intro w
  have hF : True := trivial
  walk_nrm
  u_c stepG_region_end (fun _ r => r) hF
  u_c stepG_seq (fun _ r => r) hF
  u_reg (fun _ r => r) hF
  refine Goes.stop (fun _ _ => ?_)
  clear hF w
  refine ⟨rfl, _, 60, fun _ _ => stepG_mark0 .disable (by simp) rfl rfl (by k_ne) rfl H.f_disable (x_disable_n L) (x_disable_b L) (x_disable_x L) (x_disable_f L), ?_⟩
  intro w
  have hF : True := trivial
  walk_nrm
  u_c stepG_region_end (fun _ r => r) hF
  u_reg (fun _ r => r) hF
  u_defer (fun _ r => r) hF
  u_c stepG_region_end (fun _ r => r) hF
  u_c stepG_seq (fun _ r => r) hF
  u_reg (fun _ r => r) hF
  u_op (fun _ r => r) hF
  u_c stepG_region_end (fun _ r => r) hF
  u_c stepG_seq (fun _ r => r) hF
  u_c stepG_seq (fun _ r => r) hF
  u_reg (fun _ r => r) hF
  u_bub (fun _ r => r) hF
  u_c stepG_region_end (fun _ r => r) hF
  u_cond false (fun _ r => r) hF
  u_c stepG_skip (fun _ r => r) hF
  u_c stepG_seq (fun _ r => r) hF
  u_reg (fun _ r => r) hF
  u_op (fun _ r => r) hF
  u_op (fun _ r => r) hF
  u_op (fun _ r => r) hF
  u_op (fun _ r => r) hF
  u_op (fun _ r => r) hF
  u_op (fun _ r => r) hF
  u_call H.f_uAdd (nm_uAdd L) uAddFn (fun _ r => r) hF
  u_c stepG_seq (fun _ r => r) hF
  u_reg (fun _ r => r) hF
  u_op (fun _ r => r) hF
  u_c stepG_region_end (fun _ r => r) hF
  u_c stepG_seq (fun _ r => r) hF
  u_reg (fun _ r => r) hF
  u_op (fun _ r => r) hF
  u_op (fun _ r => r) hF
  u_op (fun _ r => r) hF
  u_op (fun _ r => r) hF
  refine Goes.stop (fun _ _ => ?_)
  clear hF w
  refine ⟨rfl, fun w₁ v wt hwt hv hw => ?_⟩
  have e0 : IntKind.u64.wrap (KK + 18446744069414584320) = 0 := by decide
  have e1 : IntKind.u64.wrap (KK + 1 + 18446744069414584320) = 1 := by decide
  rcases Nat.eq_zero_or_pos v with rfl | hvp <;> (obtain rfl | rfl : wt = 0 ∨ wt = 1 := by omega)
  · replace hw : WgAt L.tWg Wg w₁ KK 0 := by simpa using hw
    have z : ((0 : Nat) : Int) * KK + ((0 : Nat) : Int) = 0 := by simp
    rw [z]
    refine ⟨_, (stepG_add_atomic rfl rfl (by k_ne) rfl H.f_addU64 (x_addU64_n L) (x_addU64_b L) (x_addU64_x L) .u64 (x_addU64_f L) rfl rfl hw.cellSt (hw.thaw 0)).trans (by rw [e0]; rfl), fun hl => absurd hl.2 (by decide), fun _ => ⟨qt + 89, ?_⟩⟩
    clear hw
    walk_nrm
    q_vn (.int .u64 0)
    q_c stepG_region_end
    q_c stepG_ret'
    q_leave1 H.f_uAdd
    q_vn (.int .u64 0)
    q_c stepG_region_end
    q_c stepG_seq
    q_c stepG_seq
    q_reg
    q_vn (.int .u64 0)
    q_vn (.int .u64 0)
    q_vn (.bool false)
    q_vn (.bool false)
    q_skip
    q_skip
    q_vn (.bool false)
    q_c stepG_region_end
    q_cond false
    q_c stepG_skip
    q_c stepG_seq
    q_reg
    q_vn (.int .u64 0)
    q_vn (.int .u64 0)
    q_vn (.int .i32 0)
    q_vn (.int .i32 0)
    q_c stepG_region_end
    q_c stepG_seq
    q_reg
    q_vn (.int .u64 0)
    q_vn (.int .u64 0)
    q_vn (.int .u32 0)
    q_vn (.int .u32 0)
    q_c stepG_region_end
    q_c stepG_seq
    q_c stepG_seq
    q_reg
    q_vn (.bool true)
    q_vn (.int .i64 (-1))
    q_vn (.bool false)
    q_vn (.bool false)
    q_vn (.bool false)
    q_skip
    q_skip
    q_skip
    q_skip
    q_vn (.bool false)
    q_c stepG_region_end
    q_cond false
    q_c stepG_skip
    q_c stepG_seq
    q_c stepG_seq
    q_reg
    q_vn (.int .i32 0)
    q_vn (.bool false)
    q_c stepG_region_end
    q_cond false
    q_c stepG_skip
    q_c stepG_seq
    q_c stepG_seq
    q_reg
    q_vn (.int .u32 0)
    q_vn (.bool false)
    q_vn (.bool false)
    q_skip
    q_skip
    q_vn (.bool false)
    q_vn (.bool false)
    q_skip
    q_skip
    q_skip
    q_skip
    q_vn (.bool false)
    q_c stepG_region_end
    q_cond false
    q_c stepG_skip
    q_c stepG_seq
    q_c stepG_seq
    q_reg
    q_vn (.int .i32 0)
    q_vn (.bool false)
    q_vn (.bool false)
    q_vn (.int .u32 0)
    q_vn (.bool true)
    q_vn (.bool true)
    q_c stepG_region_end
    q_cond true
    q_c stepG_ret'
    q_enable
    q_leave0 H.f_add
    exact hT
  · replace hw : WgAt L.tWg Wg w₁ (KK + 1) 0 := by simpa using hw
    have z : ((0 : Nat) : Int) * KK + ((1 : Nat) : Int) = 1 := by simp
    rw [z]
    refine ⟨_, (stepG_add_atomic rfl rfl (by k_ne) rfl H.f_addU64 (x_addU64_n L) (x_addU64_b L) (x_addU64_x L) .u64 (x_addU64_f L) rfl rfl hw.cellSt (hw.thaw 0)).trans (by rw [e1]; rfl), fun _ => ⟨160, ?_⟩, fun hl => absurd ⟨rfl, rfl⟩ hl⟩
    clear hw
    intro w
    have hF : True := trivial
    walk_nrm
    u_op (fun _ r => r) hF
    u_c stepG_region_end (fun _ r => r) hF
    u_c stepG_ret' (fun _ r => r) hF
    u_leave1 H.f_uAdd (fun _ r => r) hF
    u_op (fun _ r => r) hF
    u_c stepG_region_end (fun _ r => r) hF
    u_c stepG_seq (fun _ r => r) hF
    u_c stepG_seq (fun _ r => r) hF
    u_reg (fun _ r => r) hF
    u_op (fun _ r => r) hF
    u_op (fun _ r => r) hF
    u_op (fun _ r => r) hF
    u_op (fun _ r => r) hF
    u_skip (fun _ r => r) hF
    u_skip (fun _ r => r) hF
    u_op (fun _ r => r) hF
    u_c stepG_region_end (fun _ r => r) hF
    u_cond false (fun _ r => r) hF
    u_c stepG_skip (fun _ r => r) hF
    u_c stepG_seq (fun _ r => r) hF
    u_reg (fun _ r => r) hF
    u_op (fun _ r => r) hF
    u_op (fun _ r => r) hF
    u_op (fun _ r => r) hF
    u_op (fun _ r => r) hF
    u_c stepG_region_end (fun _ r => r) hF
    u_c stepG_seq (fun _ r => r) hF
    u_reg (fun _ r => r) hF
    u_op (fun _ r => r) hF
    u_op (fun _ r => r) hF
    u_op (fun _ r => r) hF
    u_op (fun _ r => r) hF
    u_c stepG_region_end (fun _ r => r) hF
    u_c stepG_seq (fun _ r => r) hF
    u_c stepG_seq (fun _ r => r) hF
    u_reg (fun _ r => r) hF
    u_op (fun _ r => r) hF
    u_op (fun _ r => r) hF
    u_op (fun _ r => r) hF
    u_op (fun _ r => r) hF
    u_op (fun _ r => r) hF
    u_skip (fun _ r => r) hF
    u_skip (fun _ r => r) hF
    u_skip (fun _ r => r) hF
    u_skip (fun _ r => r) hF
    u_op (fun _ r => r) hF
    u_c stepG_region_end (fun _ r => r) hF
    u_cond false (fun _ r => r) hF
    u_c stepG_skip (fun _ r => r) hF
    u_c stepG_seq (fun _ r => r) hF
    u_c stepG_seq (fun _ r => r) hF
    u_reg (fun _ r => r) hF
    u_op (fun _ r => r) hF
    u_op (fun _ r => r) hF
    u_c stepG_region_end (fun _ r => r) hF
    u_cond false (fun _ r => r) hF
    u_c stepG_skip (fun _ r => r) hF
    u_c stepG_seq (fun _ r => r) hF
    u_c stepG_seq (fun _ r => r) hF
    u_reg (fun _ r => r) hF
    u_op (fun _ r => r) hF
    u_op (fun _ r => r) hF
    u_op (fun _ r => r) hF
    u_op (fun _ r => r) hF
    u_op (fun _ r => r) hF
    u_op (fun _ r => r) hF
    u_op (fun _ r => r) hF
    u_skip (fun _ r => r) hF
    u_skip (fun _ r => r) hF
    u_skip (fun _ r => r) hF
    u_skip (fun _ r => r) hF
    u_op (fun _ r => r) hF
    u_c stepG_region_end (fun _ r => r) hF
    u_cond false (fun _ r => r) hF
    u_c stepG_skip (fun _ r => r) hF
    u_c stepG_seq (fun _ r => r) hF
    u_c stepG_seq (fun _ r => r) hF
    u_reg (fun _ r => r) hF
    u_op (fun _ r => r) hF
    u_op (fun _ r => r) hF
    u_op (fun _ r => r) hF
    u_op (fun _ r => r) hF
    u_op (fun _ r => r) hF
    u_op (fun _ r => r) hF
    u_c stepG_region_end (fun _ r => r) hF
    u_cond false (fun _ r => r) hF
    u_c stepG_skip (fun _ r => r) hF
    u_c stepG_seq (fun _ r => r) hF
    u_c stepG_seq (fun _ r => r) hF
    u_reg (fun _ r => r) hF
    u_op (fun _ r => r) hF
    u_op (fun _ r => r) hF
    u_op (fun _ r => r) hF
    u_call H.f_uLoad (nm_uLoad L) uLoadFn (fun _ r => r) hF
    u_c stepG_seq (fun _ r => r) hF
    u_reg (fun _ r => r) hF
    u_op (fun _ r => r) hF
    u_c stepG_region_end (fun _ r => r) hF
    u_c stepG_seq (fun _ r => r) hF
    u_reg (fun _ r => r) hF
    u_op (fun _ r => r) hF
    u_op (fun _ r => r) hF
    u_op (fun _ r => r) hF
    refine Goes.stop (fun _ _ => ?_)
    clear hF w
    refine ⟨rfl, fun w₂ hw => ⟨_, 60, stepG_load_atomic rfl rfl (by k_ne) rfl H.f_loadU64 (x_loadU64_n L) (x_loadU64_b L) (x_loadU64_x L) .u64 (x_loadU64_f L) rfl hw.cellSt, ?_⟩⟩
    clear hw
    intro w
    have hF : True := trivial
    walk_nrm
    u_op (fun _ r => r) hF
    u_c stepG_region_end (fun _ r => r) hF
    u_c stepG_ret' (fun _ r => r) hF
    u_leave1 H.f_uLoad (fun _ r => r) hF
    u_op (fun _ r => r) hF
    u_op (fun _ r => r) hF
    u_c stepG_region_end (fun _ r => r) hF
    u_cond false (fun _ r => r) hF
    u_c stepG_skip (fun _ r => r) hF
    u_c stepG_seq (fun _ r => r) hF
    u_reg (fun _ r => r) hF
    u_op (fun _ r => r) hF
    u_op (fun _ r => r) hF
    u_op (fun _ r => r) hF
    u_call H.f_uStore (nm_uStore L) uStoreFn (fun _ r => r) hF
    u_reg (fun _ r => r) hF
    u_op (fun _ r => r) hF
    u_op (fun _ r => r) hF
    u_op (fun _ r => r) hF
    u_op (fun _ r => r) hF
    refine Goes.stop (fun _ _ => ?_)
    clear hF w
    refine ⟨rfl, fun w₃ hw => ⟨_, 60, stepG_store_atomic rfl rfl (by k_ne) rfl H.f_storeU64 (x_storeU64_n L) (x_storeU64_b L) (x_storeU64_x L) (x_storeU64_f L) rfl rfl hw.cellSt (hw.thaw 0), ?_⟩⟩
    clear hw
    intro w
    have hF : True := trivial
    walk_nrm
    u_c stepG_region_end (fun _ r => r) hF
    u_c stepG_end (fun _ r => r) hF
    u_leave0 H.f_uStore (fun _ r => r) hF
    u_c stepG_region_end (fun _ r => r) hF
    u_c stepG_seq (fun _ r => r) hF
    u_c stepG_seq (fun _ r => r) hF
    u_reg (fun _ r => r) hF
    u_op (fun _ r => r) hF
    u_c stepG_region_end (fun _ r => r) hF
    u_cond false (fun _ r => r) hF
    u_c stepG_skip (fun _ r => r) hF
    u_c stepG_block (fun _ r => r) hF
    u_c stepG_loop (fun _ r => r) hF
    u_c stepG_seq (fun _ r => r) hF
    u_c stepG_seq (fun _ r => r) hF
    u_reg (fun _ r => r) hF
    u_op (fun _ r => r) hF
    u_op (fun _ r => r) hF
    u_c stepG_region_end (fun _ r => r) hF
    u_cond true (fun _ r => r) hF
    u_c stepG_skip (fun _ r => r) hF
    u_c stepG_seq (fun _ r => r) hF
    u_c stepG_block (fun _ r => r) hF
    u_reg (fun _ r => r) hF
    u_op (fun _ r => r) hF
    u_op (fun _ r => r) hF
    u_op (fun _ r => r) hF
    refine Goes.stop (fun _ _ => ?_)
    clear hF w
    refine ⟨rfl, mayWake_entry rfl rfl H.f_semrelease (x_semrelease_b L), fun w₄ hw => ⟨_, qt + 19, (stepG_semrelease rfl rfl (by k_ne) rfl H.f_semrelease (x_semrelease_n L) (x_semrelease_b L) (x_semrelease_x L) (x_semrelease_f L) (by simp [Act.eval, smA]) hw.cellSm (hw.thaw 1)).trans (by rfl), ?_⟩⟩
    clear hw
    walk_nrm
    q_c stepG_region_end
    q_c stepG_inBlock
    q_reg
    q_val (.int .u32 1)
    q_val (.int .u32 0)
    q_val (.int .u32 0)
    q_c stepG_region_end
    q_c stepG_inLoop
    q_c stepG_seq
    q_c stepG_seq
    q_reg
    q_val (.int .u32 0)
    q_val (.bool false)
    q_c stepG_region_end
    q_cond false
    q_exit
    q_c stepG_end
    q_enable
    q_leave0 H.f_add
    exact hT
  · replace hw : WgAt L.tWg Wg w₁ (((v : Nat) + 1) * KK + 0) 0 := by simpa using hw
    have z : ((v : Nat) : Int) * KK + ((0 : Nat) : Int) = (v : Int) * KK + 0 := by simp
    rw [z]
    have eS : IntKind.u64.wrap (((v : Nat) + 1) * KK + 0 + 18446744069414584320) = (v : Int) * KK + 0 := by rw [IntKind.wrap_u64]; simp only [KK]; omega
    obtain ⟨S, hS⟩ : ∃ S : Int, S = (v : Int) * KK + 0 := ⟨_, rfl⟩
    rw [← hS] at eS ⊢
    have a1 : S / 4294967296 = (v : Int) := by rw [hS]; simp only [KK]; omega
    have a2 : 0 ≤ S ∧ S < 9223372036854775808 := by rw [hS]; simp only [KK]; omega
    have b1 : bits .and .u64 S 2147483648 = 0 := by rw [hS]; have := st_flag v 0 (by omega) (by omega); simpa [KK] using this
    have b2 : bits .and .u64 S 2147483647 = 0 := by rw [hS]; have := st_waiters v 0 (by omega) (by omega); simpa [KK] using this
    clear hS z
    refine ⟨_, (stepG_add_atomic rfl rfl (by k_ne) rfl H.f_addU64 (x_addU64_n L) (x_addU64_b L) (x_addU64_x L) .u64 (x_addU64_f L) rfl rfl hw.cellSt (hw.thaw 0)).trans (by rw [eS]; rfl), fun hl => absurd hl.1 (by omega), fun _ => ⟨qt + 89, ?_⟩⟩
    clear hw
    walk_nrm
    q_vn (.int .u64 S)
    q_c stepG_region_end
    q_c stepG_ret'
    q_leave1 H.f_uAdd
    q_vn (.int .u64 S)
    q_c stepG_region_end
    q_c stepG_seq
    q_c stepG_seq
    q_reg
    q_vn (.int .u64 S)
    q_vn (.int .u64 0)
    q_vn (.bool false)
    q_vn (.bool false)
    q_skip
    q_skip
    q_vn (.bool false)
    q_c stepG_region_end
    q_cond false
    q_c stepG_skip
    q_c stepG_seq
    q_reg
    q_vn (.int .u64 S)
    q_vn (.int .u64 (v : Int))
    q_vn (.int .i32 (v : Int))
    q_vn (.int .i32 (v : Int))
    q_c stepG_region_end
    q_c stepG_seq
    q_reg
    q_vn (.int .u64 S)
    q_vn (.int .u64 0)
    q_vn (.int .u32 0)
    q_vn (.int .u32 0)
    q_c stepG_region_end
    q_c stepG_seq
    q_c stepG_seq
    q_reg
    q_vn (.bool true)
    q_vn (.int .i64 (-1))
    q_vn (.bool false)
    q_vn (.bool false)
    q_vn (.bool false)
    q_skip
    q_skip
    q_skip
    q_skip
    q_vn (.bool false)
    q_c stepG_region_end
    q_cond false
    q_c stepG_skip
    q_c stepG_seq
    q_c stepG_seq
    q_reg
    q_vn (.int .i32 (v : Int))
    q_vn (.bool false)
    q_c stepG_region_end
    q_cond false
    q_c stepG_skip
    q_c stepG_seq
    q_c stepG_seq
    q_reg
    q_vn (.int .u32 0)
    q_vn (.bool false)
    q_vn (.bool false)
    q_skip
    q_skip
    q_vn (.bool false)
    q_vn (.bool false)
    q_skip
    q_skip
    q_skip
    q_skip
    q_vn (.bool false)
    q_c stepG_region_end
    q_cond false
    q_c stepG_skip
    q_c stepG_seq
    q_c stepG_seq
    q_reg
    q_vn (.int .i32 (v : Int))
    q_vn (.bool true)
    q_vn (.bool true)
    q_skip
    q_skip
    q_vn (.bool true)
    q_c stepG_region_end
    q_cond true
    q_c stepG_ret'
    q_enable
    q_leave0 H.f_add
    exact hT
  · replace hw : WgAt L.tWg Wg w₁ (((v : Nat) + 1) * KK + 1) 0 := by simpa using hw
    have z : ((v : Nat) : Int) * KK + ((1 : Nat) : Int) = (v : Int) * KK + 1 := by simp
    rw [z]
    have eS : IntKind.u64.wrap (((v : Nat) + 1) * KK + 1 + 18446744069414584320) = (v : Int) * KK + 1 := by rw [IntKind.wrap_u64]; simp only [KK]; omega
    obtain ⟨S, hS⟩ : ∃ S : Int, S = (v : Int) * KK + 1 := ⟨_, rfl⟩
    rw [← hS] at eS ⊢
    have a1 : S / 4294967296 = (v : Int) := by rw [hS]; simp only [KK]; omega
    have a2 : 0 ≤ S ∧ S < 9223372036854775808 := by rw [hS]; simp only [KK]; omega
    have b1 : bits .and .u64 S 2147483648 = 0 := by rw [hS]; have := st_flag v 1 (by omega) (by omega); simpa [KK] using this
    have b2 : bits .and .u64 S 2147483647 = 1 := by rw [hS]; have := st_waiters v 1 (by omega) (by omega); simpa [KK] using this
    clear hS z
    refine ⟨_, (stepG_add_atomic rfl rfl (by k_ne) rfl H.f_addU64 (x_addU64_n L) (x_addU64_b L) (x_addU64_x L) .u64 (x_addU64_f L) rfl rfl hw.cellSt (hw.thaw 0)).trans (by rw [eS]; rfl), fun hl => absurd hl.1 (by omega), fun _ => ⟨qt + 89, ?_⟩⟩
    clear hw
    walk_nrm
    q_vn (.int .u64 S)
    q_c stepG_region_end
    q_c stepG_ret'
    q_leave1 H.f_uAdd
    q_vn (.int .u64 S)
    q_c stepG_region_end
    q_c stepG_seq
    q_c stepG_seq
    q_reg
    q_vn (.int .u64 S)
    q_vn (.int .u64 0)
    q_vn (.bool false)
    q_vn (.bool false)
    q_skip
    q_skip
    q_vn (.bool false)
    q_c stepG_region_end
    q_cond false
    q_c stepG_skip
    q_c stepG_seq
    q_reg
    q_vn (.int .u64 S)
    q_vn (.int .u64 (v : Int))
    q_vn (.int .i32 (v : Int))
    q_vn (.int .i32 (v : Int))
    q_c stepG_region_end
    q_c stepG_seq
    q_reg
    q_vn (.int .u64 S)
    q_vn (.int .u64 1)
    q_vn (.int .u32 1)
    q_vn (.int .u32 1)
    q_c stepG_region_end
    q_c stepG_seq
    q_c stepG_seq
    q_reg
    q_vn (.bool true)
    q_vn (.int .i64 (-1))
    q_vn (.bool false)
    q_vn (.bool false)
    q_vn (.bool false)
    q_skip
    q_skip
    q_skip
    q_skip
    q_vn (.bool false)
    q_c stepG_region_end
    q_cond false
    q_c stepG_skip
    q_c stepG_seq
    q_c stepG_seq
    q_reg
    q_vn (.int .i32 (v : Int))
    q_vn (.bool false)
    q_c stepG_region_end
    q_cond false
    q_c stepG_skip
    q_c stepG_seq
    q_c stepG_seq
    q_reg
    q_vn (.int .u32 1)
    q_vn (.bool true)
    q_vn (.bool true)
    q_vn (.int .i64 (-1))
    q_vn (.bool false)
    q_vn (.bool false)
    q_vn (.bool false)
    q_skip
    q_skip
    q_skip
    q_skip
    q_vn (.bool false)
    q_c stepG_region_end
    q_cond false
    q_c stepG_skip
    q_c stepG_seq
    q_c stepG_seq
    q_reg
    q_vn (.int .i32 (v : Int))
    q_vn (.bool true)
    q_vn (.bool true)
    q_skip
    q_skip
    q_vn (.bool true)
    q_c stepG_region_end
    q_cond true
    q_c stepG_ret'
    q_enable
    q_leave0 H.f_add
    exact hT
set_option maxRecDepth 100000 in
set_option maxHeartbeats 8000000 in
theorem doneB (H : WgLib P L) {Wg : Nat} {c : Frame} {cs : List Frame} {qt : Nat} (hcm : c.mode = .returning) (hT : QuitsD P qt 0 (G c cs)) :
    GL P L.tWg Wg (LR0 P L.tWg Wg) 43 (G ((baseD L.done).at ⟨#[.pointer (some ⟨Wg, 0, none⟩), undef, undef, undef], []⟩ [.code (body_done L)]) (c :: cs)) := by
  intro w
  lib_facts
  have hF : True := trivial
  have hA := @addNegB P L H Wg
  simp only [body_done, body_add, doneFn, addFn, Option.getD_some] at hA ⊢
  u_reg (fun _ r => r) hF
  u_op (fun _ r => r) hF
  u_in (fun _ r => r) hF
  refine goes_call rfl rfl (by k_ne) rfl H.f_add (nm_add L) rfl ⟨by u_nil, ?_⟩
  walk_nrmf addFn
  refine hA (qt := qt + 3) ?_ _
  q_c stepG_region_end
  q_c stepG_end
  exact QuitsD.leaveD rfl rfl H.f_done rfl hcm hT
end Go.Proofs.Ytaiinkeendejdaa
