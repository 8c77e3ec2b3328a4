/-
  SCHED: Run behind its first loop, in company. No condition.
  And: SCHED: Run's statements ahead of its first loop, alone. No condition.
-/
import Derived.Test.YtaiinkeendejdaaSchHire
namespace Go.Proofs.Ytaiinkeendejdaa
open Go.RowKit Go.Conc
set_option maxRecDepth 100000
noncomputable def codeR0 : Code := match bodyRun with | .seq c _ => c | _ => .skip
noncomputable def codeR6 : Code := match bodyRun with | .seq _ (.seq _ (.seq _ (.seq c _))) => c | _ => .skip
noncomputable def codeR8 : Code := match bodyRun with | .seq _ (.seq _ (.seq _ (.seq _ (.seq _ (.seq c _))))) => c | _ => .skip
theorem r0_wp {f : FuncId} {caps : Array Value} {x0 x2 x3 x4 x5 x6 x7 x8 x9 x10 x11 x12 x13 x14 x15 x16 x17 x18 x19 x20 x21 x22 x23 x24 x25 x26 x27 x28 x29 x30 x31 x32 x33 x34 x35 x36 x37 x38 x39 x40 x41 x42 x43 x44 x45 x46 x47 x48 x49 x50 x51 x52 x53 x54 x55 x56 x57 x58 x59 x60 x61 x62 x63 x64 x65 x66 x67 x68 x69 x70 x71 x72 x73 x74 x75 x76 x77 x78 x79 x80 x81 x82 x83 x84 x85 x86 : Value} {v : World} : codeR0.wp Try.prog (fun e a' w' => e = .normal ∧ a'.defers = [] ∧ a'.tmps = #[x0, .func (.func f) #[] caps, x2, x3, x4, .pointer (some ⟨v.heap.size, 0, none⟩), x6, x7, .slice none 0 0, .int .i64 0, x10, x11, x12, x13, x14, x15, x16, x17, x18, x19, x20, x21, x22, x23, x24, x25, x26, x27, x28, x29, x30, x31, x32, x33, x34, x35, x36, x37, x38, x39, x40, x41, x42, x43, x44, x45, x46, x47, x48, x49, x50, x51, x52, x53, x54, x55, x56, x57, x58, x59, x60, x61, x62, x63, x64, x65, x66, x67, x68, x69, x70, x71, x72, x73, x74, x75, x76, x77, x78, x79, x80, x81, x82, x83, x84, x85, x86] ∧ w'.heap = v.heap.push (.cells #[.func (.func f) #[] caps] 41)) ⟨#[x0, .func (.func f) #[] caps, x2, x3, x4, x5, x6, x7, x8, x9, x10, x11, x12, x13, x14, x15, x16, x17, x18, x19, x20, x21, x22, x23, x24, x25, x26, x27, x28, x29, x30, x31, x32, x33, x34, x35, x36, x37, x38, x39, x40, x41, x42, x43, x44, x45, x46, x47, x48, x49, x50, x51, x52, x53, x54, x55, x56, x57, x58, x59, x60, x61, x62, x63, x64, x65, x66, x67, x68, x69, x70, x71, x72, x73, x74, x75, x76, x77, x78, x79, x80, x81, x82, x83, x84, x85, x86], []⟩ v := by
  simp only [codeR0, bodyRun, Try.f19, Option.getD_some]
  go_wp2
  rfl
theorem r6_wp {x0 x1 x2 x3 x4 x5 x6 x7 x8 x9 x10 x11 x12 x13 x14 x15 x16 x17 x18 x19 x20 x21 x22 x23 x24 x25 x26 x27 x28 x29 x30 x31 x32 x33 x34 x35 x36 x37 x38 x39 x40 x41 x42 x43 x44 x45 x46 x47 x48 x49 x50 x51 x52 x53 x54 x55 x56 x57 x58 x59 x60 x61 x62 x63 x64 x65 x66 x67 x68 x69 x70 x71 x72 x73 x74 x75 x76 x77 x78 x79 x80 x81 x82 x83 x84 x85 x86 : Value} {v : World} : codeR6.wp Try.prog (fun e a' w' => e = .normal ∧ a'.defers = [] ∧ a'.tmps = #[x0, x1, x2, x3, x4, x5, x6, x7, x8, x9, x10, .pointer (some ⟨v.heap.size + 1, 0, none⟩), x12, x13, x14, x15, x16, x17, x18, x19, x20, x21, x22, x23, x24, x25, x26, x27, x28, .chan (some v.heap.size), x30, x31, x32, x33, x34, x35, x36, x37, x38, x39, x40, x41, x42, x43, x44, x45, x46, x47, x48, x49, x50, x51, x52, x53, x54, x55, x56, x57, x58, x59, x60, x61, x62, x63, x64, x65, x66, x67, x68, x69, x70, x71, x72, x73, x74, x75, x76, x77, x78, x79, x80, x81, x82, x83, x84, x85, x86] ∧ w'.heap = (v.heap.push (.chan 0 #[] false 0 0 false)).push (.cells #[.chan (some v.heap.size)] 54)) ⟨#[x0, x1, x2, x3, x4, x5, x6, x7, x8, x9, x10, x11, x12, x13, x14, x15, x16, x17, x18, x19, x20, x21, x22, x23, x24, x25, x26, x27, x28, x29, x30, x31, x32, x33, x34, x35, x36, x37, x38, x39, x40, x41, x42, x43, x44, x45, x46, x47, x48, x49, x50, x51, x52, x53, x54, x55, x56, x57, x58, x59, x60, x61, x62, x63, x64, x65, x66, x67, x68, x69, x70, x71, x72, x73, x74, x75, x76, x77, x78, x79, x80, x81, x82, x83, x84, x85, x86], []⟩ v := by
  simp only [codeR6, bodyRun, Try.f19, Option.getD_some]
  have hmk := mk0
  go_wp2
  rfl
theorem r8_wp {x0 x1 x2 x3 x4 x5 x6 x7 x8 x9 x10 x11 x12 x13 x14 x15 x16 x17 x18 x19 x20 x21 x22 x23 x24 x25 x26 x27 x28 x29 x30 x31 x32 x33 x34 x35 x36 x37 x38 x39 x40 x41 x42 x43 x44 x45 x46 x47 x48 x49 x50 x51 x52 x53 x54 x55 x56 x57 x58 x59 x60 x61 x62 x63 x64 x65 x66 x67 x68 x69 x70 x71 x72 x73 x74 x75 x76 x77 x78 x79 x80 x81 x82 x83 x84 x85 x86 : Value} {v : World} : codeR8.wp Try.prog (fun e a' w' => e = .normal ∧ a'.defers = [] ∧ a'.tmps = #[x0, x1, x2, x3, x4, x5, x6, x7, x8, x9, x10, x11, x12, .pointer (some ⟨v.heap.size, 0, none⟩), x14, x15, x16, x17, x18, x19, x20, x21, x22, x23, x24, x25, x26, x27, x28, x29, .agg #[.slice none 0 0, .slice none 0 0], .pointer (some ⟨v.heap.size, 0, none⟩), x32, x33, x34, x35, x36, x37, x38, x39, x40, x41, x42, x43, x44, x45, x46, x47, x48, x49, x50, x51, x52, x53, x54, x55, x56, x57, x58, x59, x60, x61, x62, x63, x64, x65, x66, x67, x68, x69, x70, x71, x72, x73, x74, x75, x76, x77, x78, x79, x80, x81, x82, x83, x84, x85, x86] ∧ w'.heap = v.heap.push (.cells #[.slice none 0 0, .slice none 0 0] 68)) ⟨#[x0, x1, x2, x3, x4, x5, x6, x7, x8, x9, x10, x11, x12, x13, x14, x15, x16, x17, x18, x19, x20, x21, x22, x23, x24, x25, x26, x27, x28, x29, x30, x31, x32, x33, x34, x35, x36, x37, x38, x39, x40, x41, x42, x43, x44, x45, x46, x47, x48, x49, x50, x51, x52, x53, x54, x55, x56, x57, x58, x59, x60, x61, x62, x63, x64, x65, x66, x67, x68, x69, x70, x71, x72, x73, x74, x75, x76, x77, x78, x79, x80, x81, x82, x83, x84, x85, x86], []⟩ v := by
  simp only [codeR8, bodyRun, Try.f19, Option.getD_some]
  go_wp2
  rfl
end Go.Proofs.Ytaiinkeendejdaa

namespace Go.Proofs.Ytaiinkeendejdaa
open Go.RowKit Go.Conc Go.ConcR.Gen Go.ConcN.Gen
open Go.ConcN (sumTo upd sumTo_upd upd_ne upd_same WgLive)
set_option maxRecDepth 100000
/-- what picks and a drain make of threads that begin -/
def runS {σ : Type} (next : σ → Int → Int × σ) (n : Nat) (l : List Int) (D : Nat) (s0 : σ) : σ × (Nat → Bool) × List Mk :=
  drainS next n D 0 (l.foldl (fun x p => rstep next x (roundS n p)) (s0, fun _ => false, []))
section
variable {Post : Value → World → Prop} {h : Nat}
theorem run_on {σ : Type} {r : Rn} {b0 b : Bd} {v0 v w : World} {O0 : Nat → Prop} {J : Nat → σ → (Nat → Prop) → World → Prop} {next : σ → Int → Int × σ} {s0 : σ} {Bl np pc D : Nat} {pa : Option Addr} {l : List Int} {fn : Func} {c : Frame} {cs : List Frame}
    (SC : StepC Try.prog 64 Post r.f r.caps r.n J next) (hf : Try.prog.funcs[r.f]? = some fn) (hname : (fn.name == "runtime.NumGoroutine") = false) (hb : fn.body.isNone = false) (hJS : JStill r.N₀ J)
    (hear : b0.ear = true) (hwt : b0.wait = none) (hh : b0.role h = .mute) (hhn : h < b0.n) (ht0 : Tidy b0 r.N₀) (hup : ∀ j, b0.n ≤ j → b0.role j = .mute) (hP : Picks r b0 v0 O0 pa l) (hl : l.length = np) (hnp : np ≤ 65536) (hD : D ≤ 65536) (h64 : ∀ x ∈ l, -9223372036854775808 ≤ x ∧ x ≤ 9223372036854775807) (h0 : 0 < r.n) (h8 : r.n ≤ 8)
    (H : HireSt r b0 v0 O0 J s0 Bl b v w)
    (fin : ∀ b' v' w' O' mv, Ended b0 v0 O0 r.N₀ J (runS next r.n l D s0).1 (runS next r.n l D s0).2.2 b' v' w' O' mv → At Try.prog 64 Post b' h (G (c.finish (.tuple #[mv, .int .i64 0])) cs) w') (x1 x4 x6 x7 x10 x14 x15 x16 x17 x18 x19 x20 x21 x22 x23 x24 x25 x26 x27 x28 x29 x30 x31 x32 x33 x34 x35 x36 x37 x38 x39 x40 x41 x42 x43 x44 x45 x46 x47 x48 x49 x50 x51 x52 x53 x54 x55 x56 x57 x58 x59 x60 x61 x62 x63 x64 x65 x66 x67 x68 x69 x70 x71 x72 x73 x74 x75 x76 x77 x78 x79 x80 x81 x82 x83 x84 x85 x86 : Value) :
    At Try.prog 64 Post b h (runAt #[.int .i64 (r.n : Nat), x1, .slice pa np pc, .int .i64 (D : Nat), x4, .pointer (some ⟨r.stv, 0, none⟩), x6, x7, .slice none 0 0, .int .i64 0, x10, .pointer (some ⟨r.sv, 0, none⟩), .pointer (some ⟨r.Wg, 0, none⟩), .pointer (some ⟨r.rb, 0, none⟩), x14, x15, x16, x17, x18, x19, x20, x21, x22, x23, x24, x25, x26, x27, x28, x29, x30, x31, x32, x33, x34, x35, x36, x37, x38, x39, x40, x41, x42, x43, x44, x45, x46, x47, x48, x49, x50, x51, x52, x53, x54, x55, x56, x57, x58, x59, x60, x61, x62, x63, x64, x65, x66, x67, x68, x69, x70, x71, x72, x73, x74, x75, x76, x77, x78, x79, x80, x81, x82, x83, x84, x85, x86] [.code tailPicks] (c :: cs)) w := by
  have hne : ¬ (r.i0 ≤ h ∧ h < r.i0 + r.n) := fun h1 => by have := H.num.2; omega
  have hF : Off b.shun w w := Off.refl _ _
  have hclose := @close_run Post h σ r b0
  have hdrain := @drain_loop Post h σ r b0 v0 O0 J next fn D np (runS next r.n l D s0) (c :: cs) SC hf hname hb hJS hear hwt hh hne hD hnp h0 (fun b v w O m s e ms K hst x1 x2 x4 x5 x6 x7 x10 x14 x15 x16 x17 x18 x19 x20 x21 x22 x23 x24 x25 x26 x27 x28 x29 x30 x31 x32 x33 x34 x35 x36 x37 x38 x39 x40 x41 x42 x43 x44 x45 x46 x47 x48 x49 x50 x51 x52 x53 x54 x55 x56 x57 x58 x59 x60 x61 x62 x63 x64 x65 x66 x67 x68 x69 x70 x71 x72 x73 x74 x75 x76 x77 x78 x79 x80 x81 x82 x83 x84 x85 x86 => by
    refine hclose hJS hear hwt h0 ht0 hup K (fun b' v' w' mv E => fin b' v' w' O mv ?_) x1 x2 x4 x5 x6 x7 x10 x14 x15 x16 x17 x18 x19 x20 x21 x22 x23 x24 x25 x26 x27 x28 x29 x30 x31 x32 x33 x34 x35 x36 x37 x38 x39 x40 x41 x42 x43 x44 x45 x46 x47 x48 x49 x50 x51 x52 x53 x54 x55 x56 x57 x58 x59 x60 x61 x62 x63 x64 x65 x66 x67 x68 x69 x70 x71 x72 x73 x74 x75 x76 x77 x78 x79 x80 x81 x82 x83 x84 x85 x86
    have e1 := congrArg (·.1) hst
    have e2 := congrArg (·.2.2) hst
    simp only at e1 e2
    rw [← e1, ← e2]
    exact E)
  have hpicks := @picks_loop Post h σ r b0 v0 O0 J next fn pa np pc (D : Nat) l (s0, fun _ => false, []) (c :: cs) SC hf hname hb hJS hear hwt hh hne hP hl hnp h64 h0
  simp only [runAt, loopDrain, loopPicks, tailClose, tailDrain, tailPicks, bodyRun, Try.f19, Option.getD_some] at hdrain hpicks ⊢
  refine At.goes0 (n := 20) ?_
  u_c stepG_seq ro_off2 hF
  u_c stepG_seq ro_off2 hF
  u_reg ro_off2 hF
  u_op ro_off2 hF
  u_op ro_off2 hF
  u_op ro_off2 hF
  u_c stepG_region_end ro_off2 hF
  u_c stepG_block ro_off2 hF
  u_c stepG_loop ro_off2 hF
  refine Goes.stop (fun wA q => ?_)
  replace hF := ro_off2 hF q
  clear q
  have H' : HireSt r b0 v0 O0 J s0 Bl b v wA := { H with sim := hF.sim H.sim }
  refine hpicks (fun b1 v1 w1 O1 m1 s1 e1 ms1 K1 hst1 hms1 x1 x4 x5 x6 x7 x10 x14 x15 x16 x17 x18 x19 x20 x21 x22 x23 x24 x25 x26 x27 x28 x29 x30 x31 x32 x33 x34 x35 x36 x37 x38 x39 x40 x41 x42 x43 x44 x45 x46 x47 x48 x49 x50 x51 x55 x56 x57 x58 x59 x60 x61 x62 x63 x64 x65 x66 x67 x68 x69 x70 x71 x72 x73 x74 x75 x76 x77 x78 x79 x80 x81 x82 x83 x84 x85 x86 => ?_) np 0 b v wA O0 0 s0 (fun _ => false) [] (by omega) (H'.run h0 h8) (by simp) (Nat.le_refl _) _ _ _ _ _ _ _ _ _ _ _ _ _ _ _ _ _ _ _ _ _ _ _ _ _ _ _ _ _ _ _ _ _ _ _ _ _ _ _ _ _ _ _ _ _ _ _ _ _ _ _ _ _ _ _ _ _ _ _ _ _ _ _ _ _ _ _ _ _ _ _ _ _ _ _ _
  have hF : Off b1.shun w1 w1 := Off.refl _ _
  refine At.goes0 (n := 20) ?_
  u_c stepG_seq ro_off2 hF
  u_reg ro_off2 hF
  u_op ro_off2 hF
  u_c stepG_region_end ro_off2 hF
  u_c stepG_seq ro_off2 hF
  u_c stepG_seq ro_off2 hF
  u_reg ro_off2 hF
  u_op ro_off2 hF
  u_op ro_off2 hF
  u_c stepG_region_end ro_off2 hF
  u_c stepG_block ro_off2 hF
  u_c stepG_loop ro_off2 hF
  refine Goes.stop (fun wB q => ?_)
  replace hF := ro_off2 hF q
  clear q
  refine hdrain D 0 0 b1 v1 wB O1 m1 s1 e1 ms1 (by omega) (Nat.zero_le _) { K1 with sim := hF.sim K1.sim } ?_ (by omega) _ _ _ _ _ _ _ _ _ _ _ _ _ _ _ _ _ _ _ _ _ _ _ _ _ _ _ _ _ _ _ _ _ _ _ _ _ _ _ _ _ _ _ _ _ _ _ _ _ _ _ _ _ _ _ _ _ _ _ _ _ _ _ _ _ _ _ _ _ _ _ _ _ _ _ _ _
  rw [hst1]
  rfl
end
end Go.Proofs.Ytaiinkeendejdaa

