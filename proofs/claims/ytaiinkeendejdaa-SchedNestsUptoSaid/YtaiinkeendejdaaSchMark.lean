/-
  SCHED: pick in company: behind the answer. No condition.
-/
import Derived.Test.YtaiinkeendejdaaSchRound
import Derived.Test.YtaiinkeendejdaaSchFuns
namespace Go.Proofs.Ytaiinkeendejdaa
open Go.RowKit Go.Conc Go.ConcR.Gen Go.ConcN.Gen
set_option maxRecDepth 100000
def pickM (rb lb th n cap k c d : Nat) (a : Int) : Array Value := #[.pointer (some ⟨rb, 0, none⟩), .int .i64 (k : Nat), undef, undef, .pointer (some ⟨th, 0, none⟩), .int .i64 a, .pointer (some ⟨rb, 0, none⟩), .pointer (some ⟨rb, 0, none⟩), .pointer (some ⟨rb, 0, none⟩), .slice (some ⟨lb, 0, none⟩) n cap, .int .i64 (k : Nat), .pointer (some ⟨lb, k, none⟩), .pointer (some ⟨th, 0, none⟩), .pointer (some ⟨th, 0, none⟩), .pointer (some ⟨th, 0, none⟩), .pointer (some ⟨th, 2, none⟩), .bool false, .bool true, .pointer (some ⟨th, 0, none⟩), .pointer (some ⟨th, 0, none⟩), .pointer (some ⟨th, 0, none⟩), .chan (some c), .int .i64 (k : Nat), .int .i64 ((k : Nat) + 1), .pointer (some ⟨th, 0, none⟩), .pointer (some ⟨th, 0, none⟩), .pointer (some ⟨th, 1, none⟩), .chan (some d), .int .i64 a, .pointer (some ⟨th, 0, none⟩), .int .i64 a, .bool (a == 4), .pointer (some ⟨th, 0, none⟩), .pointer (some ⟨th, 2, none⟩), undef, undef, undef, undef, undef, undef, undef, undef, undef, undef, undef, undef, undef, undef, undef, undef, undef, undef, undef]
section
variable {Post : Value → World → Prop} {b : Bd} {h : Nat}
theorem pick_mark {rb lb th n cap k c d : Nat} {a : Int} {cs : List Frame} {v w : World} (hs : Sim b.shun b.F v w) (he : Even (ZT b.shun v.heap.size) v) (hz : ∀ x, x = rb ∨ x = lb ∨ x = th ∨ x = c ∨ x = d → ZT b.shun v.heap.size x = false)
    (hc : ∃ e, v.cell? ⟨th, 2, none⟩ = some (.bool e)) (hfz : v.frozen? ⟨th, 2, none⟩ = false)
    (fin : ∀ v' w', (∃ T d, v' = onT (v.setCell ⟨th, 2, none⟩ (.bool (a == 4))) T d) → Even (ZT b.shun v'.heap.size) v' → Sim b.shun b.F v' w' → At Try.prog 64 Post b h (pickAt (pickM rb lb th n cap k c d a) [.code lastPick] cs) w') :
    At Try.prog 64 Post b h (Go.Conc.served (pickAt (pickR rb lb th n cap k c d) [.inRegion ansPick [4, 5], .code markPick, .code lastPick] cs) (.int .i64 a)) w := by
  have hF : Off b.shun w w := Off.refl _ _
  obtain ⟨e0, hc⟩ := hc
  simp only [pickAt, pickR, pickM, ansPick, condPick, turnPick, recvPick, markPick, lastPick, bodyPick, Try.f33, Option.getD_some] at fin ⊢
  rw [served_fr, Frame.finish_at]
  walk_nrm
  refine At.goes0 (n := 30) ?_
  u_op ro_off2 hF
  u_c stepG_region_end ro_off2 hF
  u_reg ro_off2 hF
  u_op ro_off2 hF
  u_op ro_off2 hF
  u_op ro_off2 hF
  u_op ro_off2 hF
  u_op ro_off2 hF
  refine Goes.stop (fun _ r => ?_)
  replace hF := ro_off2 hF r
  clear r
  refine At.oper (R := fun x u => x = undef ∧ ∃ T d, u = onT (v.setCell ⟨th, 2, none⟩ (.bool (a == 4))) T d) lones_fun (v := v) rfl rfl (by kernel_rfl) ?_ he (hF.sim hs) (fun T d => ?_) (fun x v' T d w' _ he' hR hs' => ?_)
  · have z1 := hz rb (by simp)
    have z2 := hz lb (by simp)
    have z3 := hz th (by simp)
    have z4 := hz c (by simp)
    have z5 := hz d (by simp)
    refine slots_of fun x hx => ?_
    simp only [List.mem_toArray, List.mem_cons, List.not_mem_nil, or_false] at hx
    repeat (
      rcases hx with rfl | hx
      · first
          | exact undef_ok
          | exact .int _ _
          | exact .bool _
          | exact .any _
          | exact .any _
          | exact .any _
          | exact .any _
          | exact .any _
          | exact .any _)
  · have hc' : (onT v T d).cell? ⟨th, 2, none⟩ = some (.bool e0) := hc
    have hf' : (onT v T d).frozen? ⟨th, 2, none⟩ = false := hfz
    exact ⟨.skip, undef, (onT v T d).setCell ⟨th, 2, none⟩ (.bool (a == 4)), by simp [go_sem, execOp, Act.eval, hc', hf'], .inr ⟨rfl, rfl⟩, rfl, T, d, rfl⟩
  obtain ⟨rfl, T', d', hv⟩ := hR
  have hF : Off b.shun w' w' := Off.refl _ _
  simp only [Act.put]
  refine At.goes0 (n := 10) ?_
  u_c stepG_region_end ro_off2 hF
  refine Goes.stop (fun _ r => ?_)
  replace hF := ro_off2 hF r
  have hv2 : onT (onT v' T d) v'.tape v'.drawn = onT (onT (v.setCell ⟨th, 2, none⟩ (.bool (a == 4))) T' d') v'.tape v'.drawn := by rw [hv]
  exact fin v' _ ⟨v'.tape, v'.drawn, hv2⟩ he' (hF.sim hs')
end
end Go.Proofs.Ytaiinkeendejdaa
