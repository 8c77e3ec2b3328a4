/-
  SCHED: pick in company: the turn is given, the answer comes. No condition.
  And: SCHED: pick in company: up to the send. No condition.
-/
import Derived.Test.YtaiinkeendejdaaSchBack
import Derived.Test.YtaiinkeendejdaaSchSim
namespace Go.Proofs.Ytaiinkeendejdaa
open Go.RowKit Go.Conc Go.ConcR.Gen Go.ConcN.Gen
set_option maxRecDepth 100000
noncomputable def bodyPick : Code := (Try.f33).body.getD .skip
noncomputable def condPick : Code := match bodyPick with | .seq _ (.seq _ (.seq (.seq _ c) _)) => c | _ => .skip
noncomputable def turnPick : Code := match condPick with | .cond _ c _ => c | _ => .skip
noncomputable def sendPick : Array Oper := match turnPick with | .seq (.region _ ops _) _ => ops | _ => #[]
noncomputable def recvPick : Code := match turnPick with | .seq _ (.seq c _) => c | _ => .skip
noncomputable def markPick : Code := match turnPick with | .seq _ (.seq _ c) => c | _ => .skip
noncomputable def lastPick : Code := match bodyPick with | .seq _ (.seq _ (.seq _ c)) => c | _ => .skip
noncomputable def pickAt (t : Array Value) (k : List Item) (cs : List Frame) : Goroutine := G ((base 33).at ⟨t, []⟩ k) cs
/-- pick's slots where the thread has ended; at the send -/
def pickE (rb lb th n cap k : Nat) : Array Value := #[.pointer (some ⟨rb, 0, none⟩), .int .i64 (k : Nat), undef, undef, .pointer (some ⟨th, 0, none⟩), .int .i64 4, .pointer (some ⟨rb, 0, none⟩), .pointer (some ⟨rb, 0, none⟩), .pointer (some ⟨rb, 0, none⟩), .slice (some ⟨lb, 0, none⟩) n cap, .int .i64 (k : Nat), .pointer (some ⟨lb, k, none⟩), .pointer (some ⟨th, 0, none⟩), .pointer (some ⟨th, 0, none⟩), .pointer (some ⟨th, 0, none⟩), .pointer (some ⟨th, 2, none⟩), .bool true, .bool false, undef, undef, undef, undef, undef, undef, undef, undef, undef, undef, undef, undef, undef, undef, undef, undef, undef, undef, undef, undef, undef, undef, undef, undef, undef, undef, undef, undef, undef, undef, undef, undef, undef, undef, undef]
def pickS (rb lb th n cap k c : Nat) : Array Value := #[.pointer (some ⟨rb, 0, none⟩), .int .i64 (k : Nat), undef, undef, .pointer (some ⟨th, 0, none⟩), .int .i64 4, .pointer (some ⟨rb, 0, none⟩), .pointer (some ⟨rb, 0, none⟩), .pointer (some ⟨rb, 0, none⟩), .slice (some ⟨lb, 0, none⟩) n cap, .int .i64 (k : Nat), .pointer (some ⟨lb, k, none⟩), .pointer (some ⟨th, 0, none⟩), .pointer (some ⟨th, 0, none⟩), .pointer (some ⟨th, 0, none⟩), .pointer (some ⟨th, 2, none⟩), .bool false, .bool true, .pointer (some ⟨th, 0, none⟩), .pointer (some ⟨th, 0, none⟩), .pointer (some ⟨th, 0, none⟩), .chan (some c), .int .i64 (k : Nat), .int .i64 ((k : Nat) + 1), undef, undef, undef, undef, undef, undef, undef, undef, undef, undef, undef, undef, undef, undef, undef, undef, undef, undef, undef, undef, undef, undef, undef, undef, undef, undef, undef, undef, undef]
section
variable {Post : Value → World → Prop} {b : Bd} {h : Nat}
theorem pick_front {rb lb th n cap k c : Nat} {ended : Bool} {cs : List Frame} {w : World} (hr : w.cell? ⟨rb, 0, none⟩ = some (.slice (some ⟨lb, 0, none⟩) n cap)) (hl : w.cell? ⟨lb, k, none⟩ = some (.pointer (some ⟨th, 0, none⟩))) (hk : k < n) (he : w.cell? ⟨th, 2, none⟩ = some (.bool ended)) (hc : w.cell? ⟨th, 0, none⟩ = some (.chan (some c)))
    (z1 : b.shun rb = false) (z2 : b.shun lb = false) (z3 : b.shun th = false)
    (hkb : k < 1000000)
    (fin : ∀ w', Off b.shun w w' → At Try.prog 64 Post b h (if ended then pickAt (pickE rb lb th n cap k) [.code lastPick] cs else pickAt (pickS rb lb th n cap k c) [.inRegion sendPick [6], .code (.seq recvPick markPick), .code lastPick] cs) w') :
    At Try.prog 64 Post b h (G ((base 33).at ⟨#[.pointer (some ⟨rb, 0, none⟩), .int .i64 (k : Nat), undef, undef, undef, undef, undef, undef, undef, undef, undef, undef, undef, undef, undef, undef, undef, undef, undef, undef, undef, undef, undef, undef, undef, undef, undef, undef, undef, undef, undef, undef, undef, undef, undef, undef, undef, undef, undef, undef, undef, undef, undef, undef, undef, undef, undef, undef, undef, undef, undef, undef, undef], []⟩ [.code bodyPick]) cs) w := by
  have hF : Off b.shun w w := Off.refl _ _
  have hw1 : IntKind.i64.wrap ((k : Int) + 1) = (k : Int) + 1 := by rw [IntKind.wrap_i64]; omega
  simp only [pickAt, pickE, pickS, condPick, turnPick, sendPick, recvPick, markPick, lastPick, bodyPick, Try.f33, Option.getD_some] at fin ⊢
  refine At.goes0 (n := 20) ?_
  u_c stepG_seq ro_off2 hF
  u_reg ro_off2 hF
  u_op ro_off2 hF
  u_op ro_off2 hF
  u_op ro_off2 hF
  refine Goes.stop (fun _ r => ?_)
  replace hF := ro_off2 hF r
  clear r
  refine At.ld rfl rfl (by decide) (ad := ⟨rb, 0, none⟩) (x := .slice (some ⟨lb, 0, none⟩) n cap) (by rw [hF.cell z1]; exact hr) z1 (fun _ hv => ?_) ?_
  · exact ⟨by simp [go_sem, execOp, Act.eval, hv], by simp [go_sem, execOp, Act.eval, hv]⟩
  walk_nrm
  refine At.goes0 (n := 20) ?_
  u_op ro_off2 hF
  u_op ro_off2 hF
  refine Goes.stop (fun _ r => ?_)
  replace hF := ro_off2 hF r
  clear r
  refine At.ld rfl rfl (by decide) (ad := ⟨lb, k, none⟩) (x := .pointer (some ⟨th, 0, none⟩)) (by rw [hF.cell z2]; exact hl) z2 (fun _ hv => ?_) ?_
  · exact ⟨by simp [go_sem, execOp, Act.eval, hv], by simp [go_sem, execOp, Act.eval, hv]⟩
  walk_nrm
  refine At.goes0 (n := 20) ?_
  u_op ro_off2 hF
  u_c stepG_region_end ro_off2 hF
  u_c stepG_seq ro_off2 hF
  u_reg ro_off2 hF
  u_op ro_off2 hF
  u_c stepG_region_end ro_off2 hF
  u_c stepG_seq ro_off2 hF
  u_c stepG_seq ro_off2 hF
  u_reg ro_off2 hF
  u_op ro_off2 hF
  u_op ro_off2 hF
  u_op ro_off2 hF
  refine Goes.stop (fun _ r => ?_)
  replace hF := ro_off2 hF r
  clear r
  refine At.ld rfl rfl (by decide) (ad := ⟨th, 2, none⟩) (x := .bool ended) (by rw [hF.cell z3]; exact he) z3 (fun _ hv => ?_) ?_
  · exact ⟨by simp [go_sem, execOp, Act.eval, hv], by simp [go_sem, execOp, Act.eval, hv]⟩
  walk_nrm
  refine At.goes0 (n := 20) ?_
  u_op ro_off2 hF
  u_c stepG_region_end ro_off2 hF
  refine Goes.stop (fun _ r => ?_)
  replace hF := ro_off2 hF r
  clear r
  cases ended with
  | true =>
    refine At.goes0 (n := 20) ?_
    u_cond false ro_off2 hF
    u_c stepG_skip ro_off2 hF
    refine Goes.stop (fun _ r => ?_)
    replace hF := ro_off2 hF r
    exact fin _ hF
  | false =>
    refine At.goes0 (n := 20) ?_
    u_cond true ro_off2 hF
    u_c stepG_seq ro_off2 hF
    u_reg ro_off2 hF
    u_op ro_off2 hF
    u_op ro_off2 hF
    u_op ro_off2 hF
    refine Goes.stop (fun _ r => ?_)
    replace hF := ro_off2 hF r
    clear r
    refine At.ld rfl rfl (by decide) (ad := ⟨th, 0, none⟩) (x := .chan (some c)) (by rw [hF.cell z3]; exact hc) z3 (fun _ hv => ?_) ?_
    · exact ⟨by simp [go_sem, execOp, Act.eval, hv], by simp [go_sem, execOp, Act.eval, hv]⟩
    walk_nrm
    refine At.goes0 (n := 20) ?_
    u_op ro_off2 hF
    u_op ro_off2 hF
    refine Goes.stop (fun _ r => ?_)
    replace hF := ro_off2 hF r
    clear r
    exact fin _ hF
end
end Go.Proofs.Ytaiinkeendejdaa
namespace Go.Proofs.Ytaiinkeendejdaa
open Go.RowKit Go.Conc Go.ConcR.Gen Go.ConcN.Gen
set_option maxRecDepth 100000
noncomputable def ansPick : Array Oper := match recvPick with | .region _ ops _ => ops | _ => #[]
def pickR (rb lb th n cap k c d : Nat) : Array Value := #[.pointer (some ⟨rb, 0, none⟩), .int .i64 (k : Nat), undef, undef, .pointer (some ⟨th, 0, none⟩), .int .i64 4, .pointer (some ⟨rb, 0, none⟩), .pointer (some ⟨rb, 0, none⟩), .pointer (some ⟨rb, 0, none⟩), .slice (some ⟨lb, 0, none⟩) n cap, .int .i64 (k : Nat), .pointer (some ⟨lb, k, none⟩), .pointer (some ⟨th, 0, none⟩), .pointer (some ⟨th, 0, none⟩), .pointer (some ⟨th, 0, none⟩), .pointer (some ⟨th, 2, none⟩), .bool false, .bool true, .pointer (some ⟨th, 0, none⟩), .pointer (some ⟨th, 0, none⟩), .pointer (some ⟨th, 0, none⟩), .chan (some c), .int .i64 (k : Nat), .int .i64 ((k : Nat) + 1), .pointer (some ⟨th, 0, none⟩), .pointer (some ⟨th, 0, none⟩), .pointer (some ⟨th, 1, none⟩), .chan (some d), undef, undef, undef, undef, undef, undef, undef, undef, undef, undef, undef, undef, undef, undef, undef, undef, undef, undef, undef, undef, undef, undef, undef, undef, undef]
/-- where the runner waits for the answer -/
noncomputable def seatPick (rb lb th n cap k c d : Nat) (cs : List Frame) : Seat := Seat.one d (.int .i64 0) false fun g => g = pickAt (pickR rb lb th n cap k c d) [.inRegion ansPick [4, 5], .code markPick, .code lastPick] cs
theorem pick_send {main : Bool} {rb lb th n cap k c : Nat} {cs : List Frame} (w : World) : stepG Try.prog main (pickAt (pickS rb lb th n cap k c) [.inRegion sendPick [6], .code (.seq recvPick markPick), .code lastPick] cs) w = .comm (pickAt (pickS rb lb th n cap k c) [.inRegion sendPick [6], .code (.seq recvPick markPick), .code lastPick] cs) #[scase c (.int .i64 ((k : Nat) + 1)) (.tuple #[])] true .send w #[] := by
  simp only [pickAt, pickS, condPick, turnPick, sendPick, recvPick, markPick, lastPick, bodyPick, Try.f33, Option.getD_some]
  refine (stepG_comm (cases := #[scase c (.int .i64 ((k : Nat) + 1)) (.tuple #[])]) (blocking := true) (shape := .send) (w' := w) rfl rfl (by decide) (by simp [go_sem, execOp, scase, Act.eval])).trans ?_
  rw [listed_none (by simp [go_sem, execOp, Act.eval])]
theorem pick_seat {main : Bool} {rb lb th n cap k c d : Nat} {cs : List Frame} {B : Nat} (hB : th < B) :
    Sits Try.prog main (Kn [(⟨th, 1, none⟩, .chan (some d))]) (Sn [(⟨th, 1, none⟩, .chan (some d))]) B (seatPick rb lb th n cap k c d cs) 8 (Go.Conc.served (pickAt (pickS rb lb th n cap k c) [.inRegion sendPick [6], .code (.seq recvPick markPick), .code lastPick] cs) undef) := by
  refine .inl ⟨7, default, rfl, ?_⟩
  have hh : ∀ g, g = pickAt (pickR rb lb th n cap k c d) [.inRegion ansPick [4, 5], .code markPick, .code lastPick] cs → (seatPick rb lb th n cap k c d cs).home g := fun g e => e
  have e1 : (seatPick rb lb th n cap k c d cs).cases = #[rcase d (.int .i64 0)] := rfl
  have e2 : (seatPick rb lb th n cap k c d cs).shape = .recv false := rfl
  generalize seatPick rb lb th n cap k c d cs = st at hh e1 e2 ⊢
  simp only [pickAt, pickS, pickR, ansPick, condPick, turnPick, sendPick, recvPick, markPick, lastPick, bodyPick, Try.f33, Option.getD_some] at hh ⊢
  rw [served_fr, Frame.finish_at]
  walk_nrm
  k_c stepG_region_end
  k_c stepG_seq
  k_reg
  k_in
  refine goes_oper_k rfl rfl (by decide) (fun K hK => ?_)
  go_simp
  refine hK _ _ ⟨⟨rfl, fun e he => ?_⟩, ?_⟩
  · have hm := mem_listed he; simp [go_sem, *] at hm
  clear hK K
  k_in
  refine goes_oper_k rfl rfl (by decide) (fun K hK => ?_)
  go_simp
  refine hK _ _ ⟨⟨rfl, fun e he => ?_⟩, ?_⟩
  · have hm := mem_listed he; simp [go_sem, *] at hm
  clear hK K
  k_in
  refine goes_oper_k rfl rfl (by decide) (fun K hK => ?_)
  go_simp
  refine hK _ _ ⟨⟨rfl, fun e he => ?_⟩, ?_⟩
  · have hm := mem_listed he; simp [go_sem, *] at hm
  clear hK K
  k_in
  refine goes_oper_k rfl rfl (by decide) (fun K hK => ?_)
  have hv : w₁.cell? ⟨th, 1, none⟩ = some (.chan (some d)) := h₁ (⟨th, 1, none⟩, .chan (some d)) (by simp)
  go_simp
  refine hK _ _ ⟨⟨rfl, fun e he => ?_⟩, ?_⟩
  · have hm := mem_listed he
    simp [go_sem, *] at hm
    subst hm
    exact evC_read _ ⟨(⟨th, 1, none⟩, .chan (some d)), by simp, rfl⟩ hB
  clear hK K
  refine Goes.stop fun w₁ h₁ => ⟨_, rfl, rfl, rfl, rfl, hh _ rfl, #[], by simp, fun w₂ _ => ?_⟩
  rw [e1, e2]
  refine (stepG_comm (cases := #[rcase d (.int .i64 0)]) (blocking := true) (shape := .recv false) (w' := w₂) rfl rfl (by decide) (by simp [go_sem, execOp, rcase, Act.eval])).trans ?_
  rw [listed_none (by simp [go_sem, execOp, Act.eval])]
end Go.Proofs.Ytaiinkeendejdaa
