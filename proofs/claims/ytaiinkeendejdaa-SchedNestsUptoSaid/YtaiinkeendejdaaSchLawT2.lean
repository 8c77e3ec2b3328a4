/-
  quash/quashlaw04.SchedTurns: every run from every start ends, and answers true. No condition.
  And: quash/quashlaw04.SchedTurns, what it does behind awake: alone, it answers true. No condition.
-/
import Derived.Test.YtaiinkeendejdaaSchLent
import Derived.Test.YtaiinkeendejdaaSchTurns
import Derived.Test.YtaiinkeendejdaaSchRefTurns
import Derived.Test.YtaiinkeendejdaaSchFrame
namespace Go.Proofs.Ytaiinkeendejdaa
open Go.RowKit
set_option maxRecDepth 100000
noncomputable def bodyTurns : Code := (Try.f4).body.getD .skip
noncomputable def restTurns : Code := match bodyTurns with | .seq _ (.seq _ c) => c | _ => .skip
theorem Own.seen {w : World} {B : Nat} {v : Value} {zs : List Int} (h : Own w B v zs) : ∃ ao c, v = .slice ao zs.length c ∧ Sees w ao zs ∧ zs.length ≤ maxLen := by
  rcases h.form with ⟨rfl, rfl⟩ | ⟨g, cap, rfl, hb⟩
  · exact ⟨none, 0, rfl, Sees.nil _ _, Nat.zero_le _⟩
  · exact ⟨_, _, rfl, hb.sees, Nat.le_trans hb.caps.1 hb.caps.2⟩
def turnsL (n : Int) (np : Nat) (D : Int) (l : List Int) : List Int := if wrongS n np D = 0 then turnsS n.toNat l D.toNat else []
theorem Turns_seen (n : Int) (ao : Option Addr) (np c : Nat) (D : Int) (l : List Int) (w : World) (hl : l.length = np) (hs : Sees w ao l) (hm : np ≤ maxLen) (h64 : ∀ x ∈ l, -9223372036854775808 ≤ x ∧ x ≤ 9223372036854775807)
    {E : Int} {L : List Int} {m : Nat} (hE : wrongS n np D = E) (hL : turnsL n np D l = L) (hLm : L.length = m) :
    Calls Try.prog 16 #[.int .i64 n, .slice ao np c, .int .i64 D] w fun e w' => ∃ ao' c', e = .returned (.tuple #[.slice ao' m c', .int .i64 E]) ∧ Sees w' ao' L ∧ m ≤ maxLen ∧ Below w.heap.size w w' := by
  refine (Turns_any n ao np c D l w hl hs hm h64).mono ?_
  rintro e w' ⟨v, rfl, hown, hB⟩
  have hown : Own w' w.heap.size v (turnsL n np D l) := hown
  rw [hL] at hown
  rw [hE]
  obtain ⟨ao', c', rfl, h2, h3⟩ := hown.seen
  rw [hLm] at h3 ⊢
  exact ⟨ao', c', rfl, h2, h3, hB⟩
theorem refTurns_seen (n : Int) (ao : Option Addr) (np c : Nat) (D : Int) (l : List Int) (w : World) (hl : l.length = np) (hs : Sees w ao l) (hm : np ≤ maxLen)
    {E : Int} {L : List Int} {m : Nat} (hE : wrongS n np D = E) (hL : turnsL n np D l = L) (hLm : L.length = m) :
    Calls Try.prog 17 #[.int .i64 n, .slice ao np c, .int .i64 D] w fun e w' => ∃ ao' c', e = .returned (.tuple #[.slice ao' m c', .int .i64 E]) ∧ Sees w' ao' L ∧ Below w.heap.size w w' := by
  refine (refTurns_any n ao np c D l w hl hs hm).mono ?_
  rintro e w' ⟨v, rfl, hown, hB⟩
  have hown : Own w' w.heap.size v (turnsL n np D l) := hown
  rw [hL] at hown
  rw [hE]
  obtain ⟨ao', c', rfl, h2, h3⟩ := hown.seen
  rw [hLm] at h3 ⊢
  exact ⟨ao', c', rfl, h2, hB⟩
set_option maxHeartbeats 2000000 in
theorem turns_rest {n D : Int} {ao : Option Addr} {np nc : Nat} {l : List Int} {w : World} (hl : l.length = np) (hs : Sees w ao l) (hn : ao = none → nc = 0) (hb : np * 8 ≤ 140737488355000) (h64 : ∀ x ∈ l, -9223372036854775808 ≤ x ∧ x ≤ 9223372036854775807) :
    restTurns.wp Try.prog (fun e a' w' => e = .ret ∧ a'.tmps.getD 6 undef = .bool true ∧ Below w.heap.size w w') ⟨#[.int .i64 n, .slice ao np nc, .int .i64 D, undef, undef, undef, .bool false, .bool true, undef, undef, undef, undef, undef, .bool true, undef, undef, undef, undef, undef, undef, undef, undef, undef, undef, undef, undef, undef, undef, undef, undef, undef, undef, undef, undef, undef, undef, undef, undef, undef, undef, undef, undef, undef, undef, undef, undef], []⟩ w := by
  simp only [restTurns, bodyTurns, Try.f4, Option.getD_some]
  have hm : np ≤ maxLen := by unfold maxLen; omega
  obtain ⟨E, hE⟩ : ∃ E, wrongS n np D = E := ⟨_, rfl⟩
  obtain ⟨L, hL⟩ : ∃ L, turnsL n np D l = L := ⟨_, rfl⟩
  obtain ⟨m, hLm⟩ : ∃ m, L.length = m := ⟨_, rfl⟩
  have HS := Lib.hid hs
  have HL := Lib.hid hl
  have H6 := Lib.hid h64
  have HE := Lib.hid hE
  have HLL := Lib.hid hL
  have HM := Lib.hid hLm
  clear hs hl h64 hE hL hLm
  go_upto_region 3 with (first | (go_at_call 11; go_must (refine (lent_any ao np nc l _ HL.out HS.out hn hb).mono ?_; rintro e w1 ⟨g, cap, rfl, hb1, hB1⟩)))
  have hz1 := hB1.size
  have hk1 : Sees w1 (some ⟨g, 0, none⟩) l := by
    have := (hb1.take np (by have := HL.out; simp; omega)).sees
    rw [← HL.out, List.take_left] at this
    exact this
  have HK1 := Lib.hid hk1
  have HB1 := Lib.hid hB1
  have HO1 := Lib.hid hb1
  clear hk1 hB1 hb1
  go_upto_region 4 with (first | (go_at_call 16; go_must (refine (Turns_seen n (some ⟨g, 0, none⟩) np cap D l _ HL.out HK1.out hm H6.out HE.out HLL.out HM.out).mono ?_; rintro e w2 ⟨ao2, c2, rfl, hs2, hm2, hB2⟩)))
  have hz2 := hB2.size
  have HS2 := Lib.hid hs2
  have HO2 := Lib.hid (HO1.out.below hB2)
  have HB2 := Lib.hid (HB1.out.trans (hB2.mono hz1))
  clear hB2 hs2
  go_upto_region 5 with (first | (go_at_call 17; go_must (refine (refTurns_seen n ao np nc D l _ HL.out (HS.out.below HB2.out) hm HE.out HLL.out HM.out).mono ?_; rintro e w3 ⟨ao3, c3, rfl, hs3, hB3⟩)))
  have HS3 := Lib.hid hs3
  have HS2' := Lib.hid (HS2.out.below hB3)
  have HO3 := Lib.hid (HO2.out.below hB3)
  have HB3 := Lib.hid (HB2.out.trans (hB3.mono (Nat.le_trans hz1 hz2)))
  clear hB3 hs3
  go_wp2_with (first
    | (go_at_call 18; go_must (refine (SameInts_yes ao2 ao3 m c2 c3 L _ HM.out HS2'.out HS3.out hm2).mono ?_; rintro e w4 ⟨rfl, d4, rfl⟩))
    | (go_at_call 14; go_must (refine (whole_any g cap w.heap.size ao np nc l _ HL.out (HO3.out.below (Below.drewK (Below.refl w3.heap.size w3) d4)) (HS.out.below (Below.drewK HB3.out d4)) hm).mono ?_; rintro e w5 ⟨rfl, d5, rfl⟩)))
  exact Below.drewK HB3.out (d4 + d5)
end Go.Proofs.Ytaiinkeendejdaa
namespace Go.Proofs.Ytaiinkeendejdaa
open Go.RowKit Go.Conc Go.ConcR.Gen Go.ConcN.Gen
open Go.ConcN (sumTo upd sumTo_upd upd_ne upd_same WgLive)
set_option maxRecDepth 100000
theorem turns_lone : codeC (opW Try.prog (fun f => lones.contains f) (bare 0)) restTurns = true := by kernel_rfl
theorem nm_awake : ((Try.f9).name == "runtime.NumGoroutine") = false := by kernel_rfl
theorem inits_turns : Try.prog.inits.idxOf? 4 = none := by kernel_rfl
theorem cells_of_cell {w : World} {a : Addr} {x : Value} (h : w.cell? a = some x) : ∃ c t f, w.heap[a.block]? = some (.cells c t f) := by
  unfold World.cell? at h
  cases e : w.heap[a.block]? with
  | none => rw [e] at h; cases h
  | some o =>
    rw [e] at h
    cases o <;> first | exact ⟨_, _, _, rfl⟩ | cases h
section
variable {Post : Value → World → Prop}
theorem turns_ends {W : World} {n D : Int} {ao : Option Addr} {np nc : Nat} {l : List Int} (hl : l.length = np) (hs : Sees W ao l) (hn : ao = none → nc = 0) (hb : np * 8 ≤ 140737488355000) (h64 : ∀ x ∈ l, -9223372036854775808 ≤ x ∧ x ≤ 9223372036854775807)
    (fin : ∀ w, Kept W w → Post (.bool true) w) : Ends Try.prog Post (solo (G (Frame.enter Try.prog 4 #[.int .i64 n, .slice ao np nc, .int .i64 D] .normal) []) W) #[] := by
  refine ends_of_at (ty := 64) (Z := oddZ W) (fun _ => oddZ_low) even_odd ?_
  have hrest := @turns_rest
  have lrest := turns_lone
  simp only [restTurns, bodyTurns, Try.f4, Option.getD_some] at hrest lrest
  rw [enter_at _ Try.func4 rfl]
  walk_nrmf Try.f4
  have K0 := Ends0.start W
  have hear0 : (Bd.start (oddZ W) W).ear = true := rfl
  have hwt0 : (Bd.start (oddZ W) W).wait = none := rfl
  have hs0 : Sees (startV W) ao l := by
    obtain ⟨b, o, h1, h2⟩ := hs
    refine ⟨b, o, h1, fun j hj => ?_⟩
    have h3 := h2 j hj
    obtain ⟨c, t, f, hc⟩ := cells_of_cell h3
    exact (World.cell?_of_block (a := ⟨b, o + j, none⟩) ((startV_cells hc).trans hc.symm)).trans h3
  generalize hb0 : Bd.start (oddZ W) W = b0 at K0 hear0 hwt0
  obtain ⟨v0, hv0⟩ : ∃ v0, v0 = startV W := ⟨_, rfl⟩
  rw [← hv0] at K0 hs0
  have hF : Off b0.shun W W := Off.refl _ _
  refine At.goes0 (n := 10) ?_
  u_c stepG_seq ro_off2 hF
  u_reg ro_off2 hF
  u_op ro_off2 hF
  u_c stepG_region_end ro_off2 hF
  u_c stepG_seq ro_off2 hF
  u_reg ro_off2 hF
  refine Goes.stop (fun wA q => ?_)
  replace hF := ro_off2 hF q
  clear q
  refine At.list rfl (fun wB q => ⟨_, #[], stepG_call rfl rfl (by decide) rfl Try.func9 nm_awake rfl, by simp, ?_⟩)
  replace hF := ro_off2 hF q
  clear q
  walk_nrm
  refine awake_whole (v := v0) hear0 hwt0 (hF.sim K0.sim) K0.even K0.tidy (fun b' v' w' S => ?_)
  have K1 := K0.still S
  have hs1 : Sees v' ao l := by
    obtain ⟨b, o, h1, h2⟩ := hs0
    exact ⟨b, o, h1, fun j hj => (World.cell?_of_block (a := ⟨b, o + j, none⟩) (S.same b (block_lt_of_cell (h2 j hj)))).trans (h2 j hj)⟩
  rw [Frame.finish_at]
  walk_nrm
  have hF : Off b'.shun w' w' := Off.refl _ _
  refine At.goes0 (n := 20) ?_
  u_op ro_off2 hF
  u_c stepG_region_end ro_off2 hF
  refine Goes.stop (fun wC q => ?_)
  replace hF := ro_off2 hF q
  clear q
  refine At.rest (M := bare) (R := fun a' w' => a'.tmps.getD 6 undef = .bool true ∧ v'.heap.size ≤ w'.heap.size ∧ ∀ x, x < v'.heap.size → w'.heap[x]? = v'.heap[x]?) lones_fun ⟨_, Try.func4⟩ lrest (slots_of fun x hx => .any _) K1.even (hF.sim K1.sim) (fun T => ?_) (fun t' v2' T d w2' todo _ he2' hR hs2' => ?_)
  · refine Code.wp_mono ?_ (hrest (w := onT v' T 0) hl hs1 hn hb h64)
    rintro e a' w'' ⟨k1, k2, k3⟩
    exact ⟨k1, k2, k3.size, k3.block⟩
  obtain ⟨k2, k3, k4⟩ := hR
  have k2 : t'.getD 6 undef = .bool true := k2
  have K2 := K1.piece (v' := v2') (w' := w2') k3 k4 hs2' he2'
  refine At.finish (r := 6) (K2.grew.ear) (fun i => ?_) inits_turns rfl rfl Try.func4 rfl fun w₁ o k => ?_
  · rw [K2.grew.role]; rfl
  · show Post (t'.getD 6 undef) w₁
    rw [k2]
    exact fin w₁ (K2.kept o k)
end
end Go.Proofs.Ytaiinkeendejdaa
