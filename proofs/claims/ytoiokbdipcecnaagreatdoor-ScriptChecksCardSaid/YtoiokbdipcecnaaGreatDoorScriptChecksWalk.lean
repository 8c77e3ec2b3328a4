/-
  quash/quashlaw23.ScriptChecks answers true, whatever the script. Condition: the library's variables (Env).
-/
import Derived.Test.YtoiokbdipcecnaaGreatDoorScrAwake
import Derived.Test.YtoiokbdipcecnaaGreatDoorOpenS
namespace Go.Proofs.YtoiokbdipcecnaaGreatDoor
open Go.RowKit
set_option maxRecDepth 100000
set_option maxHeartbeats 2000000 in
theorem ScriptChecks_any (x : SV) (w : World) (he : Env w) (h : x.Sees w) (_hi : x.In) : Calls Tryz.prog 4 #[x.v] w fun e w' => e = .returned (.bool true) ∧ Below w.heap.size w w' := by
  have hc := fun W (hb : Below w.heap.size w W) => scrCheck_any x W (h.below hb)
  have hr := fun W (hb : Below w.heap.size w W) => refScrCheck_any x W (h.below hb)
  generalize x.check = K at hc hr
  unfold SV.v at hc hr ⊢
  generalize x.c.getD 0 0 = c0 at *
  generalize x.c.getD 1 0 = c1 at *
  generalize x.c.getD 2 0 = c2 at *
  generalize x.c.getD 3 0 = c3 at *
  generalize x.c.getD 4 0 = c4 at *
  generalize x.c.getD 5 0 = c5 at *
  generalize x.s.length = ns at *
  generalize x.P.length = np at *
  generalize x.k.length = nk at *
  have HC := Lib.hid hc
  have HR := Lib.hid hr
  have HE := Lib.hid he
  clear hc hr he h
  go_enter Tryz.func4, Tryz.ntmps4
  go_upto_region 2 with (go_at_call 8; go_must (refine (awake23_any _ (HE.out.below ((Below.refl _ _).alloc (Nat.le_refl _) _))).mono ?_; rintro e w1 ⟨rfl, hb1⟩))
  have q1 := (hb1.block _ (by simp)).trans (heap_new w _ w.heap.size rfl)
  have HB1 := Lib.hid (((Below.refl _ _).alloc (Nat.le_refl _) _).trans (hb1.mono (by simp)) : Below w.heap.size w w1)
  have Q1 := Lib.hid q1
  have k0 := cell_of_row _ _ 0 _ _ _ q1
  have k1 := cell_of_row _ _ 1 _ _ _ q1
  have k2 := cell_of_row _ _ 2 _ _ _ q1
  have k3 := cell_of_row _ _ 3 _ _ _ q1
  have k4 := cell_of_row _ _ 4 _ _ _ q1
  have k5 := cell_of_row _ _ 5 _ _ _ q1
  have k6 := cell_of_row _ _ 6 _ _ _ q1
  have k7 := cell_of_row _ _ 7 _ _ _ q1
  have k8 := cell_of_row _ _ 8 _ _ _ q1
  have k9 := cell_of_row _ _ 9 _ _ _ q1
  have hlw : w.heap.size < w1.heap.size := lt_of_block q1
  clear hb1 q1
  go_upto_region 3 with (go_at_call 9; go_must (refine (HC.out _ HB1.out).mono ?_; rintro e w2 ⟨rfl, hb2⟩))
  have HB2 := Lib.hid (HB1.out.trans (hb2.mono HB1.out.size))
  have q2 := (hb2.block _ hlw).trans Q1.out
  clear k0 k1 k2 k3 k4 k5 k6 k7 k8 k9
  have k0 := cell_of_row _ _ 0 _ _ _ q2
  have k1 := cell_of_row _ _ 1 _ _ _ q2
  have k2 := cell_of_row _ _ 2 _ _ _ q2
  have k3 := cell_of_row _ _ 3 _ _ _ q2
  have k4 := cell_of_row _ _ 4 _ _ _ q2
  have k5 := cell_of_row _ _ 5 _ _ _ q2
  have k6 := cell_of_row _ _ 6 _ _ _ q2
  have k7 := cell_of_row _ _ 7 _ _ _ q2
  have k8 := cell_of_row _ _ 8 _ _ _ q2
  have k9 := cell_of_row _ _ 9 _ _ _ q2
  clear hb2 q2
  go_wp2_with (go_at_call 10; go_must (refine (HR.out _ HB2.out).mono ?_; rintro e w3 ⟨rfl, hb3⟩; have HB3 := Lib.hid (HB2.out.trans (hb3.mono HB2.out.size)); clear hb3))
  go_ret
  exact ⟨by simp, HB3.out⟩
open Go.ChangeShapes Go.WideShapes Go.ChangeAt in
theorem scriptChecks_law {H : Type} (enc : TypeId × Value → H) {W : World} {base : Nat} {args : Array Value} {ds gs : List (DataW H)} {before : List MemPlace}
    (hval : ∀ (j : Nat) t v, Tryz.f4.params[j]? = some t → args[j]? = some v → Value.okWide Tryz.prog W .any base t v)
    (hW : DataW.Whole enc Tryz.prog Tryz.f4.params.toList Rows.scriptChecksSpec.vars false W args.toList ds gs before)
    (_hreach : (DataW.weightsEach Tryz.prog (Tryz.f4.params.toList ++ (OpenSpec.ofChange Rows.scriptChecksSpec).bare.plain.varTypes Tryz.prog) (ds ++ gs)).all (· ≤ reachBytes) = true) (he : Env W) :
    Calls Tryz.prog 4 args W fun e W' => ∃ v, e = .returned v ∧ Rows.scriptChecksSpec.post enc Tryz.prog Tryz.f4 false true false false W args v W' := by
  have hW' := hW
  obtain ⟨p, q, hA0, hV, rfl, hfz, hnd⟩ := hW
  have hA : DataW.TrodAll enc Tryz.prog W 0 (fun _ => true) true Tryz.f4.params.toList args.toList ds p := hA0
  rw [Tryz.params4] at hA hval
  obtain ⟨v0, d0, rfl, rfl, h0⟩ := trodAll_one hA
  obtain ⟨x, rfl, hs, hi⟩ := script_open (hval 0 _ _ rfl rfl) h0
  exact (ScriptChecks_any x W he hs hi).mono fun e w' ⟨h1, h2⟩ => ⟨_, h1, law_post laidOut hW' rfl rfl rfl Tryz.underlying4 (by kernel_rfl) h2⟩
end Go.Proofs.YtoiokbdipcecnaaGreatDoor
