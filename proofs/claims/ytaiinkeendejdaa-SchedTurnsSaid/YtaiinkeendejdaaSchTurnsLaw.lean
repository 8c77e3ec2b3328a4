/-
  THE LAW SchedTurns: for every input it answers true and leaves its arguments as they were.
-/
import Derived.Test.YtaiinkeendejdaaSchFrame
import Derived.Test.YtaiinkeendejdaaSchLawT2
namespace Go.Proofs.Ytaiinkeendejdaa.lawSchedTurns
open Go.ChangeShapes Go.WideShapes Go.ChangeAt Go.RowKit
set_option maxRecDepth 100000
theorem lifted (os : Os) (started : os.Started) (H : Type) (enc : TypeId × Value → H) :
    ReturnsInLeavingWide {} Try.checked os 4 .any (Rows.schedTurnsSpec.pre6 enc Try.prog Try.f4 Rows.schedTurnsRow.domain false) (Rows.schedTurnsSpec.post enc Try.prog Try.f4 false true false false) := by
  refine returnsInLeavingWide_of_change_sized (C := Try.checked) own started Try.func4
    (ChangeSpec.witness6 (enc := enc) (C := Try.checked) false ⟨#[], #[.int .i64 0, .slice none 0 0, .int .i64 0], []⟩ 8 (by kernel_rfl) (by kernel_rfl) (by kernel_rfl) (by kernel_rfl)) ?_
  intro W base args ds gs before hval0 hW _ hreach0 _
  have hreach : (DataW.weightsEach Try.prog (Try.f4.params.toList ++ (OpenSpec.ofChange Rows.schedTurnsSpec).bare.plain.varTypes Try.prog) (ds ++ gs)).all (· ≤ reachBytes) = true := hreach0
  have hval : ∀ (j : Nat) t v, Try.f4.params[j]? = some t → args[j]? = some v → Value.okWide Try.prog W .any base t v := hval0
  clear hreach0 hval0
  have hW' := hW
  obtain ⟨p, q, hA0, hV, rfl, hfz, hnd⟩ := hW
  have hA : DataW.TrodAll enc Try.prog W 0 (fun _ => true) true Try.f4.params.toList args.toList ds p := hA0
  rw [Try.params4] at hA hval
  obtain ⟨v0, v1, v2, d0, d1, d2, p0, p1, p2, rfl, rfl, rfl, h0, h1, h2⟩ := trodAll_three hA
  obtain ⟨n, rfl⟩ := okWide_int Try.underlying3 (hval 0 _ _ rfl rfl)
  obtain ⟨D, rfl⟩ := okWide_int Try.underlying3 (hval 2 _ _ rfl rfl)
  have hb : (Try.prog.bytesOf 3) = 8 := by kernel_rfl
  obtain ⟨ao, np, c, zs, rfl, hz, hn, hc, hm, h6⟩ : ∃ ao np c zs, v1 = .slice ao np c ∧ Sees W ao zs ∧ zs.length = np ∧ (ao = none → c = 0) ∧ np * 8 ≤ 140737488355000 ∧ ∀ z ∈ zs, -9223372036854775808 ≤ z ∧ z ≤ 9223372036854775807 := by
    rcases intsI_open (hval 1 _ _ rfl rfl) h1 with ⟨rfl, rfl⟩ | ⟨ad, c, zs, ys, rfl, hs, hzc, _, h6, hy, rfl⟩
    · exact ⟨none, 0, 0, [], rfl, Sees.nil _ _, rfl, fun _ => rfl, by omega, fun z hz => by cases hz⟩
    · have hr := sized_slice hreach (j := 1) (t := 23) (e := 3) rfl rfl Try.underlying23
      rw [hb] at hr
      simp only [lits, List.length_map, List.length_drop, reachBytes] at hr
      exact ⟨some ad, _, c, zs, rfl, hs, rfl, fun e => (by cases e), by omega, h6⟩
  exact turns_ends hn hz hc hm h6 fun w k => law_post laidOut hW' rfl rfl rfl Try.underlying4 (by kernel_rfl) k
theorem said : Rows.SchedTurnsSaid :=
  OpenClaim.holds_of_wide_leaving 4 Try.f4 rfl rfl rfl rfl rfl rfl rfl ⟨rfl, rfl, rfl, rfl, rfl⟩ rfl rfl rfl rfl rfl (by kernel_rfl) Try.func4 (by kernel_rfl)
    (of_decide_eq_true (by kernel_rfl)) (by unfold Func.isWrapper; first | (rw [if_pos (by decide +kernel)]; kernel_rfl) | (rw [if_neg (by decide +kernel)]; exact ⟨rfl, rfl⟩))
    (fun os started H enc _ => lifted os started H enc)
#print axioms said
end Go.Proofs.Ytaiinkeendejdaa.lawSchedTurns
