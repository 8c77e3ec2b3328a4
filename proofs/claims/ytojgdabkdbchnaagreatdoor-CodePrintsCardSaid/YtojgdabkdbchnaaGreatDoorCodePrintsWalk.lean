/-
  quash/quashlaw15.CodePrints answers true. Condition: the library's variables (Env), what the reading gives of the slice.
-/
import Derived.Test.YtojgdabkdbchnaaGreatDoorCodeAwake15
import Derived.Test.YtojgdabkdbchnaaGreatDoorOpenP
import Derived.Test.YtojgdabkdbchnaaGreatDoorRefPrint15
namespace Go.Proofs.YtojgdabkdbchnaaGreatDoor
open Go.RowKit
set_option maxRecDepth 100000

set_option maxHeartbeats 4000000 in
theorem CodePrints_any (ao : Option Addr) (c : Nat) (l : List (Int × Int)) (w : World) (he : Env w) (hs : SeesP w ao l) (hnil : ao = none → c = 0) (hlen : l.length * 16 ≤ 140737488351232) (hi : InI l) :
    Calls Tryz.prog 4 #[.slice ao l.length c] w fun e w' => e = .returned (.bool true) ∧ Below w.heap.size w w' := by
  obtain ⟨N, hN⟩ : ∃ N, N = l.length := ⟨_, rfl⟩
  have HN := Lib.hid hN
  have HS := Lib.hid hs
  have HE := Lib.hid he
  have HLENT := Lib.hid (fun W (h : SeesP W ao l) => lent_any ao N c l W HN.out.symm h hnil (by rw [HN.out]; omega))
  have HREF := Lib.hid (fun W (h : SeesP W ao l) => refPrint_any ao N c l W HN.out.symm h (by unfold maxLen; rw [HN.out]; omega) hi)
  have HVER := Lib.hid (fun W g cp (hE : Env W) (h : SeesP W (some ⟨g, 0, none⟩) l) => Print_any (some ⟨g, 0, none⟩) N cp l W hE HN.out.symm h (by unfold maxLen; rw [HN.out]; omega) hi)
  rw [← hN] at hlen
  rw [← hN]
  generalize (if (checkL l).1 = 0 then S (printL l) else ⟨#[]⟩) = r1 at HREF HVER
  generalize (checkL l).1 = r2 at HREF HVER
  clear he hs hN
  go_enter Tryz.func4, Tryz.ntmps4
  go_upto_region 3 with (first
    | (go_at_call 7; go_must (refine (awake15_any _ HE.out).mono ?_; rintro e w1 ⟨rfl, hb1⟩))
    | (go_at_call 8; go_must (refine (HLENT.out _ (by exact HS.out.below hb1)).mono ?_; rintro e w2 ⟨v2, rfl, ho2, hb2⟩)))
  obtain ⟨g, cp, rfl, hs2, hs3, hcp1, hcp2⟩ := ho2.take (by simp [spareP])
  have hlk : (l ++ spareP).length = N + 3 := by rw [List.length_append, HN.out]; rfl
  rw [hlk] at hcp1 ⊢
  have hB2 := hb1.trans (hb2.mono hb1.size)
  have HS2 := Lib.hid hs2
  have HS3 := Lib.hid hs3
  have HB2 := Lib.hid hB2
  have HLK := Lib.hid hlk
  unfold maxLen at hcp2
  have hi1 : (N : Int) ≤ (cp : Int) := by omega
  have hi2 : N ≤ cp := by omega
  clear hb1 hb2 ho2 hs2 hs3 hB2 hlk
  go_wp2_with (first
    | (go_at_call 12; go_must (refine (HVER.out _ g cp (HE.out.below HB2.out) (by exact HS2.out)).mono ?_; rintro e w3 ⟨rfl, hb3⟩; have hB3 := HB2.out.trans (hb3.mono HB2.out.size)))
    | (go_at_call 13; go_must (refine (HREF.out _ (by exact HS.out.below hB3)).mono ?_; rintro e w4 ⟨rfl, hb4⟩; have hB4 := hB3.trans (hb4.mono hB3.size)))
    | (go_at_call 8; go_must (refine (HLENT.out _ (by exact HS.out.below hB4)).mono ?_; rintro e w5 ⟨v5, rfl, ho5, hb5⟩; obtain ⟨g5, cp5, rfl, hs5, hs6, -, -⟩ := ho5.take (by simp [spareP]); rw [HLK.out]; have HS6 := Lib.hid hs6; clear ho5 hs5 hs6))
    | (go_at_call 11; go_must (refine (same_any _ _ (N + 3) (N + 3) _ _ (l ++ spareP) (l ++ spareP) _ HLK.out HLK.out (by exact ((HS3.out.below hb3).below hb4).below hb5) (by exact HS6.out) (by unfold maxLen; omega) (by unfold maxLen; omega)).mono ?_; rintro e w6 ⟨rfl, k6, rfl⟩; rw [decide_eq_true (rfl : l ++ spareP = l ++ spareP)])))
  go_ret
  have hz4 := hB4.size
  have hB5 := hB4.trans (hb5.mono hz4)
  exact ⟨rfl, ⟨hB5.os, hB5.tape, hB5.output, hB5.size, hB5.block⟩⟩
end Go.Proofs.YtojgdabkdbchnaaGreatDoor
