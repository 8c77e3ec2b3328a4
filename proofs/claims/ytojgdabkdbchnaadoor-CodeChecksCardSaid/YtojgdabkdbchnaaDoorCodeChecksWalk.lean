/-
  quash/quashlaw15.CodeChecks answers true. Condition: the library's variables (Env), what the reading gives of the slice.
-/
import Derived.Test.YtojgdabkdbchnaaDoorCodeAwake15
import Derived.Test.YtojgdabkdbchnaaDoorOpenP
namespace Go.Proofs.YtojgdabkdbchnaaDoor
open Go.RowKit
set_option maxRecDepth 100000

theorem OwnP.take {w : World} {B : Nat} {v : Value} {l k : List (Int × Int)} (h : OwnP w B v (l ++ k)) (h0 : 0 < (l ++ k).length) : ∃ g c, v = .slice (some ⟨g, 0, none⟩) (l ++ k).length c ∧ SeesP w (some ⟨g, 0, none⟩) l ∧ SeesP w (some ⟨g, 0, none⟩) (l ++ k) ∧ (l ++ k).length ≤ c ∧ c ≤ maxLen := by
  obtain ⟨g, c, hv⟩ := Joins.ownsRow_form h h0
  subst hv
  obtain ⟨ao, c', e, hs, _⟩ := OwnP.slice h
  injection e with e1 e2 e3
  subst e1
  refine ⟨g, c, rfl, ?_, hs, ?_⟩
  · have := hs.take l.length
    rwa [List.take_left] at this
  · obtain ⟨_, h | ⟨_, _, _, hv, _, _, h1, h2, _⟩⟩ := h
    · cases h.1
    · injection hv with _ _ h3; subst h3; exact ⟨h1, h2⟩
set_option maxHeartbeats 4000000 in
theorem CodeChecks_any (ao : Option Addr) (c : Nat) (l : List (Int × Int)) (op : Int) (w : World) (he : Env w) (hs : SeesP w ao l) (hnil : ao = none → c = 0) (hlen : l.length * 16 ≤ 140737488351232) :
    Calls Tryd.prog 4 #[.slice ao l.length c, .int .i64 op] w fun e w' => e = .returned (.bool true) ∧ Below w.heap.size w w' := by
  obtain ⟨N, hN⟩ : ∃ N, N = l.length := ⟨_, rfl⟩
  have HN := Lib.hid hN
  have HS := Lib.hid hs
  have HE := Lib.hid he
  have HLENT := Lib.hid (fun W (h : SeesP W ao l) => lent_any ao N c l W HN.out.symm h hnil (by rw [HN.out]; omega))
  have HREF := Lib.hid (fun W (h : SeesP W ao l) => refCheck_any ao N c l W HN.out.symm h (by unfold maxLen; rw [HN.out]; omega))
  have HCHK := Lib.hid (fun W g cp (h : SeesP W (some ⟨g, 0, none⟩) l) => Check_all (some ⟨g, 0, none⟩) N cp l W HN.out.symm h (by unfold maxLen; rw [HN.out]; omega))
  rw [← hN] at hlen
  rw [← hN]
  generalize checkL l = R at HREF HCHK
  obtain ⟨r1, r2⟩ := R
  clear he hs hN
  go_enter Tryd.func4, Tryd.ntmps4
  go_upto_region 3 with (first
    | (go_at_call 8; go_must (refine (awake15_any _ HE.out).mono ?_; rintro e w1 ⟨rfl, hb1⟩))
    | (go_at_call 9; go_must (refine (HLENT.out _ (by exact HS.out.below hb1)).mono ?_; rintro e w2 ⟨v2, rfl, ho2, hb2⟩)))
  obtain ⟨g, cp, rfl, hs2, hs3, hcp1, hcp2⟩ := ho2.take (by simp [spareP])
  have hlk : (l ++ spareP).length = N + 3 := by rw [List.length_append, HN.out]; rfl
  rw [hlk] at hcp1 ⊢
  have hB2 := hb1.trans (hb2.mono hb1.size)
  have HS2 := Lib.hid hs2
  have HS3 := Lib.hid hs3
  have HB2 := Lib.hid hB2
  have HLK := Lib.hid hlk
  unfold maxLen at hcp2
  have hi1 : (N : Int) ≤ (cp : Int) := by omega
  have hi2 : N ≤ cp := by omega
  clear hb1 hb2 ho2 hs2 hs3 hB2 hlk
  go_wp2_with (first
    | (go_at_call 10; go_must (refine (HCHK.out _ g cp (by exact HS2.out)).mono ?_; rintro e w3 ⟨rfl, hb3⟩; have hB3 := HB2.out.trans (hb3.mono HB2.out.size)))
    | (go_at_call 11; go_must (refine (HREF.out _ (by exact HS.out.below hB3)).mono ?_; rintro e w4 ⟨rfl, rfl⟩))
    | (go_at_call 9; go_must (refine (HLENT.out _ (by exact HS.out.below hB3)).mono ?_; rintro e w5 ⟨v5, rfl, ho5, hb5⟩; obtain ⟨g5, cp5, rfl, hs5, hs6, -, -⟩ := ho5.take (by simp [spareP]); rw [HLK.out]; have HS6 := Lib.hid hs6; clear ho5 hs5 hs6))
    | (go_at_call 12; go_must (refine (same_any _ _ (N + 3) (N + 3) _ _ (l ++ spareP) (l ++ spareP) _ HLK.out HLK.out (by exact (HS3.out.below hb3).below hb5) (by exact HS6.out) (by unfold maxLen; omega) (by unfold maxLen; omega)).mono ?_; rintro e w6 ⟨rfl, k6, rfl⟩; rw [decide_eq_true (rfl : l ++ spareP = l ++ spareP)]))
    | (go_at_call 13; go_must (refine (Name_any op _).mono ?_; rintro e w7 ⟨rfl, hb7⟩))
    | (go_at_call 14; go_must (refine (refWord_any op _).mono ?_; rintro e w8 ⟨rfl, hb8⟩))
    | (go_at_call 15; go_must (refine (Takes_any op _).mono ?_; rintro e w9 ⟨rfl, hb9⟩))
    | (go_at_call 16; go_must (refine (refTakes_any op _).mono ?_; rintro e wa ⟨rfl, rfl⟩)))
  go_ret
  have hz3 := hB3.size
  have hB5 := hB3.trans (hb5.mono hz3)
  have hB6 : Below w.heap.size w (w5.drewN k6) := ⟨hB5.os, hB5.tape, hB5.output, hB5.size, hB5.block⟩
  have hB7 := hB6.trans (hb7.mono hB6.size)
  have hB8 := hB7.trans (hb8.mono hB7.size)
  exact ⟨rfl, hB8.trans (hb9.mono hB8.size)⟩
end Go.Proofs.YtojgdabkdbchnaaDoor
