/-
  quash/quashlaw19.DictReads answers true. Condition: the library's variables (Env), what the reading gives of the slices.
-/
import Derived.Test.YtochpdailleilaaGreatDoorDictCopied
import Derived.Test.YtochpdailleilaaGreatDoorDictLay
import Derived.Test.YtochpdailleilaaGreatDoorDictRefRead
import Derived.BigQuiet
namespace Go.Proofs.YtochpdailleilaaGreatDoor
open Go.RowKit
set_option maxRecDepth 100000

theorem refRead_all (ao : Option Addr) (m c : Nat) (zs : List Int) (base n : Int) (w : World) (hm : zs.length = m) (hlen : m ≤ maxLen) (hc : ao ≠ none → m ≤ c ∧ c ≤ maxLen) (hs : Sees w ao zs) :
    Calls Tryz.prog 12 #[.slice ao m c, .int .i64 base, .int .i64 n] w (RefEnts (dictS zs base n).1 (dictS zs base n).2 w) := by
  cases hf : fitB zs base n with
  | false =>
    subst hm
    unfold dictS
    rw [hf]
    exact refRead_nofit ao c zs base n w hlen hf
  | true =>
    obtain ⟨k, N, rfl, rfl, h1, h2, h3, _⟩ := fit_parts hf
    have hs' := hs
    obtain ⟨b, o, e, _⟩ := hs'
    have e := e (by intro e; subst e; simp at h3)
    subst e
    exact refRead_any b o m c zs k N w hm hlen (hc (by simp)).1 (hc (by simp)).2 hs
theorem dict_le (zs : List Int) (base n : Int) : (dictS zs base n).1.length ≤ 100 := by
  unfold dictS
  cases hf : fitB zs base n with
  | false => simp
  | true =>
    obtain ⟨k, N, rfl, rfl, h1, h2, h3, _⟩ := fit_parts hf
    simp only [if_true, Int.toNat_natCast]
    cases hg : entsZ zs k N with
    | none => simp
    | some l =>
      unfold entsZ readZ at hg
      split at hg
      · rename_i hc
        injection hg with hg
        subst hg
        have h4 := usedL_len (fun i => zs.getD (k + (1 + 3 * i)) 0) (fun i => zs.getD (k + (2 + 3 * i)) 0) (fun i => zs.getD (k + (3 + 3 * i)) 0) N
        have h5 := (sortE_perm (usedL_nodup (fun i => zs.getD (k + (3 + 3 * i)) 0) N hc.1)).length_eq
        simp only
        omega
      · cases hg
theorem Bal.flat {w : World} {B g cap : Nat} {zs : List Int} (h : Bal w B g cap zs) : zs.length ≤ cap ∧ cap ≤ maxLen := h.caps
theorem sees_far {w w' : World} {B : Nat} {ao : Option Addr} {zs : List Int} (h : Sees w ao zs) (hb : Below B w w') (hl : ∀ a, ao = some a → a.block < B) : Sees w' ao zs := by
  obtain ⟨b, o, h1, h2⟩ := h
  refine ⟨b, o, h1, fun j hj => (hb.cell (p := ⟨b, o + j, none⟩) (hl ⟨b, o, none⟩ (h1 (by intro e; subst e; simp at hj)))).trans (h2 j hj)⟩
set_option maxHeartbeats 4000000 in
theorem DictReads_any (ao : Option Addr) (c : Nat) (zs : List Int) (base n : Int) (bo : Option Addr) (d : Nat) (ls : List (Int × Int)) (seed at' x : Int) (w : World) (he : Env w) (hs0 : Sees w ao zs) (hcap : zs.length ≤ c) (hc63 : c ≤ maxLen) (hlen : zs.length * 8 ≤ 140737488351232) (hls : SeesP w bo ls) (hwf : Wf64 zs) (hi64 : In64 ls) (hxwf : (Lit.int .i64 x).wf = true) (_hll : ls.length ≤ maxLen)
    (hsd : -9223372036854775808 ≤ seed ∧ seed ≤ 9223372036854775807) (hat : -9223372036854775808 ≤ at' ∧ at' ≤ 9223372036854775807) :
    Calls Tryz.prog 4 #[.slice ao zs.length c, .int .i64 base, .int .i64 n, .slice bo ls.length d, .int .i64 seed, .int .i64 at', .int .i64 x] w fun e w' => e = .returned (.bool true) ∧ Below w.heap.size w w' := by
  unfold maxLen at _hll
  obtain ⟨N, hN⟩ : ∃ N, N = zs.length := ⟨_, rfl⟩
  obtain ⟨M, hM⟩ : ∃ M, M = ls.length := ⟨_, rfl⟩
  have HN := Lib.hid hN
  have HM := Lib.hid hM
  have HC := Lib.hid hs0
  have HL := Lib.hid hls
  have HE := Lib.hid he
  have HC63 := Lib.hid hc63
  have HWF := Lib.hid hwf
  have HI64 := Lib.hid hi64
  have HXWF := Lib.hid hxwf
  rw [← hN] at hlen hcap
  rw [← hM] at _hll
  rw [← hN, ← hM]
  have HLE := Lib.hid (dict_le zs base n)
  have HREF := Lib.hid (fun W (hs : Sees W ao zs) => refRead_all ao N c zs base n W HN.out.symm (by unfold maxLen; omega) (fun _ => ⟨hcap, HC63.out⟩) hs)
  have HRD := Lib.hid (fun W g (hs : Sees W (some ⟨g, 0, none⟩) zs) => Read_any g 0 N N zs base n W HN.out.symm (by unfold maxLen; omega) (Nat.le_refl _) (by unfold maxLen; omega) HWF.out hs)
  generalize (dictS zs base n).1 = D at HREF HRD HLE
  generalize (dictS zs base n).2 = E at HREF HRD
  obtain ⟨K, hK⟩ : ∃ K, K = D.length := ⟨_, rfl⟩
  have hK100 : K ≤ 100 := by rw [hK]; exact HLE.out
  have HK := Lib.hid hK
  have HSD := Lib.hid hsd
  have HAT := Lib.hid hat
  clear he hs0 hls hN hM hc63 hK hsd hat hwf hi64 hxwf
  go_enter Tryz.func4, Tryz.ntmps4
  go_upto_region 5 with (first
    | (go_at_call 9; go_must (refine (awake_any _ HE.out).mono ?_; rintro e w1 ⟨rfl, hB1⟩))
    | (go_at_call 10; go_must (refine (Copied_any ao N c zs _ HN.out.symm (by exact HC.out.below hB1) hlen).mono ?_; rintro e w2 ⟨g2, rfl, hbal2, hB2⟩))
    | (go_at_call 11; go_must (refine (HRD.out _ g2 (by exact hbal2.sees)).mono ?_; rintro e w3 ⟨v3, rfl, ho3, hB3⟩))
    | (go_at_call 12; go_must (refine (HREF.out _ (by exact ((HC.out.below hB1).below (hB2)).below hB3)).mono ?_; rintro e w4 ⟨ao4, c4, rfl, hs4, hB4⟩)))
  rw [← HK.out]
  obtain ⟨ao3, c3, rfl, -, -, -, -⟩ := ho3.slice
  rw [← HK.out] at ho3 ⊢
  have hB24 := hB3.trans (hB4.mono hB3.size)
  have hBw4 : Below w.heap.size w w4 := (hB1.trans (hB2.mono hB1.size)).trans (hB24.mono (hB1.trans (hB2.mono hB1.size)).size)
  have HA := Lib.hid (OwnE.sees (ho3.below hB4))
  have HW := Lib.hid hs4
  have HO := Lib.hid (hbal2.sees.below hB24)
  have HI := Lib.hid (HC.out.below hBw4)
  have HLS := Lib.hid (HL.out.below hBw4)
  have HBW := Lib.hid hBw4
  have hzw := hBw4.size
  clear hB1 hB2 hB3 hB4 hB24 hBw4 ho3 hs4 hbal2 HREF HRD
  go_upto_region 7 with (first
    | (go_at_call 13; go_must (refine (sameE_len K _ _ _ _ D _ HK.out.symm (by exact HA.out) (by exact HW.out) (by unfold maxLen; omega)).mono ?_; rintro e w5 ⟨rfl, k5, rfl⟩))
    | (go_at_call 14; go_must (refine (sameInts_len N _ _ _ _ zs _ HN.out.symm (by exact HO.out.drewN k5) (by exact HI.out.drewN k5) (by unfold maxLen; omega)).mono ?_; rintro e w6 ⟨rfl, k6, rfl⟩)))
  refine wp_gen (fun W => SeesP W bo ls ∧ Below w.heap.size w W) ⟨HLS.out, Below.drewK HBW.out _⟩ ?_
  rintro W ⟨hls5, hB5⟩
  have HLS5 := Lib.hid hls5
  have HB5 := Lib.hid hB5
  have hz5 := hB5.size
  clear HA HW HO HI HLS HBW hls5 hB5 hzw
  by_cases h0 : roomI n = 0
  · have HR := Lib.hid h0
    clear h0
    go_wp2_with (go_at_call 15; go_must (refine (refRoom_any n _).mono ?_; rintro e w3 ⟨rfl, rfl⟩; rw [HR.out]))
    go_ret
    exact ⟨rfl, HB5.out⟩
  · have hn := roomI_yes h0
    obtain ⟨P, rfl⟩ : ∃ P : Nat, n = P := ⟨n.toNat, by omega⟩
    have HR := Lib.hid hn.1
    have hP1 : 1 ≤ P := by omega
    have hP2 : P ≤ 60 := by omega
    have hn0 : (1 + 3 * (P : Int) == 0) = false := by simp; omega
    clear h0 hn
    by_cases hl : M ≤ P
    · have hl2 : decide (P < M) = false := by simp; omega
      have hl3 : ¬ (P : Int) < (M : Int) := by omega
      have HLAY := Lib.hid (fun W hs => Lay_any bo M d ls P seed W HM.out.symm hs HI64.out hP1 hP2 hl)
      go_upto_region 12 with (first
        | (go_at_call 15; go_must (refine (refRoom_any P _).mono ?_; rintro e w3 ⟨rfl, rfl⟩; rw [HR.out]))
        | (go_at_call 16; go_must (refine (HLAY.out _ (by exact HLS5.out)).mono ?_; rintro e w7 ⟨g7, Z0, rfl, hZ0, hbal7, hB7, hwf7⟩)))
      have hB7w := HB5.out.trans (hB7.mono hz5)
      have hg7 := hbal7.lt
      have hgw : w.heap.size ≤ g7 := by omega
      have hbal7' : Bal w7 w.heap.size g7 (1 + 3 * P) Z0 := by
        have := Own.lower (v := .slice (some ⟨g7, 0, none⟩) Z0.length (1 + 3 * P)) hbal7 hz5
        exact this
      have HWF7 := Lib.hid hwf7
      clear hbal7 hB7 hwf7 HLS5 HLAY HB5 hg7
      go_wp2
      go_loopw [24] (fun v wr => ∃ (k : Nat) (Z : List Int), k ≤ 2 ∧ v = .int .i64 k ∧ Z.length = 1 + 3 * P ∧ Wf64 Z ∧ Bal wr w.heap.size g7 (1 + 3 * P) Z ∧ Below w.heap.size w wr) (fun v _ => 2 - (intOf v).toNat)
      case atStart => exact ⟨0, Z0, by omega, rfl, hZ0, HWF7.out, hbal7', hB7w⟩
      case round =>
        obtain ⟨k, Z, hk, rfl, hZ, hwz, hb, hB⟩ := hrel
        by_cases hlt : k < 2
        · have hk2 : (k : Int) < 2 := by omega
          have HZ := Lib.hid hZ
          have HWZ := Lib.hid hwz
          have HB := Lib.hid hB
          have HBZ := Lib.hid hb
          have hzr := hB.size
          have HLE2 := Lib.hid (dict_le Z 0 P)
          have HREF := Lib.hid (fun W (hs : Sees W (some ⟨g7, 0, none⟩) Z) => refRead_any g7 0 (1 + 3 * P) (1 + 3 * P) Z 0 P W hZ (by unfold maxLen; omega) (Nat.le_refl _) (by unfold maxLen; omega) hs)
          have HRD := Lib.hid (fun W (hs : Sees W (some ⟨g7, 0, none⟩) Z) => Read_any g7 0 (1 + 3 * P) (1 + 3 * P) Z 0 P W hZ (by unfold maxLen; omega) (Nat.le_refl _) (by unfold maxLen; omega) HWZ.out hs)
          generalize (dictS Z 0 P).1 = D2 at HREF HRD HLE2
          generalize (dictS Z 0 P).2 = E2 at HREF HRD
          obtain ⟨J, hJ⟩ : ∃ J, J = D2.length := ⟨_, rfl⟩
          have hJ100 : J ≤ 100 := by rw [hJ]; exact HLE2.out
          have HJ := Lib.hid hJ
          clear hZ hwz hb hB hJ
          go_upto_region 18 with (first
            | (go_at_call 10; go_must (refine (Copied_any (some ⟨g7, 0, none⟩) (1 + 3 * P) (1 + 3 * P) Z _ HZ.out (by exact HBZ.out.sees) (by omega)).mono ?_; rintro e w8 ⟨g8, rfl, hbal8, hB8⟩))
            | (go_at_call 11; go_must (refine (HRD.out _ (by exact HBZ.out.sees.below hB8)).mono ?_; rintro e w9 ⟨v9, rfl, ho9, hB9⟩))
            | (go_at_call 12; go_must (refine (HREF.out _ (by exact (HBZ.out.sees.below hB8).below hB9)).mono ?_; rintro e wa ⟨aoa, ca, rfl, hsa, hBa⟩)))
          rw [← HJ.out]
          obtain ⟨ao9, c9, rfl, -, -, -, -⟩ := ho9.slice
          rw [← HJ.out] at ho9 ⊢
          have hg8 := hbal8.lt
          have hz8 := hB8.size
          have hz9 := hB9.size
          have hza := hBa.size
          have hBra : Below wr.heap.size wr wa := (hB8.trans (hB9.mono hz8)).trans (hBa.mono (by omega))
          have hBra8 : Below w8.heap.size w8 wa := hB9.trans (hBa.mono hz9)
          have HS8 := Lib.hid (hbal8.sees.below hBra8)
          have HOA := Lib.hid (ho9.below hBa)
          have HSA := Lib.hid hsa
          have HBA := Lib.hid (HBZ.out.below hBra)
          have HSO := Lib.hid ((HBZ.out.below hBra).sees)
          have HBW := Lib.hid (HB.out.trans (hBra.mono hzr))
          have HB8z := Lib.hid (show w.heap.size ≤ w8.heap.size by omega)
          have hg7 := HBZ.out.lt
          have hg7lt : g7 < w8.heap.size := by omega
          have hg8lt : g8 < w8.heap.size := hg8.1
          clear hbal8 hB8 hB9 hBa hBra hBra8 ho9 hsa HREF HRD HB HBZ hg8
          go_upto_region 19 with (first
            | (go_at_call 13; go_must (refine (sameE_len J _ _ _ _ D2 _ HJ.out.symm (by exact HOA.out.sees) (by exact HSA.out) (by unfold maxLen; omega)).mono ?_; rintro e wb ⟨rfl, kb, rfl⟩)))
          go_wp2
          go_loopw [31] (fun v wr' => ∃ (i : Nat) (Ds : List (Int × Int)), i ≤ J ∧ v = .int .i64 i ∧ Ds.length = J ∧ OwnE wr' w8.heap.size (.slice ao9 J c9) Ds ∧ Below w8.heap.size wa wr') (fun v _ => J - (intOf v).toNat)
          case atStart => exact ⟨0, D2, Nat.zero_le _, rfl, HJ.out.symm, by exact HOA.out, Below.drewK (Below.refl _ _) _⟩
          case round =>
            obtain ⟨i, Ds, hi, rfl, hDs, hbr, hBr⟩ := hrel
            by_cases hlt2 : i < J
            · obtain ⟨g4, cap4, e4, hbal⟩ := ownE_some hbr hDs (by omega)
              injection e4 with e5 e7 e6
              clear e7
              subst e5; subst e6
              have hil : i < Ds.length := by rw [hDs]; exact hlt2
              obtain ⟨z, hz⟩ : ∃ z, Ds[i]? = some z := ⟨_, List.getElem?_eq_getElem hil⟩
              have hck := (hbal.cell i hz).1
              have hck1 := (hbal.cell i hz).2
              have hfk : wr.frozen? ⟨g4, i * 2, none⟩ = false := hbal.frozenAt _
              have hfk1 : wr.frozen? ⟨g4, i * 2 + 1, none⟩ = false := hbal.frozenAt _
              have HIL := Lib.hid hil
              have HB := Lib.hid hbal
              have HDs := Lib.hid hDs
              clear hz hDs hbal hbr hil
              go_wp2
              go_roundw
              case rel => exact ⟨i + 1, Ds.set i (-777, 0), by omega, by go_num, by rw [List.length_set]; exact HDs.out, (by have := (HB.out.set i (-777) 0 HIL.out).own; rw [List.length_set, HDs.out] at this; exact this), (hBr.setCell (p := ⟨g4, i * 2, none⟩) HB.out.lt.2 _).setCell (p := ⟨g4, i * 2 + 1, none⟩) HB.out.lt.2 _⟩
              case measure => simp [intOf]; omega
            · obtain rfl : i = J := by omega
              have hbz : Bal wr w.heap.size g7 (1 + 3 * P) Z := ownsRow_at HBA.out (fun g hg => by
                have : g7 = g := by simpa [Value.ownBlock] using hg
                subst this
                exact hBr.block g7 hg7lt)
              have hs8 : Sees wr (some ⟨g8, 0, none⟩) Z := sees_far HS8.out hBr (fun a ha => by injection ha with ha; subst ha; exact hg8lt)
              have hBf := HBW.out.trans (hBr.mono (by have := HB8z.out; omega))
              have HBZ := Lib.hid hbz
              have HS := Lib.hid hs8
              have HBF := Lib.hid hBf
              clear hbz hs8 hBf hDs hbr hBr
              go_wp2_with (first
                | (go_at_call 14; go_must (refine (sameInts_len (1 + 3 * P) _ _ _ _ Z _ HZ.out (by exact HBZ.out.sees) (by exact HS.out) (by unfold maxLen; omega)).mono ?_; rintro e wc ⟨rfl, kc, rfl⟩))
                | (go_at_call 17; go_must (refine (pick_any at' (1 + 3 * P) _ (by omega) (by omega) HAT.out.1 HAT.out.2).mono ?_; rintro e wd ⟨⟨r, rfl, hr⟩, rfl⟩; obtain ⟨zr, hzr'⟩ : ∃ z, Z[r]? = some z := ⟨_, List.getElem?_eq_getElem (by rw [HZ.out]; exact hr)⟩; have hcr := HBZ.out.cell r hzr'; have hfr : wr.frozen? ⟨g7, r, none⟩ = false := HBZ.out.frozenAt r; clear hzr')))
              go_roundw
              case rel => exact ⟨k + 1, Z.set r x, by omega, by go_num, by rw [List.length_set]; exact HZ.out, HWZ.out.set r HXWF.out, by exact HBZ.out.set r x, by exact (Below.drewK HBF.out kc).setCell (p := ⟨g7, r, none⟩) hgw _⟩
              case measure => simp [intOf]; omega
        · obtain rfl : k = 2 := by omega
          go_wp2
          go_ret
          exact ⟨rfl, hB⟩
    · have hl2 : P < M := by omega
      have hl3 : (P : Int) < (M : Int) := by omega
      go_wp2_with (go_at_call 15; go_must (refine (refRoom_any P _).mono ?_; rintro e w3 ⟨rfl, rfl⟩; rw [HR.out]))
      go_ret
      exact ⟨rfl, HB5.out⟩
end Go.Proofs.YtochpdailleilaaGreatDoor
