/-
  quash/quashlaw19.DictDoes answers true. Condition: the library's variables (Env), what the reading gives of the slice.
-/
import Derived.Test.YtochpdailleilaaGreatDoorDictAwake
import Derived.Test.YtochpdailleilaaGreatDoorDictSame
import Derived.Test.YtochpdailleilaaGreatDoorDictRefDo
import Derived.Deep.RegionWith
import Derived.Deep.DeepCutAuto
import Derived.Deep.RegionHeld3
namespace Go.Proofs.YtochpdailleilaaGreatDoor
open Go.RowKit
set_option maxRecDepth 100000

theorem lessMore_length (l : List (Int × Int)) (x : Int) : (lessE l x ++ moreE l x).length ≤ l.length := by
  have h := putE_length l (x, 0)
  unfold putE at h
  simp only [List.length_append, List.length_cons] at h ⊢
  omega
theorem deedE_lens (l : List (Int × Int)) (n op x y : Int) : (deedE l n op x y).2.length ≤ 2 ∧ (deedE l n op x y).1.length ≤ l.length + 1 := by
  have h0 := lessMore_length l x
  have h1 := fun v => putE_length l (x, v)
  unfold deedE
  repeat' split
  all_goals first
    | (refine ⟨by simp, ?_⟩; first | exact h1 _ | (show (lessE l x ++ moreE l x).length ≤ _; omega) | simp)
theorem doE_lens (l : List (Int × Int)) (n op a b x y : Int) : (doE l n op a b x y).2.1.length ≤ 2 ∧ (doE l n op a b x y).1.length ≤ l.length + 1 := by
  unfold doE
  split
  · exact deedE_lens l n op x y
  · simp
theorem Own.sees' {w : World} {B n c : Nat} {ao : Option Addr} {zs : List Int} (h : Own w B (.slice ao n c) zs) : Sees w ao zs := by
  rcases h.form with ⟨_, rfl⟩ | ⟨g, cap, h1, h2⟩
  · exact Sees.nil _ _
  · injection h1 with h3 _ _
    subst h3
    exact h2.sees
set_option maxHeartbeats 4000000 in
theorem DictDoes_any (ao : Option Addr) (c : Nat) (zs : List (Int × Int)) (n op a b x y : Int) (w : World) (he : Env w) (hs0 : SeesP w ao zs) (hnil : ao = none → c = 0) (hlc : zs.length ≤ c) (hcm : c ≤ maxLen) (hlen : zs.length * 16 ≤ 140737488351232) :
    Calls Tryz.prog 5 #[.slice ao zs.length c, .int .i64 n, .agg #[.int .i64 op, .int .i64 a, .int .i64 b, .int .i64 x, .int .i64 y]] w fun e w' => e = .returned (.bool true) ∧ Below w.heap.size w w' := by
  obtain ⟨N, hN⟩ : ∃ N, N = zs.length := ⟨_, rfl⟩
  have HN := Lib.hid hN
  have HC := Lib.hid hs0
  have HE := Lib.hid (fun W (hb : Below w.heap.size w W) => he.below hb)
  have HDO := Lib.hid (fun W ao' m c' (hm : zs.length = m) hf hs => Do_any ao' m c' zs n op a b x y W hm (by omega) hf hs)
  have HREF := Lib.hid (fun W ao' m c' (hm : zs.length = m) hf hc hs => refDo_any ao' m c' zs n op a b x y W hm hf hc hs)
  have HLEN := Lib.hid (doE_lens zs n op a b x y)
  clear he hs0
  rw [← hN] at hlen hlc
  rw [← hN]
  clear hN
  go_enter Tryz.func5, Tryz.ntmps5
  go_upto_region 3 with (go_at_call 9; go_must (refine (awake_any _ (HE.out _ ((Below.refl _ _).alloc (Nat.le_refl _) _))).mono ?_; rintro e w1 ⟨rfl, hb1⟩))
  have hB1 : Below w.heap.size w w1 := ((Below.refl _ _).alloc (Nat.le_refl _) _).trans (hb1.mono (by simp))
  have hd1 : w1.heap[w.heap.size]? = some (.cells #[.int .i64 op, .int .i64 a, .int .i64 b, .int .i64 x, .int .i64 y] 40) := (hb1.block _ (by simp)).trans (heap_new _ _ _ rfl)
  have hz1 : w.heap.size < w1.heap.size := lt_of_block hd1
  have HD1 := Lib.hid hd1
  have HS1 := Lib.hid (HC.out.below hB1)
  clear hb1 hd1
  go_upto_region 4 with (first | (at_builtin; refine wpList_appendE (OwnE.nil w1 w1.heap.size) (Nat.le_refl _) ao N c zs HN.out.symm HS1.out hnil (by rw [← HN.out]; simp; omega) rfl _ _ rfl rfl rfl ?_; intro v2 w2 hown2 hgrow2))
  rw [List.nil_append] at hown2
  have hB2 : Below w.heap.size w w2 := hB1.grown hgrow2 (by omega) (by intro k hk; cases hk)
  have hB12 : Below w1.heap.size w1 w2 := (Below.refl _ _).grown hgrow2 (Nat.le_refl _) (by intro k hk; cases hk)
  have hz2 : w1.heap.size ≤ w2.heap.size := hB12.size
  have HOWN2 := Lib.hid hown2
  have HB12 := Lib.hid hB12
  clear hown2 hgrow2 hB12
  go_upto_region 5 with (first | (at_builtin; refine wpList_appendE (HOWN2.out.below ((Below.refl _ _).alloc (Nat.le_refl _) _)) (by simp <;> omega) (some ⟨w2.heap.size, 0, none⟩) 2 2 [(-777, 0), (-777, 0)] rfl (seesP_two (heap_new _ _ _ rfl)) (fun h => by cases h) (by rw [← HN.out]; simp <;> omega) rfl _ _ rfl rfl rfl ?_; intro v3 w3 hown3 hgrow3))
  have hB13 : Below w1.heap.size w1 w3 := (HB12.out.alloc hz2 _).grown hgrow3 (by simp <;> omega) (fun k hk => own_ge HOWN2.out hk)
  obtain ⟨g, cap, rfl, hbal3⟩ := ownE_some hown3 (n := N + 2) (by rw [HN.out]; simp) (by omega)
  have hcap3 := hbal3.caps
  have hB3 : Below w.heap.size w w3 := hB1.trans (hB13.mono (by omega))
  have hd3 : w3.heap[w.heap.size]? = some (.cells #[.int .i64 op, .int .i64 a, .int .i64 b, .int .i64 x, .int .i64 y] 40) := (hB13.block _ hz1).trans HD1.out
  have hglt := hbal3.lt
  have hseeO : SeesP w3 (some ⟨g, 0, none⟩) zs := ⟨g, 0, fun _ => rfl, fun j x hj => by
    rw [Nat.zero_add]
    exact hbal3.cell j (by rw [List.getElem?_append_left (List.getElem?_eq_some_iff.1 hj).1]; exact hj)⟩
  have hmN : w3.cell? ⟨g, N * 2, none⟩ = some (.int .i64 (-777)) ∧ w3.cell? ⟨g, N * 2 + 1, none⟩ = some (.int .i64 0) := hbal3.cell N (x := (-777, 0)) (by rw [List.getElem?_append_right (by rw [← HN.out]; omega), ← HN.out]; simp)
  have hmM : w3.cell? ⟨g, (N + 1) * 2, none⟩ = some (.int .i64 (-777)) ∧ w3.cell? ⟨g, (N + 1) * 2 + 1, none⟩ = some (.int .i64 0) := hbal3.cell (N + 1) (x := (-777, 0)) (by rw [List.getElem?_append_right (by rw [← HN.out]; omega), ← HN.out]; simp)
  have hseeI : SeesP w3 ao zs := HC.out.below hB3
  have hcapA : N + 2 ≤ cap := by have := hcap3.1; rw [List.length_append, ← HN.out] at this; simpa using this
  have hcapB := hcap3.2
  unfold maxLen at hcapB
  have hglt3 : g < w3.heap.size := hglt.1
  have HG := Lib.hid hd3
  have HSO := Lib.hid hseeO
  have HSI := Lib.hid hseeI
  have HM0 := Lib.hid hmN
  have HM1 := Lib.hid hmM
  have HB3 := Lib.hid hB3
  have c0 : w3.cell? ⟨w.heap.size, 0, none⟩ = some (.int .i64 op) := cell_of_row _ _ 0 _ _ _ hd3
  have c1 : w3.cell? ⟨w.heap.size, 1, none⟩ = some (.int .i64 a) := cell_of_row _ _ 1 _ _ _ hd3
  have c2 : w3.cell? ⟨w.heap.size, 2, none⟩ = some (.int .i64 b) := cell_of_row _ _ 2 _ _ _ hd3
  have c3 : w3.cell? ⟨w.heap.size, 3, none⟩ = some (.int .i64 x) := cell_of_row _ _ 3 _ _ _ hd3
  have c4 : w3.cell? ⟨w.heap.size, 4, none⟩ = some (.int .i64 y) := cell_of_row _ _ 4 _ _ _ hd3
  clear hd3 hseeO hseeI hmN hmM hcap3 hown3 hgrow3 HOWN2 HB12 HS1 HD1 hB13 hbal3 hB1 hB2 hB3 hglt hz2
  generalize hok : (doE zs n op a b x y).2.2 = ok at HDO HREF
  clear hok
  generalize (doE zs n op a b x y).1 = D at HDO HREF HLEN
  generalize (doE zs n op a b x y).2.1 = T at HDO HREF HLEN
  obtain ⟨K, hK⟩ : ∃ K, K = D.length := ⟨_, rfl⟩
  obtain ⟨J, hJ⟩ : ∃ J, J = T.length := ⟨_, rfl⟩
  have HK := Lib.hid hK
  have HJ := Lib.hid hJ
  have hKle : K ≤ N + 1 := by have := HLEN.out.2; rw [← HK.out, ← HN.out] at this; exact this
  have hJle : J ≤ 2 := by have := HLEN.out.1; rw [← HJ.out] at this; exact this
  have hz3 := lt_of_block HG.out
  clear hK hJ
  obtain ⟨E, hE⟩ : ∃ E : Int, E = if ok then 0 else 190 := ⟨_, rfl⟩
  rw [← hE] at HDO
  have HCE := Lib.hid hE
  clear hE
  go_cut [9, 10, 11] (fun p q r wr => ∃ ao1 c1 ao2 c2, p = .slice ao1 K c1 ∧ q = .slice ao2 J c2 ∧ r = .int .i64 E ∧ OwnE wr w3.heap.size (.slice ao1 K c1) D ∧ Own wr w3.heap.size (.slice ao2 J c2) T ∧ (∀ g, ao1 = some g → ∀ h, ao2 = some h → g.block ≠ h.block) ∧ Below w3.heap.size w3 wr)
  case first =>
    have hi0 : (0 : Int) ≤ (N : Int) := by omega
    have hi1 : (N : Int) ≤ (cap : Int) := by omega
    have hi2 : N ≤ cap := by omega
    go_region_held3 (fun w' => w'.cell? ⟨w.heap.size, 0, none⟩ = some (.int .i64 op) ∧ w'.cell? ⟨w.heap.size, 1, none⟩ = some (.int .i64 a) ∧ w'.cell? ⟨w.heap.size, 2, none⟩ = some (.int .i64 b) ∧ w'.cell? ⟨w.heap.size, 3, none⟩ = some (.int .i64 x) ∧ w'.cell? ⟨w.heap.size, 4, none⟩ = some (.int .i64 y))
      (first | go_keep | exact ⟨below_cellK hB4 hz3 c0, below_cellK hB4 hz3 c1, below_cellK hB4 hz3 c2, below_cellK hB4 hz3 c3, below_cellK hB4 hz3 c4⟩)
      (first | (go_at_call 18; refine (HDO.out _ _ N cap HN.out.symm ⟨fun h => (by cases h), hi2⟩ (by exact HSO.out)).mono ?_; rintro e w4 ⟨v4, t4, rfl, hv4, ht4, hne4, hB4⟩))
    all_goals
      go_wp2_with fail
      go_meet
      obtain ⟨ao1, c1', rfl, _⟩ := hv4.slice
      obtain ⟨ao2, c2', rfl, _⟩ := ht4.slice
      rw [← HK.out] at hv4 hne4 ⊢
      rw [← HJ.out] at ht4 hne4 ⊢
      exact ⟨ao1, c1', ao2, c2', rfl, rfl, rfl, by exact hv4, by exact ht4, fun g1 h1 g2 h2 e => hne4 g1.block (by rw [h1]; rfl) (by rw [h2]; simp [Value.ownBlock, e]), ⟨hB4.os, hB4.tape, hB4.output, hB4.size, hB4.block⟩⟩
  case rest =>
    obtain ⟨ao1, c1', ao2, c2', rfl, rfl, rfl, hv4, ht4, hne4, hB4⟩ := hcut
    clear c0 c1 c2 c3 c4
    have hd4 := (hB4.block _ hz3).trans HG.out
    have c0 := cell_of_row _ _ 0 _ _ _ hd4
    have c1 := cell_of_row _ _ 1 _ _ _ hd4
    have c2 := cell_of_row _ _ 2 _ _ _ hd4
    have c3 := cell_of_row _ _ 3 _ _ _ hd4
    have c4 := cell_of_row _ _ 4 _ _ _ hd4
    have hzc : w3.heap.size ≤ wc.heap.size := hB4.size
    have HV4 := Lib.hid hv4
    have HT4 := Lib.hid ht4
    have HI4 := Lib.hid (HSI.out.below hB4)
    clear ht4 hv4
    have HFL := Lib.hid (show Flat ao N c from ⟨hnil, hlc⟩)
    have HCM := Lib.hid hcm
    clear hnil hlc hcm
    go_upto_region 9 with (first
      | (go_at_call 19; go_must (refine (HREF.out _ ao N c HN.out.symm HFL.out HCM.out HI4.out).mono ?_; rintro e w5 ⟨ao5, bo5, c5, d5, rfl, hs5, ht5, hB5⟩; rw [← HK.out, ← HJ.out]; have HS5 := Lib.hid hs5; have HT5 := Lib.hid ht5; clear hs5 ht5))
      | (go_at_call_of 13 (Value.slice ao1 K c1'); go_must (refine (sameE_len K _ _ _ _ D _ HK.out.symm (by exact HV4.out.sees.below hB5) (by exact HS5.out) (by unfold maxLen; omega)).mono ?_; rintro e w6 ⟨rfl, k6, rfl⟩))
      | (go_at_call_of 14 (Value.slice ao2 J c2'); go_must (refine (sameInts_len J _ _ _ _ T _ HJ.out.symm (by exact (HT4.out.sees'.below hB5).drewN k6) (by exact HT5.out.drewN k6) (by unfold maxLen; omega)).mono ?_; rintro e w7 ⟨rfl, k7, rfl⟩)))
    have hB5' : Below w3.heap.size w3 w5 := hB4.trans (hB5.mono hzc)
    have hv5 : OwnE w5 w3.heap.size (.slice ao1 K c1') D := HV4.out.below hB5
    clear hB5 hB4
    go_wp2
    go_loopw [17] (fun v wr => ∃ (k : Nat) (Ds : List (Int × Int)), k ≤ K ∧ v = .int .i64 k ∧ Ds.length = K ∧ OwnE wr w3.heap.size (.slice ao1 K c1') Ds ∧ Below w3.heap.size w3 wr) (fun v _ => K - (intOf v).toNat)
    case atStart => exact ⟨0, D, Nat.zero_le _, rfl, HK.out.symm, by exact hv5, ⟨hB5'.os, hB5'.tape, hB5'.output, hB5'.size, hB5'.block⟩⟩
    case round =>
      obtain ⟨k, Ds, hk, rfl, hDs, hbr, hBr⟩ := hrel
      by_cases hlt : k < K
      · obtain ⟨g4, cap4, e4, hbal⟩ := ownE_some hbr hDs (by omega)
        injection e4 with e5 _ e6
        subst e5; subst e6
        have hkl : k < Ds.length := by rw [hDs]; exact hlt
        obtain ⟨z, hz⟩ : ∃ z, Ds[k]? = some z := ⟨_, List.getElem?_eq_getElem (by rw [hDs]; exact hlt)⟩
        have hfk : wr.frozen? ⟨g4, k * 2, none⟩ = false := hbal.frozenAt _
        have hfk1 : wr.frozen? ⟨g4, k * 2 + 1, none⟩ = false := hbal.frozenAt _
        have hck := (hbal.cell k hz).1
        have hck1 := (hbal.cell k hz).2
        have HKL := Lib.hid hkl
        have HB := Lib.hid hbal
        have HDs := Lib.hid hDs
        clear hz hDs hbal hbr hkl
        go_wp2
        go_roundw
        case rel => exact ⟨k + 1, Ds.set k (-777, 0), by omega, by go_num, by rw [List.length_set]; exact HDs.out, (by have := (HB.out.set k (-777) 0 HKL.out).own; rw [List.length_set, HDs.out] at this; exact this), (hBr.setCell (p := ⟨g4, k * 2, none⟩) HB.out.lt.2 _).setCell (p := ⟨g4, k * 2 + 1, none⟩) HB.out.lt.2 _⟩
        case measure => simp [intOf]; omega
      · obtain rfl : k = K := by omega
        have hm0 := below_cellK hBr hglt3 HM0.out.1
        have hm0b := below_cellK hBr hglt3 HM0.out.2
        have hm1 := below_cellK hBr hglt3 HM1.out.1
        have hm1b := below_cellK hBr hglt3 HM1.out.2
        clear hDs
        go_wp2_with (first
          | (go_at_call 13; go_must (refine (sameE_len N _ _ _ _ zs _ HN.out.symm (by exact HSO.out.below hBr) (by exact HSI.out.below hBr) (by unfold maxLen; omega)).mono ?_; rintro e w8 ⟨rfl, k8, rfl⟩))
          | (go_at_call 20; go_must (refine (codeDict_any ok _).mono ?_; rintro e w9 ⟨rfl, rfl⟩; rw [← HCE.out])))
        go_ret
        have hBw := HB3.out.trans (hBr.mono HB3.out.size)
        exact ⟨rfl, ⟨hBw.os, hBw.tape, hBw.output, hBw.size, hBw.block⟩⟩
end Go.Proofs.YtochpdailleilaaGreatDoor
