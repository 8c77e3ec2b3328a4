/-
  quash/quashlaw19.DictKeeps answers true. Condition: the library's variables (Env), what the reading gives of the slice.
-/
import Derived.Test.YtochpdailleilaaGreatDoorDictAwake
import Derived.Test.YtochpdailleilaaGreatDoorDictKeepsS
import Derived.BigQuiet
namespace Go.Proofs.YtochpdailleilaaGreatDoor
open Go.RowKit
set_option maxRecDepth 100000

theorem gave_of {zs : List (Int × Int)} {n op a b x y : Int} {D : List (Int × Int)} {T : List Int} {ok : Bool} {p q : Nat} {E : Int} (h : doE zs n op a b x y = (D, T, ok)) (hp : D.length = p) (hq : T.length = q) (hE : (if ok then (0 : Int) else 190) = E) (ao : Option Addr) (m c : Nat) (w : World) (hm : zs.length = m) (hbig : m ≤ 10000000000000) (hf : Flat ao m c) (hs : SeesP w ao zs) :
    Calls Tryz.prog 18 #[.slice ao m c, .int .i64 n, .agg #[.int .i64 op, .int .i64 a, .int .i64 b, .int .i64 x, .int .i64 y]] w fun e w' =>
      ∃ ao' c' bo d, e = .returned (.tuple #[.slice ao' p c', .slice bo q d, .int .i64 E]) ∧ Flat ao' p c' ∧ OwnE w' w.heap.size (.slice ao' p c') D ∧ Own w' w.heap.size (.slice bo q d) T ∧ Below w.heap.size w w' := by
  subst hp; subst hq; subst hE
  have hd := Do_any ao m c zs n op a b x y w hm hbig hf hs
  rw [h] at hd
  refine hd.mono fun e w' hg => ?_
  obtain ⟨v, t, rfl, hv, ht, _, hB⟩ := hg
  obtain ⟨ao', c', rfl, hf1, hf2, _⟩ := hv.slice
  have hf' : Flat ao' D.length c' := ⟨hf1, hf2⟩
  obtain ⟨bo, d, rfl, _⟩ := ht.slice
  exact ⟨ao', c', bo, d, rfl, hf', hv, ht, hB⟩
theorem Own.sees' {w : World} {B n c : Nat} {ao : Option Addr} {zs : List Int} (h : Own w B (.slice ao n c) zs) : Sees w ao zs := by
  rcases h.form with ⟨_, rfl⟩ | ⟨g, cap, h1, h2⟩
  · exact Sees.nil _ _
  · injection h1 with h3 _ _
    subst h3
    exact h2.sees
theorem doE_no {zs : List (Int × Int)} {n op a b x y : Int} (h : doOk zs n op a b x y = false) : doE zs n op a b x y = ([], [], false) := by
  unfold doE
  rw [h]
  rfl
theorem doE_yes {zs : List (Int × Int)} {n op a b x y : Int} (h : doOk zs n op a b x y = true) : doE zs n op a b x y = ((deedE zs n op x y).1, (deedE zs n op x y).2, true) := by
  unfold doE
  rw [h]
  rfl
def fineB (zs : List (Int × Int)) (n : Int) : Bool := decide (roomI n ≠ 0) && decide ((zs.length : Int) ≤ n) && risesE zs
theorem doOk_fine (zs : List (Int × Int)) (n op x y : Int) (h : op = 1 ∨ op = 2 ∧ y = 0 ∨ op = 3 ∧ y = 0) : doOk zs n op 0 0 x y = fineB zs n := by
  unfold doOk fineB
  have : mayD op 0 0 x y = true := by
    unfold mayD
    rcases h with rfl | ⟨rfl, rfl⟩ | ⟨rfl, rfl⟩ <;> simp
  rw [this, Bool.and_true]
set_option maxHeartbeats 4000000 in
theorem DictKeeps_any (ao : Option Addr) (m c : Nat) (zs : List (Int × Int)) (n x y v : Int) (puts : Bool) (w : World) (he : Env w) (hs0 : SeesP w ao zs) (hm : zs.length = m) (hbig : m ≤ 10000000000000) (hf0 : Flat ao m c) :
    Calls Tryz.prog 6 #[.slice ao m c, .int .i64 n, .int .i64 x, .int .i64 y, .int .i64 v, .bool puts] w fun e w' => e = .returned (.bool true) ∧ Below w.heap.size w w' := by
  have HM := Lib.hid hm
  have HC := Lib.hid hs0
  have HF := Lib.hid hf0
  have HE := Lib.hid he
  obtain ⟨op, hop⟩ : ∃ op : Int, op = (if puts then 1 else 3) := ⟨_, rfl⟩
  obtain ⟨yy, hyy⟩ : ∃ yy : Int, yy = (if puts then v else 0) := ⟨_, rfl⟩
  have ho : (op = 1 ∧ yy = v) ∨ (op = 3 ∧ yy = 0) := by cases puts <;> simp_all
  have HOP := Lib.hid hop
  have HO := Lib.hid ho
  clear he hs0 hm hf0 ho
  go_enter Tryz.func6, Tryz.ntmps6
  go_upto_if 31 with (go_at_call 9; go_must (refine (awake_any _ HE.out).mono ?_; rintro e w1 ⟨rfl, hB1⟩))
  go_cut [32, 33, 34] (fun _ _ _ wr => wr.heap[w1.heap.size]? = some (.cells #[.int .i64 op, .int .i64 0, .int .i64 0, .int .i64 x, .int .i64 yy] 40) ∧ Below w1.heap.size w1 wr)
  case first =>
    cases puts with
    | true =>
      obtain rfl : op = 1 := hop
      obtain rfl : yy = v := hyy
      have hb0 := heap_new w1 (.cells #[.int .i64 3, .int .i64 0, .int .i64 0, .int .i64 x, .int .i64 0] 40) _ rfl
      have t0 : (w1.alloc (.cells #[.int .i64 3, .int .i64 0, .int .i64 0, .int .i64 x, .int .i64 0] 40)).frozen? ⟨w1.heap.size, 0, none⟩ = false := frozen_of_row _ _ 0 _ _ hb0
      have t1 : (w1.alloc (.cells #[.int .i64 3, .int .i64 0, .int .i64 0, .int .i64 x, .int .i64 0] 40)).frozen? ⟨w1.heap.size, 1, none⟩ = false := frozen_of_row _ _ 1 _ _ hb0
      have t2 : (w1.alloc (.cells #[.int .i64 3, .int .i64 0, .int .i64 0, .int .i64 x, .int .i64 0] 40)).frozen? ⟨w1.heap.size, 2, none⟩ = false := frozen_of_row _ _ 2 _ _ hb0
      have t3 : (w1.alloc (.cells #[.int .i64 3, .int .i64 0, .int .i64 0, .int .i64 x, .int .i64 0] 40)).frozen? ⟨w1.heap.size, 3, none⟩ = false := frozen_of_row _ _ 3 _ _ hb0
      have t4 : (w1.alloc (.cells #[.int .i64 3, .int .i64 0, .int .i64 0, .int .i64 x, .int .i64 0] 40)).frozen? ⟨w1.heap.size, 4, none⟩ = false := frozen_of_row _ _ 4 _ _ hb0
      clear hb0
      go_wp2_with fail
      go_meet
      exact ⟨heap_new _ _ _ rfl, (Below.refl _ _).alloc (Nat.le_refl _) _⟩
    | false =>
      obtain rfl : op = 3 := hop
      obtain rfl : yy = 0 := hyy
      go_wp2_with fail
      go_meet
      exact ⟨heap_new _ _ _ rfl, (Below.refl _ _).alloc (Nat.le_refl _) _⟩
  case rest =>
    obtain ⟨hd, hBr⟩ := hcut
    have hS1 := HC.out.below (hB1.trans (hBr.mono hB1.size))
    have HS1 := Lib.hid hS1
    have HD := Lib.hid hd
    have hBW := hB1.trans (hBr.mono hB1.size)
    have HBW := Lib.hid hBW
    have hlt := lt_of_block hd
    cases hfi : fineB zs n with
    | false =>
      have K1 := Lib.hid (fun W hs => gave_of (p := 0) (q := 0) (E := 190) (doE_no ((doOk_fine zs n 2 y 0 (by omega)).trans hfi)) rfl rfl rfl ao m c W HM.out hbig HF.out hs)
      have K2 := Lib.hid (fun W hs => gave_of (p := 0) (q := 0) (E := 190) (doE_no ((doOk_fine zs n op x yy (by have := HO.out; omega)).trans hfi)) rfl rfl rfl ao m c W HM.out hbig HF.out hs)
      clear hop hyy hd hBr hS1 hBW hB1 hfi
      go_upto_region 6 with (go_at_call 18; go_must (refine (K1.out _ (by exact HS1.out)).mono ?_; rintro e w5 ⟨ao5, c5, bo5, d5, rfl, hf5, ho5, ht5, hb5⟩))
      have hd5 := (hb5.block _ hlt).trans HD.out
      have c0 := cell_of_row _ _ 0 _ _ _ hd5
      have c1 := cell_of_row _ _ 1 _ _ _ hd5
      have c2 := cell_of_row _ _ 2 _ _ _ hd5
      have c3 := cell_of_row _ _ 3 _ _ _ hd5
      have c4 := cell_of_row _ _ 4 _ _ _ hd5
      go_wp2_with (go_at_call 18; go_must (refine (K2.out _ (by exact HS1.out.below hb5)).mono ?_; rintro e w6 ⟨ao6, c6, bo6, d6, rfl, hf6, ho6, ht6, hb6⟩))
      go_ret
      exact ⟨rfl, (HBW.out.trans (hb5.mono HBW.out.size)).trans (hb6.mono (HBW.out.trans (hb5.mono HBW.out.size)).size)⟩
    | true =>
      have hfi2 := hfi
      simp only [fineB, Bool.and_eq_true, decide_eq_true_eq] at hfi2
      obtain ⟨⟨hr0, hle⟩, hri⟩ := hfi2
      have hri2 : zs.Pairwise (fun p q => p.1 < q.1) := by simpa [risesE] using hri
      obtain ⟨D, t, hdd, hDr, hDl, hhx, hhy⟩ := keepsE_plain zs n x y v op yy HO.out hri2 hle
      have hfD : fineB D n = true := by
        simp only [fineB, Bool.and_eq_true, decide_eq_true_eq]
        exact ⟨⟨hr0, hDl⟩, by simpa [risesE] using hDr⟩
      obtain ⟨p, hp⟩ : ∃ p, p = D.length := ⟨_, rfl⟩
      have hn60 := (roomI_yes hr0).2.2
      have hpb : p ≤ 10000000000000 := by omega
      obtain ⟨WAS, hWAS⟩ : ∃ WAS, WAS = getT zs y := ⟨_, rfl⟩
      obtain ⟨HAS, hHAS⟩ : ∃ HAS, HAS = getT D x := ⟨_, rfl⟩
      obtain ⟨IS, hIS⟩ : ∃ IS, IS = getT D y := ⟨_, rfl⟩
      have hWl : WAS.length ≤ 2 := by rw [hWAS]; unfold getT; split <;> simp
      have hIl : IS.length ≤ 2 := by rw [hIS]; unfold getT; split <;> simp
      obtain ⟨q1, hq1⟩ : ∃ q, q = WAS.length := ⟨_, rfl⟩
      obtain ⟨q3, hq3⟩ : ∃ q, q = HAS.length := ⟨_, rfl⟩
      obtain ⟨q4, hq4⟩ : ∃ q, q = IS.length := ⟨_, rfl⟩
      have K1 := Lib.hid (fun W hs => gave_of (p := m) (q := q1) (E := 0) (by rw [doE_yes ((doOk_fine zs n 2 y 0 (by omega)).trans hfi), deed_get, hWAS] : doE zs n 2 0 0 y 0 = (zs, WAS, true)) HM.out hq1.symm rfl ao m c W HM.out hbig HF.out hs)
      have K2 := Lib.hid (fun W hs => gave_of (p := p) (q := 1) (E := 0) (by rw [doE_yes ((doOk_fine zs n op x yy (by have := HO.out; omega)).trans hfi), hdd] : doE zs n op 0 0 x yy = (D, [t], true)) hp.symm rfl rfl ao m c W HM.out hbig HF.out hs)
      have K3 := Lib.hid (fun ao c W hf hs => gave_of (p := p) (q := q3) (E := 0) (by rw [doE_yes ((doOk_fine D n 2 x 0 (by omega)).trans hfD), deed_get, hHAS] : doE D n 2 0 0 x 0 = (D, HAS, true)) hp.symm hq3.symm rfl ao p c W hp.symm hpb hf hs)
      have K4 := Lib.hid (fun ao c W hf hs => gave_of (p := p) (q := q4) (E := 0) (by rw [doE_yes ((doOk_fine D n 2 y 0 (by omega)).trans hfD), deed_get, hIS] : doE D n 2 0 0 y 0 = (D, IS, true)) hp.symm hq4.symm rfl ao p c W hp.symm hpb hf hs)
      rw [← hHAS] at hhx
      rw [← hIS, ← hWAS] at hhy
      have hq0 : ((q3 : Int) == 0) = false := by
        have : 1 ≤ q3 := by rw [hq3, hhx]; split <;> simp
        simp; omega
      have HWL := Lib.hid hWl
      have HIL := Lib.hid hIl
      have HQ1 := Lib.hid hq1
      have HQ3 := Lib.hid hq3
      have HQ4 := Lib.hid hq4
      have HHX := Lib.hid hhx
      have HHY := Lib.hid hhy
      clear hop hyy hd hBr hS1 hBW hB1 hfi hr0 hle hri hri2 hdd hDr hDl hfD hn60 hpb hp hWAS hHAS hIS hhx hhy hq1 hq3 hq4 hWl hIl
      go_upto_region 6 with (go_at_call 18; go_must (refine (K1.out _ (by exact HS1.out)).mono ?_; rintro e w5 ⟨ao5, c5, bo5, d5, rfl, hf5, ho5, ht5, hb5⟩))
      have HT5 := Lib.hid ht5
      have hd5 := (hb5.block _ hlt).trans HD.out
      have c0 := cell_of_row _ _ 0 _ _ _ hd5
      have c1 := cell_of_row _ _ 1 _ _ _ hd5
      have c2 := cell_of_row _ _ 2 _ _ _ hd5
      have c3 := cell_of_row _ _ 3 _ _ _ hd5
      have c4 := cell_of_row _ _ 4 _ _ _ hd5
      go_upto_region 7 with (go_at_call 18; go_must (refine (K2.out _ (by exact HS1.out.below hb5)).mono ?_; rintro e w6 ⟨ao6, c6, bo6, d6, rfl, hf6, ho6, ht6, hb6⟩))
      obtain ⟨g6, k6, e6, b6⟩ := own_some (n := 1) ht6 rfl (by decide)
      injection e6 with e6 e6' e6''
      subst e6; subst e6''
      clear e6'
      have hB5 := HBW.out.trans (hb5.mono HBW.out.size)
      have hB6 := hB5.trans (hb6.mono hB5.size)
      have HS6 := Lib.hid ho6.sees
      have HF6 := Lib.hid hf6
      have HT56 := Lib.hid (HT5.out.below hb6)
      clear hB5 hb5 hb6 ht5 ht6 c0 c1 c2 c3 c4 hd5 ho5 hf5 ho6 hf6 HT5
      go_upto_region 10 with (go_at_call 18; go_must (refine (K3.out _ _ _ HF6.out (by exact HS6.out)).mono ?_; rintro e w7 ⟨ao7, c7, bo7, d7, rfl, hf7, ho7, ht7, hb7⟩))
      have hB7 := hB6.trans (hb7.mono hB6.size)
      have HS7 := Lib.hid (HS6.out.below hb7)
      have HT57 := Lib.hid (HT56.out.below hb7)
      have b67 := b6.below hb7
      have HT7 := Lib.hid ht7
      clear hb7 ht7 ho7 hf7 hB6 b6 HT56
      go_upto_region 11 with (go_at_call 18; go_must (refine (K4.out _ _ _ HF6.out (by exact HS7.out)).mono ?_; rintro e w8 ⟨ao8, c8, bo8, d8, rfl, hf8, ho8, ht8, hb8⟩))
      have hB8 := hB7.trans (hb8.mono hB7.size)
      have HT58 := Lib.hid (HT57.out.below hb8)
      have b68 := b67.below hb8
      have HT78 := Lib.hid (HT7.out.below hb8)
      have HT8 := Lib.hid ht8
      clear hb8 ht8 ho8 hf8 b67 HT57 HT7
      go_upto_region 14 with (go_at_call 14; go_must (refine (sameInts_any _ _ _ _ _ _ IS WAS _ HQ4.out.symm HQ1.out.symm (by exact HT8.out.sees') (by exact HT58.out.sees') (by have := HQ4.out; have := HIL.out; unfold maxLen; omega) (by have := HQ1.out; have := HWL.out; unfold maxLen; omega)).mono ?_; rintro e w9 ⟨rfl, k9, rfl⟩))
      have HB8 := Lib.hid hB8
      have a6 := b68.cell 0 rfl
      clear hB8 b68
      obtain ⟨eq, heq⟩ : ∃ b, b = decide (IS = WAS) := ⟨_, rfl⟩
      rw [← heq]
      have hxe : eq = true ∨ eq = false ∧ (x != y) = false := by
        by_cases hxy : x = y
        · subst hxy
          cases eq
          · exact .inr ⟨rfl, by simp⟩
          · exact .inl rfl
        · exact .inl (by rw [heq, HHY.out hxy]; simp)
      clear heq
      rcases hxe with rfl | ⟨rfl, hxe⟩
      all_goals
        cases puts with
        | true =>
          obtain rfl : op = 1 := HOP.out
          by_cases ht2 : t = 2
          · have gt : (t != 2) = false := by simp [ht2]
            have hH : HAS = [0] := by rw [HHX.out, if_neg (by rintro ⟨_, h⟩; exact h ht2)]
            subst hH
            obtain rfl : q3 = 1 := HQ3.out
            obtain ⟨g7, k7, e7, b7⟩ := own_some (n := 1) HT78.out rfl (by decide)
            injection e7 with e7 e7' e7''
            subst e7; subst e7''
            have a7 := b7.cell 0 rfl
            clear e7' b7 ht2
            go_wp2
            go_ret
            exact ⟨rfl, Below.drewK HB8.out _⟩
          · have gt : (t != 2) = true := by simpa using ht2
            have hH : HAS = [1, v] := by rw [HHX.out, if_pos ⟨rfl, ht2⟩]
            subst hH
            obtain rfl : q3 = 2 := HQ3.out
            obtain ⟨g7, k7, e7, b7⟩ := own_some (n := 2) HT78.out rfl (by decide)
            injection e7 with e7 e7' e7''
            subst e7; subst e7''
            have a7 := b7.cell 0 rfl
            have a8 := b7.cell 1 rfl
            clear e7' b7 ht2
            go_wp2
            go_ret
            exact ⟨rfl, Below.drewK HB8.out _⟩
        | false =>
          obtain rfl : op = 3 := HOP.out
          have hH : HAS = [0] := by rw [HHX.out, if_neg (by omega)]
          subst hH
          obtain rfl : q3 = 1 := HQ3.out
          obtain ⟨g7, k7, e7, b7⟩ := own_some (n := 1) HT78.out rfl (by decide)
          injection e7 with e7 e7' e7''
          subst e7; subst e7''
          have a7 := b7.cell 0 rfl
          clear e7' b7
          go_wp2
          go_ret
          exact ⟨rfl, Below.drewK HB8.out _⟩
end Go.Proofs.YtochpdailleilaaGreatDoor
