/-
  quash/quashlaw18.SetKeeps answers true. Condition: the library's variables (Env), what the reading gives of the slice.
-/
import Derived.Test.YtkioddgolmaaeaaGreatDoorSetAwake
import Derived.Test.YtkioddgolmaaeaaGreatDoorSetKeepsS
import Derived.BigQuiet
namespace Go.Proofs.YtkioddgolmaaeaaGreatDoor
open Go.RowKit
set_option maxRecDepth 100000

theorem gave_of {zs : List Int} {n op a b x y : Int} {D T : List Int} {ok : Bool} {p q : Nat} {E : Int} (h : doS zs n op a b x y = (D, T, ok)) (hp : D.length = p) (hq : T.length = q) (hE : (if ok then (0 : Int) else 180) = E) (ao : Option Addr) (m c : Nat) (w : World) (hm : zs.length = m) (hbig : m ≤ 1000000000000000) (hf : Flat ao m c) (hs : Sees w ao zs) :
    Calls Tryz.prog 17 #[.slice ao m c, .int .i64 n, .agg #[.int .i64 op, .int .i64 a, .int .i64 b, .int .i64 x, .int .i64 y]] w fun e w' =>
      ∃ ao' c' bo d, e = .returned (.tuple #[.slice ao' p c', .slice bo q d, .int .i64 E]) ∧ Flat ao' p c' ∧ Own w' w.heap.size (.slice ao' p c') D ∧ Own w' w.heap.size (.slice bo q d) T ∧ Below w.heap.size w w' := by
  subst hp; subst hq; subst hE
  have hd := Do_any ao m c zs n op a b x y w hm hbig hf hs
  rw [h] at hd
  refine hd.mono fun e w' hg => ?_
  obtain ⟨v, t, rfl, hv, ht, _, hB⟩ := hg
  obtain ⟨ao', c', rfl, hf', _⟩ := hv.slice
  obtain ⟨bo, d, rfl, _⟩ := ht.slice
  exact ⟨ao', c', bo, d, rfl, hf', hv, ht, hB⟩
theorem doS_no {zs : List Int} {n op a b x y : Int} (h : doOk zs n op a b x y = false) : doS zs n op a b x y = ([], [], false) := by
  unfold doS
  rw [h]
  rfl
theorem doS_yes {zs : List Int} {n op a b x y : Int} (h : doOk zs n op a b x y = true) : doS zs n op a b x y = ((deedS zs n op x).1, (deedS zs n op x).2, true) := by
  unfold doS
  rw [h]
  rfl
def fineB (zs : List Int) (n : Int) : Bool := decide (roomI n ≠ 0) && decide ((zs.length : Int) ≤ n) && risesB zs
theorem doOk_fine (zs : List Int) (n op x : Int) (h : op = 1 ∨ op = 2 ∨ op = 3 ∨ op = 5 ∧ x = 0) : doOk zs n op 0 0 x 0 = fineB zs n := by
  unfold doOk fineB
  have : mayD op 0 0 x 0 = true := by
    unfold mayD
    rcases h with rfl | rfl | rfl | ⟨rfl, rfl⟩ <;> simp
  rw [this, Bool.and_true]
theorem Own.seesS {w : World} {B n c : Nat} {ao : Option Addr} {zs : List Int} (h : Own w B (.slice ao n c) zs) : Sees w ao zs := by
  rcases h.form with ⟨_, rfl⟩ | ⟨g, cap, h1, h2⟩
  · exact Sees.nil _ _
  · injection h1 with h3 _ _
    subst h3
    exact h2.sees
set_option maxHeartbeats 4000000 in
theorem SetKeeps_any (ao : Option Addr) (m c : Nat) (zs : List Int) (n x y : Int) (puts : Bool) (w : World) (he : Env w) (hs0 : Sees w ao zs) (hm : zs.length = m) (hbig : m ≤ 1000000000000000) (hf0 : Flat ao m c) :
    Calls Tryz.prog 6 #[.slice ao m c, .int .i64 n, .int .i64 x, .int .i64 y, .bool puts] w fun e w' => e = .returned (.bool true) ∧ Below w.heap.size w w' := by
  have HM := Lib.hid hm
  have HC := Lib.hid hs0
  have HF := Lib.hid hf0
  have HE := Lib.hid he
  obtain ⟨op, hop⟩ : ∃ op : Int, op = (if puts then 1 else 2) := ⟨_, rfl⟩
  have ho : op = 1 ∨ op = 2 := by cases puts <;> simp_all
  have HOP := Lib.hid hop
  have HO := Lib.hid ho
  clear he hs0 hm hf0 ho
  go_enter Tryz.func6, Tryz.ntmps6
  go_upto_if 32 with (go_at_call 9; go_must (refine (awake_any _ HE.out).mono ?_; rintro e w1 ⟨rfl, hB1⟩))
  go_cut [33] (fun _ wr => wr.heap[w1.heap.size]? = some (.cells #[.int .i64 op, .int .i64 0, .int .i64 0, .int .i64 x, .int .i64 0] 36) ∧ Below w1.heap.size w1 wr)
  case first =>
    cases puts with
    | true =>
      obtain rfl : op = 1 := hop
      have hb0 := World.alloc_heap_new w1 (.cells #[.int .i64 2, .int .i64 0, .int .i64 0, .int .i64 x, .int .i64 0] 36)
      have t0 := cell_of_row _ _ 0 _ _ _ hb0
      have t1 : (w1.alloc (.cells #[.int .i64 2, .int .i64 0, .int .i64 0, .int .i64 x, .int .i64 0] 36)).frozen? ⟨w1.heap.size, 0, none⟩ = false := frozen_of_row _ _ 0 _ _ hb0
      clear hb0
      go_wp2_with fail
      go_meet
      exact ⟨heap_new _ _ _ rfl, (Below.refl _ _).alloc (Nat.le_refl _) _⟩
    | false =>
      obtain rfl : op = 2 := hop
      go_wp2_with fail
      go_meet
      exact ⟨heap_new _ _ _ rfl, (Below.refl _ _).alloc (Nat.le_refl _) _⟩
  case rest =>
    obtain ⟨hd, hBr⟩ := hcut
    have hS1 := HC.out.below (hB1.trans (hBr.mono hB1.size))
    have HS1 := Lib.hid hS1
    have HD := Lib.hid hd
    have hBW := hB1.trans (hBr.mono hB1.size)
    have HBW := Lib.hid hBW
    have hlt := lt_of_block hd
    cases hfi : fineB zs n with
    | false =>
      have K1 := Lib.hid (fun W hs => gave_of (p := 0) (q := 0) (E := 180) (doS_no ((doOk_fine zs n 3 y (by omega)).trans hfi)) rfl rfl rfl ao m c W HM.out hbig HF.out hs)
      have K2 := Lib.hid (fun W hs => gave_of (p := 0) (q := 0) (E := 180) (doS_no ((doOk_fine zs n op x (by have := HO.out; omega)).trans hfi)) rfl rfl rfl ao m c W HM.out hbig HF.out hs)
      clear hop hd hBr hS1 hBW hB1 hfi
      go_upto_region 6 with (go_at_call 17; go_must (refine (K1.out _ (by exact HS1.out)).mono ?_; rintro e w5 ⟨ao5, c5, bo5, d5, rfl, hf5, ho5, ht5, hb5⟩))
      have hd5 := (hb5.block _ hlt).trans HD.out
      have c0 := cell_of_row _ _ 0 _ _ _ hd5
      have c1 := cell_of_row _ _ 1 _ _ _ hd5
      have c2 := cell_of_row _ _ 2 _ _ _ hd5
      have c3 := cell_of_row _ _ 3 _ _ _ hd5
      have c4 := cell_of_row _ _ 4 _ _ _ hd5
      go_wp2_with (go_at_call 17; go_must (refine (K2.out _ (by exact HS1.out.below hb5)).mono ?_; rintro e w6 ⟨ao6, c6, bo6, d6, rfl, hf6, ho6, ht6, hb6⟩))
      go_ret
      exact ⟨rfl, (HBW.out.trans (hb5.mono HBW.out.size)).trans (hb6.mono (HBW.out.trans (hb5.mono HBW.out.size)).size)⟩
    | true =>
      have hfi2 := hfi
      simp only [fineB, Bool.and_eq_true, decide_eq_true_eq] at hfi2
      obtain ⟨⟨hr0, hle⟩, hri⟩ := hfi2
      have hri2 : zs.Pairwise (· < ·) := by simpa [risesB] using hri
      obtain ⟨D, t, hdd, hDr, hDl, hhx, hhy⟩ := keeps_plain zs n x y op HO.out hri2 hle
      have hfD : fineB D n = true := by
        simp only [fineB, Bool.and_eq_true, decide_eq_true_eq]
        exact ⟨⟨hr0, hDl⟩, by simpa [risesB] using hDr⟩
      obtain ⟨p, hp⟩ : ∃ p, p = D.length := ⟨_, rfl⟩
      have hn60 := (roomI_yes hr0).2.2
      have hpb : p ≤ 1000000000000000 := by omega
      have K1 := Lib.hid (fun W hs => gave_of (p := m) (q := 1) (E := 0) (by rw [doS_yes ((doOk_fine zs n 3 y (by omega)).trans hfi), deed_has] : doS zs n 3 0 0 y 0 = (zs, [hasI zs y], true)) HM.out rfl rfl ao m c W HM.out hbig HF.out hs)
      have K2 := Lib.hid (fun W hs => gave_of (p := p) (q := 1) (E := 0) (by rw [doS_yes ((doOk_fine zs n op x (by have := HO.out; omega)).trans hfi), hdd] : doS zs n op 0 0 x 0 = (D, [t], true)) hp.symm rfl rfl ao m c W HM.out hbig HF.out hs)
      have K3 := Lib.hid (fun ao c W hf hs => gave_of (p := p) (q := 1) (E := 0) (by rw [doS_yes ((doOk_fine D n 3 x (by omega)).trans hfD), deed_has] : doS D n 3 0 0 x 0 = (D, [hasI D x], true)) hp.symm rfl rfl ao p c W hp.symm hpb hf hs)
      have K4 := Lib.hid (fun ao c W hf hs => gave_of (p := p) (q := 1) (E := 0) (by rw [doS_yes ((doOk_fine D n 3 y (by omega)).trans hfD), deed_has] : doS D n 3 0 0 y 0 = (D, [hasI D y], true)) hp.symm rfl rfl ao p c W hp.symm hpb hf hs)
      have K5 := Lib.hid (fun ao c W hf hs => gave_of (p := p) (q := 1) (E := 0) (by rw [doS_yes ((doOk_fine D n 5 0 (by omega)).trans hfD), deed_size, ← hp] : doS D n 5 0 0 0 0 = (D, [(p : Int)], true)) hp.symm rfl rfl ao p c W hp.symm hpb hf hs)
      obtain ⟨was, hwas⟩ : ∃ was, was = hasI zs y := ⟨_, rfl⟩
      obtain ⟨has, hhas⟩ : ∃ has, has = hasI D x := ⟨_, rfl⟩
      obtain ⟨is, his⟩ : ∃ is, is = hasI D y := ⟨_, rfl⟩
      rw [← hhas] at hhx K3
      rw [← his] at hhy K4
      rw [← hwas] at hhy K1
      clear hop hd hBr hS1 hBW hB1 hfi hr0 hle hri hri2 hdd hDr hDl hfD hn60 hpb hp hwas hhas his
      have HHX := Lib.hid hhx
      have HHY := Lib.hid hhy
      clear hhx hhy
      go_upto_region 6 with (go_at_call 17; go_must (refine (K1.out _ (by exact HS1.out)).mono ?_; rintro e w5 ⟨ao5, c5, bo5, d5, rfl, hf5, ho5, ht5, hb5⟩))
      obtain ⟨g5, k5, e5, b5⟩ := own_some (n := 1) ht5 rfl (by decide)
      injection e5 with e5 e5' e5''
      subst e5; subst e5''
      clear e5'
      have hd5 := (hb5.block _ hlt).trans HD.out
      have c0 := cell_of_row _ _ 0 _ _ _ hd5
      have c1 := cell_of_row _ _ 1 _ _ _ hd5
      have c2 := cell_of_row _ _ 2 _ _ _ hd5
      have c3 := cell_of_row _ _ 3 _ _ _ hd5
      have c4 := cell_of_row _ _ 4 _ _ _ hd5
      go_upto_region 7 with (go_at_call 17; go_must (refine (K2.out _ (by exact HS1.out.below hb5)).mono ?_; rintro e w6 ⟨ao6, c6, bo6, d6, rfl, hf6, ho6, ht6, hb6⟩))
      obtain ⟨g6, k6, e6, b6⟩ := own_some (n := 1) ht6 rfl (by decide)
      injection e6 with e6 e6' e6''
      subst e6; subst e6''
      clear e6'
      have hB5 := HBW.out.trans (hb5.mono HBW.out.size)
      have hB6 := hB5.trans (hb6.mono hB5.size)
      have b56 := b5.below hb6
      clear hB5 b5 hb5 hb6 ht5 ht6 c0 c1 c2 c3 c4 hd5 ho5 hf5
      have HO6 := Lib.hid ho6
      have HF6 := Lib.hid hf6
      clear ho6 hf6
      go_upto_region 10 with (go_at_call 17; go_must (refine (K3.out _ _ _ HF6.out (by exact HO6.out.seesS)).mono ?_; rintro e w7 ⟨ao7, c7, bo7, d7, rfl, hf7, ho7, ht7, hb7⟩))
      obtain ⟨g7, k7, e7, b7⟩ := own_some (n := 1) ht7 rfl (by decide)
      injection e7 with e7 e7' e7''
      subst e7; subst e7''
      clear e7'
      have b57 := b56.below hb7
      have b67 := b6.below hb7
      have hB7 := hB6.trans (hb7.mono hB6.size)
      have HS7 := Lib.hid (HO6.out.seesS.below hb7)
      clear b56 b6 hb7 ht7 ho7 hf7
      go_upto_region 11 with (go_at_call 17; go_must (refine (K4.out _ _ _ HF6.out (by exact HS7.out)).mono ?_; rintro e w8 ⟨ao8, c8, bo8, d8, rfl, hf8, ho8, ht8, hb8⟩))
      obtain ⟨g8, k8, e8, b8⟩ := own_some (n := 1) ht8 rfl (by decide)
      injection e8 with e8 e8' e8''
      subst e8; subst e8''
      clear e8'
      have b58 := b57.below hb8
      have b68 := b67.below hb8
      have b78 := b7.below hb8
      have hB8 := hB7.trans (hb8.mono hB7.size)
      have HS8 := Lib.hid (HS7.out.below hb8)
      clear b57 b67 b7 hb8 ht8 ho8 hf8
      go_upto_region 12 with (go_at_call 17; go_must (refine (K5.out _ _ _ HF6.out (by exact HS8.out)).mono ?_; rintro e w9 ⟨ao9, c9, bo9, d9, rfl, hf9, ho9, ht9, hb9⟩))
      obtain ⟨g9, k9, e9, b9⟩ := own_some (n := 1) ht9 rfl (by decide)
      injection e9 with e9 e9' e9''
      subst e9; subst e9''
      clear e9'
      have a5 := (b58.below hb9).cell 0 rfl
      have a6 := (b68.below hb9).cell 0 rfl
      have a7 := (b78.below hb9).cell 0 rfl
      have a8 := (b8.below hb9).cell 0 rfl
      have a9 := b9.cell 0 rfl
      have hB9 := hB8.trans (hb9.mono hB8.size)
      clear b58 b68 b78 b8 b9 hb9 ht9 ho9 hf9 hB6 hB7 hB8
      have HB9 := Lib.hid hB9
      clear hB9
      cases puts with
      | true =>
        obtain rfl : op = 1 := HOP.out
        by_cases ht2 : t = 2
        · subst ht2
          obtain rfl : has = 0 := by rw [HHX.out]; simp
          by_cases hxy : x = y
          · have g : (x == y) = true := by simpa using hxy
            clear hxy
            go_upto_region 17 with (fail)
            go_quiet (fail)
            go_wp2
            go_ret
            exact ⟨rfl, Below.drewK HB9.out _⟩
          · have g : (x == y) = false := by simpa using hxy
            obtain rfl : is = was := HHY.out hxy
            clear hxy
            go_upto_region 17 with (fail)
            go_quiet (fail)
            go_wp2
            go_ret
            exact ⟨rfl, Below.drewK HB9.out _⟩
        · have gt : (t == 2) = false := by simpa using ht2
          obtain rfl : has = 1 := by rw [HHX.out, if_pos ⟨rfl, ht2⟩]
          clear ht2
          by_cases hxy : x = y
          · have g : (x == y) = true := by simpa using hxy
            clear hxy
            go_upto_region 17 with (fail)
            go_quiet (fail)
            go_wp2
            go_ret
            exact ⟨rfl, Below.drewK HB9.out _⟩
          · have g : (x == y) = false := by simpa using hxy
            obtain rfl : is = was := HHY.out hxy
            clear hxy
            go_upto_region 17 with (fail)
            go_quiet (fail)
            go_wp2
            go_ret
            exact ⟨rfl, Below.drewK HB9.out _⟩
      | false =>
        obtain rfl : op = 2 := HOP.out
        obtain rfl : has = 0 := by rw [HHX.out]; simp
        by_cases hxy : x = y
        · have g : (x == y) = true := by simpa using hxy
          clear hxy
          go_upto_region 17 with (fail)
          go_quiet (fail)
          go_wp2
          go_ret
          exact ⟨rfl, Below.drewK HB9.out _⟩
        · have g : (x == y) = false := by simpa using hxy
          obtain rfl : is = was := HHY.out hxy
          clear hxy
          go_upto_region 17 with (fail)
          go_quiet (fail)
          go_wp2
          go_ret
          exact ⟨rfl, Below.drewK HB9.out _⟩
end Go.Proofs.YtkioddgolmaaeaaGreatDoor
