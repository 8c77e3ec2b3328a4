/-
  quash/quashlaw15.CodeDeaf answers true. Condition: the library's variables (Env), what the reading gives of the slices.
-/
import Derived.Test.YtojgdabkdbchnaaDoorCodeAwake15
import Derived.Test.YtojgdabkdbchnaaDoorOpenP
import Derived.Test.YtojgdabkdbchnaaDoorOpenI
import Derived.Test.YtojgdabkdbchnaaDoorDeafS
import Derived.Laws.Bits128
namespace Go.Proofs.YtojgdabkdbchnaaDoor
open Go.RowKit
set_option maxRecDepth 100000

theorem below_drewK {B : Nat} {w w' : World} (h : Below B w w') (n : Nat) : Below B w (w'.drewN n) := ⟨h.os, h.tape, h.output, h.size, h.block⟩
theorem deaf_own {wr w4 : World} {B : Nat} {v : Value} {m : List (Int × Int)} (h : OwnP wr B v m) (hg : Below wr.heap.size wr w4) (x : Value) (O : Obj) : OwnP ((w4.setCell ⟨wr.heap.size, 1, none⟩ x).alloc O) B v m ∧ Below wr.heap.size wr ((w4.setCell ⟨wr.heap.size, 1, none⟩ x).alloc O) := by
  have h1 := hg.setCell (p := ⟨wr.heap.size, 1, none⟩) (Nat.le_refl _) x
  have h2 := h1.alloc h1.size O
  exact ⟨h.below h2, h2⟩
theorem deaf_own' {wr w4 : World} {B : Nat} {v : Value} {m : List (Int × Int)} (h : OwnP wr B v m) (hg : Below wr.heap.size wr w4) (O : Obj) : OwnP (w4.alloc O) B v m ∧ Below wr.heap.size wr (w4.alloc O) := by
  have h2 := hg.alloc hg.size O
  exact ⟨h.below h2, h2⟩
theorem and7 (n : Int) : bits .and .i64 n 7 = n % 8 := by
  have h7 : (BitVec.ofInt 64 7).toNat = 2 ^ 3 - 1 := by decide
  have key : (BitVec.ofInt 64 n &&& BitVec.ofInt 64 7).toNat = (n % ((2 ^ 64 : Nat) : Int)).toNat % 2 ^ 3 := by
    rw [BitVec.toNat_and, BitVec.toNat_ofInt, h7, Nat.and_two_pow_sub_one_eq_mod]
  show IntKind.i64.wrap ((BitVec.ofInt 64 n &&& BitVec.ofInt 64 7).toNat : Nat) = n % 8
  rw [key, IntKind.wrap_i64]
  omega
set_option maxHeartbeats 4000000 in
theorem CodeDeaf_any (ao : Option Addr) (c : Nat) (l : List (Int × Int)) (bo : Option Addr) (cb : Nat) (ks : List Int) (w : World) (he : Env w) (hs : SeesP w ao l) (hk : Sees w bo ks) (hkl : ks.length ≤ maxLen) (hlen : l.length * 16 ≤ 140737488351232) :
    Calls Tryd.prog 6 #[.slice ao l.length c, .slice bo ks.length cb] w fun e w' => e = .returned (.bool true) ∧ Below w.heap.size w w' := by
  unfold maxLen at hkl
  obtain ⟨N, hN⟩ : ∃ N, N = l.length := ⟨_, rfl⟩
  obtain ⟨K, hK⟩ : ∃ K, K = ks.length := ⟨_, rfl⟩
  have HN := Lib.hid hN
  have HK := Lib.hid hK
  have HS := Lib.hid hs
  have HKS := Lib.hid hk
  have HE := Lib.hid he
  have HCHK := Lib.hid (fun W (h : SeesP W ao l) => Check_all ao N c l W HN.out.symm h (by unfold maxLen; rw [HN.out]; omega))
  have HVER := Lib.hid (fun W (h : SeesP W ao l) => Verify_any ao c l W h (by unfold maxLen; omega))
  rw [← hN] at HVER hlen
  rw [← hK] at hkl
  rw [← hN, ← hK]
  clear he hs hk hN hK
  by_cases h0 : (checkL l).1 = 0
  · by_cases hK0 : K = 0
    · subst hK0
      generalize checkL l = R at h0 HCHK
      obtain ⟨r1, r2⟩ := R
      simp only at h0
      subst h0
      go_enter Tryd.func6, Tryd.ntmps6
      go_wp2_with (first
        | (go_at_call 8; go_must (refine (awake15_any _ HE.out).mono ?_; rintro e w1 ⟨rfl, hb1⟩))
        | (go_at_call 10; go_must (refine (HCHK.out _ (by exact HS.out.below hb1)).mono ?_; rintro e w3 ⟨rfl, hb3⟩)))
      go_ret
      exact ⟨rfl, hb1.trans (hb3.mono hb1.size)⟩
    · obtain ⟨hn1, hn2, -⟩ := checkL_ok h0
      rw [← HN.out] at hn1 hn2
      have HDE := Lib.hid (fun m (hm : Deaf2 l m) => verify_deaf hm h0)
      generalize checkL l = R at h0 HCHK
      obtain ⟨r1, r2⟩ := R
      simp only at h0
      subst h0
      have hKb : ((K : Int) == 0) = false := by simp; omega
      have hKpos : (0 : Int) < (K : Int) := by omega
      go_enter Tryd.func6, Tryd.ntmps6
      go_wp2_with (first
        | (go_at_call 8; go_must (refine (awake15_any _ HE.out).mono ?_; rintro e w1 ⟨rfl, hb1⟩))
        | (go_at_call 10; go_must (refine (HCHK.out _ (by exact HS.out.below hb1)).mono ?_; rintro e w3 ⟨rfl, hb3⟩)))
      have HB3 := Lib.hid (hb1.trans (hb3.mono hb1.size))
      clear hb1 hb3
      go_loopw [8, 9] (fun v u wr => ∃ (k : Nat) (m : List (Int × Int)), k ≤ N ∧ u = .int .i64 k ∧ OwnP wr w3.heap.size v m ∧ Deaf2 (l.take k) m ∧ Below w3.heap.size w3 wr) (fun _ u _ => N - (intOf u).toNat)
      case atStart => exact ⟨0, [], Nat.zero_le _, rfl, OwnP.nil _ _, by rw [List.take_zero]; exact Deaf2.nil, Below.refl _ _⟩
      case round =>
        obtain ⟨k, m, hk, rfl, hown, hde, hB⟩ := hrel
        have hml : m.length = k := by
          have := hde.1
          rw [List.length_take, ← HN.out] at this
          omega
        have HML := Lib.hid hml
        by_cases hlt : k < N
        · obtain ⟨⟨op, a⟩, hx⟩ : ∃ x, l[k]? = some x := ⟨_, List.getElem?_eq_getElem (by rw [← HN.out]; exact hlt)⟩
          have hBw := HB3.out.trans (hB.mono HB3.out.size)
          obtain ⟨b, o, hao, hc⟩ := HS.out.below hBw
          obtain rfl := hao (by intro e; subst e; simp at hx)
          obtain ⟨c0, c1⟩ := hc k _ hx
          simp only at c0 c1
          obtain ⟨r, hr⟩ : ∃ r, r = k % K := ⟨_, rfl⟩
          have hrK : r < K := by rw [hr]; exact Nat.mod_lt _ (by omega)
          have hri : (k : Int) % (K : Int) = (r : Int) := by rw [hr]; rfl
          obtain ⟨b2, o2, hbo, hcb⟩ := HKS.out.below hBw
          obtain rfl := hbo (by intro e; subst e; simp at HK; have := HK.out; omega)
          have cr := hcb r (by rw [← HK.out]; exact hrK)
          generalize ks.getD r 0 = y at cr
          have hi0 : (0 : Int) ≤ (k : Int) := by omega
          have hi1 : (r : Int) < (K : Int) := by omega
          have hDS := fun y (hy : DeafR (op, a) y) => (show Deaf2 (l.take (k + 1)) (m ++ [y]) by rw [List.take_add_one, hx]; exact hde.snoc hy)
          have HDS := Lib.hid hDS
          have HO := Lib.hid hown
          have HB := Lib.hid hB
          have hz := hB.size
          clear hx hc hcb hr hDS hown hde hB hBw hao hbo hml
          have hfin : ∀ (y : Int × Int) (v' : Value) (W w' : World), DeafR (op, a) y → OwnP w' w3.heap.size v' (m ++ [y]) → Below w3.heap.size w3 w' → True := fun _ _ _ _ _ _ _ => trivial
          clear hfin
          have hw1 : ∀ w1, Below (wr.alloc (.cells #[.int .i64 op, .int .i64 a] 44)).heap.size (wr.alloc (.cells #[.int .i64 op, .int .i64 a] 44)) w1 → w1.heap[wr.heap.size]? = some (.cells #[.int .i64 op, .int .i64 a] 44) ∧ (∀ b o, b < wr.heap.size → w1.cell? ⟨b, o, none⟩ = wr.cell? ⟨b, o, none⟩) ∧ Below wr.heap.size wr w1 := fun w1 h =>
            ⟨(h.block _ (by simp)).trans (heap_new _ _ _ rfl), fun b o hb => (h.cell (p := ⟨b, o, none⟩) (by simp; omega)).trans (((Below.refl wr.heap.size wr).alloc (Nat.le_refl _) _).cell (p := ⟨b, o, none⟩) hb), ((Below.refl wr.heap.size wr).alloc (Nat.le_refl _) _).trans (h.mono (by simp))⟩
          have HW1 := Lib.hid hw1
          clear hw1
          go_upto_region 11 with (go_at_call 15; go_must (refine (Takes_any op _).mono ?_; rintro e w4 ⟨rfl, hb4⟩))
          obtain ⟨g1, g2, g3⟩ := HW1.out _ hb4
          have hz4 := g3.size
          have hzz : wr.heap.size < w4.heap.size := lt_of_block g1
          have x0 := cell_of_row _ _ 0 _ _ _ g1
          have x1 := cell_of_row _ _ 1 _ _ _ g1
          have f1 : w4.frozen? ⟨wr.heap.size, 1, none⟩ = false := frozen_of_row _ _ _ _ _ g1
          have cr4 := (g2 _ _ (block_lt_of_cell cr)).trans cr
          have HG := Lib.hid g3
          have HO4 := Lib.hid (HO.out.below g3)
          have HB4 := Lib.hid (HB.out.trans (g3.mono hz))
          clear g1 g2 g3 hb4 cr c0 c1
          obtain ht | ht | ht : takes op = 1 ∨ takes op = 2 ∨ (takes op ≠ 1 ∧ takes op ≠ 2) := by omega
          · have HDR := Lib.hid (show DeafR (op, a) (op, y) from ⟨rfl, .inl ht⟩)
            rw [ht]
            clear ht
            go_wp2_with (at_builtin; refine wpList_appendP (deaf_own HO.out HG.out _ _).1 (Nat.le_trans hz (deaf_own HO.out HG.out _ _).2.size) (some ⟨w4.heap.size, 0, none⟩) 1 1 [(op, y)] rfl (seesP_one (heap_new _ _ _ (by simp))) (fun h => by cases h) (by rw [HML.out]; simp; omega) rfl _ _ rfl rfl rfl ?_; intro v5 w5 hown5 hgrow5)
            go_roundw
            case rel => exact ⟨k + 1, m ++ [(op, y)], by omega, by go_num, hown5, HDS.out _ HDR.out, (HB.out.trans ((deaf_own HO.out HG.out _ _).2.mono hz)).grown hgrow5 (Nat.le_trans hz (deaf_own HO.out HG.out _ _).2.size) (fun k hk => own_ge HO.out hk)⟩
            case measure => simp [intOf]; omega
          · have h7 := and7 y
            have h8 : 0 ≤ y % 8 ∧ y % 8 < 8 := by omega
            have HDR := Lib.hid (show DeafR (op, a) (op, y % 8) from ⟨rfl, .inr (.inl ⟨ht, h8.1, h8.2⟩)⟩)
            generalize y % 8 = y8 at h7 HDR
            rw [ht]
            clear ht h8
            go_wp2_with (at_builtin; refine wpList_appendP (deaf_own HO.out HG.out _ _).1 (Nat.le_trans hz (deaf_own HO.out HG.out _ _).2.size) (some ⟨w4.heap.size, 0, none⟩) 1 1 [(op, y8)] rfl (seesP_one (heap_new _ _ _ (by simp))) (fun h => by cases h) (by rw [HML.out]; simp; omega) rfl _ _ rfl rfl rfl ?_; intro v5 w5 hown5 hgrow5)
            go_roundw
            case rel => exact ⟨k + 1, m ++ [(op, y8)], by omega, by go_num, hown5, HDS.out _ HDR.out, (HB.out.trans ((deaf_own HO.out HG.out _ _).2.mono hz)).grown hgrow5 (Nat.le_trans hz (deaf_own HO.out HG.out _ _).2.size) (fun k hk => own_ge HO.out hk)⟩
            case measure => simp [intOf]; omega
          · obtain ⟨ht1, ht2⟩ := ht
            have HDR := Lib.hid (show DeafR (op, a) (op, a) from ⟨rfl, .inr (.inr ⟨ht1, ht2, rfl⟩)⟩)
            have b1 : (takes op == 1) = false := by simpa using ht1
            have b2 : (takes op == 2) = false := by simpa using ht2
            clear ht1 ht2
            go_wp2_with (at_builtin; refine wpList_appendP (deaf_own' HO.out HG.out _).1 (Nat.le_trans hz (deaf_own' HO.out HG.out _).2.size) (some ⟨w4.heap.size, 0, none⟩) 1 1 [(op, a)] rfl (seesP_one (heap_new _ _ _ (by simp))) (fun h => by cases h) (by rw [HML.out]; simp; omega) rfl _ _ rfl rfl rfl ?_; intro v5 w5 hown5 hgrow5)
            go_roundw
            case rel => exact ⟨k + 1, m ++ [(op, a)], by omega, by go_num, hown5, HDS.out _ HDR.out, (HB.out.trans ((deaf_own' HO.out HG.out _).2.mono hz)).grown hgrow5 (Nat.le_trans hz (deaf_own' HO.out HG.out _).2.size) (fun k hk => own_ge HO.out hk)⟩
            case measure => simp [intOf]; omega
        · obtain rfl : k = N := by omega
          obtain ⟨ao5, c5, rfl, hs5, _⟩ := hown.slice
          rw [hml]
          have hv := HDE.out m (by rw [List.take_of_length_le (by rw [← HN.out]; exact Nat.le_refl _)] at hde; exact hde)
          have HV := Lib.hid hv
          have HBW := Lib.hid (HB3.out.trans (hB.mono HB3.out.size))
          have HM5 := Lib.hid (fun W (h : SeesP W ao5 m) => Verify_any ao5 c5 m W h (by unfold maxLen; omega))
          rw [hml] at HM5
          have HS5 := Lib.hid hs5
          rw [hv] at HVER
          generalize verifyL m = R at HVER HM5
          obtain ⟨s1, s2⟩ := R
          clear hv HV hs5 hml hde hown
          go_wp2_with (first
            | (go_at_call_of 21 (Value.slice ao k c); go_must (refine (HVER.out _ (by exact HS.out.below HBW.out)).mono ?_; rintro e w7 ⟨rfl, hb7⟩))
            | (go_at_call 21; go_must (refine (HM5.out _ (by exact HS5.out.below hb7)).mono ?_; rintro e w8 ⟨rfl, hb8⟩)))
          go_ret
          have q7 := HBW.out.trans (hb7.mono HBW.out.size)
          exact ⟨rfl, q7.trans (hb8.mono q7.size)⟩
  · generalize checkL l = R at h0 HCHK
    obtain ⟨r1, r2⟩ := R
    have hr1 : (r1 == 0) = false := by simpa using h0
    clear h0
    go_enter Tryd.func6, Tryd.ntmps6
    go_wp2_with (first
      | (go_at_call 8; go_must (refine (awake15_any _ HE.out).mono ?_; rintro e w1 ⟨rfl, hb1⟩))
      | (go_at_call 10; go_must (refine (HCHK.out _ (by exact HS.out.below hb1)).mono ?_; rintro e w3 ⟨rfl, hb3⟩)))
    go_ret
    exact ⟨rfl, hb1.trans (hb3.mono hb1.size)⟩
end Go.Proofs.YtojgdabkdbchnaaDoor
