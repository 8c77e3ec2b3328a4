/-
  quash/quashlaw15.CodeNested answers true. Condition: the library's variables (Env), what the reading gives of the slices.
-/
import Derived.Test.YtojgdabkdbchnaaDoorCodeAwake15
import Derived.Test.YtojgdabkdbchnaaDoorOpenP
import Derived.Test.YtojgdabkdbchnaaDoorCodeJoin
namespace Go.Proofs.YtojgdabkdbchnaaDoor
open Go.RowKit
set_option maxRecDepth 100000

def FitP (l : Prog) (c : Nat) : Prop := l.length * 16 ≤ 140737488351232 ∧ l.length ≤ c
theorem Join_one (nb : Nat) (t : TypeId) (ao : Option Addr) (n c : Nat) (l : Prog) (w : World) (hn : l.length = n) (h : w.heap[nb]? = some (.cells #[.slice ao n c] t)) (hs : SeesP w ao l) (hf : FitP l c) :
    Calls Tryd.prog 22 #[.slice (some ⟨nb, 0, none⟩) 1 1] w (JoinDoes [l] w) := by
  subst hn
  refine Join_any (some ⟨nb, 0, none⟩) 1 1 [(ao, c, l)] w rfl ⟨nb, 0, fun _ => rfl, fun j x hj => ?_⟩ (by decide) (fun x hx => ?_)
  · match j, hj with
    | 0, hj => simp at hj; subst hj; exact ⟨cell_of_row _ _ 0 _ _ _ h, hs⟩
    | j + 1, hj => simp at hj
  · rw [List.mem_singleton] at hx; subst hx; exact hf
theorem Join_two (nb : Nat) (t : TypeId) (ao bo : Option Addr) (n m c d : Nat) (l k : Prog) (w : World) (hn : l.length = n) (hm : k.length = m) (h : w.heap[nb]? = some (.cells #[.slice ao n c, .slice bo m d] t)) (hs : SeesP w ao l) (hk : SeesP w bo k) (hf : FitP l c) (hg : FitP k d) :
    Calls Tryd.prog 22 #[.slice (some ⟨nb, 0, none⟩) 2 2] w (JoinDoes [l, k] w) := by
  subst hn; subst hm
  refine Join_any (some ⟨nb, 0, none⟩) 2 2 [(ao, c, l), (bo, d, k)] w rfl ⟨nb, 0, fun _ => rfl, fun j x hj => ?_⟩ (by decide) (fun x hx => ?_)
  · match j, hj with
    | 0, hj => simp at hj; subst hj; exact ⟨cell_of_row _ _ 0 _ _ _ h, hs⟩
    | 1, hj => simp at hj; subst hj; exact ⟨cell_of_row _ _ 1 _ _ _ h, hk⟩
    | j + 2, hj => simp at hj
  · simp only [List.mem_cons, List.not_mem_nil, or_false] at hx
    rcases hx with rfl | rfl
    · exact hf
    · exact hg
theorem Join_three (nb : Nat) (t : TypeId) (ao bo co : Option Addr) (n m p c d e : Nat) (l k q : Prog) (w : World) (hn : l.length = n) (hm : k.length = m) (hp : q.length = p) (h : w.heap[nb]? = some (.cells #[.slice ao n c, .slice bo m d, .slice co p e] t)) (hs : SeesP w ao l) (hk : SeesP w bo k) (hq : SeesP w co q) (hf : FitP l c) (hg : FitP k d) (hi : FitP q e) :
    Calls Tryd.prog 22 #[.slice (some ⟨nb, 0, none⟩) 3 3] w (JoinDoes [l, k, q] w) := by
  subst hn; subst hm; subst hp
  refine Join_any (some ⟨nb, 0, none⟩) 3 3 [(ao, c, l), (bo, d, k), (co, e, q)] w rfl ⟨nb, 0, fun _ => rfl, fun j x hj => ?_⟩ (by decide) (fun x hx => ?_)
  · match j, hj with
    | 0, hj => simp at hj; subst hj; exact ⟨cell_of_row _ _ 0 _ _ _ h, hs⟩
    | 1, hj => simp at hj; subst hj; exact ⟨cell_of_row _ _ 1 _ _ _ h, hk⟩
    | 2, hj => simp at hj; subst hj; exact ⟨cell_of_row _ _ 2 _ _ _ h, hq⟩
    | j + 3, hj => simp at hj
  · simp only [List.mem_cons, List.not_mem_nil, or_false] at hx
    rcases hx with rfl | rfl | rfl
    · exact hf
    · exact hg
    · exact hi
theorem joinS_le (P : List Prog) : (joinS P).1.length ≤ 400 := by
  unfold joinS
  split
  · split
    · simp
    · rw [joinFrom_length]; simp; omega
  · simp
theorem OwnP.part {w : World} {B : Nat} {v : Value} {l : Prog} (h : OwnP w B v l) : ∃ ao c, v = .slice ao l.length c ∧ SeesP w ao l ∧ l.length ≤ c := by
  obtain ⟨ao, c, rfl, hs, _⟩ := h.slice
  refine ⟨ao, c, rfl, hs, ?_⟩
  obtain ⟨_, h | ⟨_, _, _, hv, _, _, h1, _⟩⟩ := h
  · injection h.1 with _ e1 e2; omega
  · injection hv with _ _ h3; subst h3; exact h1
theorem joinS_one (a : Prog) : (joinS [a]).2 = (checkL a).1 ∧ ((checkL a).1 = 0 → (joinS [a]).1 = a) := by
  by_cases h : (checkL a).1 = 0
  · obtain ⟨h1, h2, _⟩ := checkL_ok h
    have e : errFrom [a] = 0 := by simp [errFrom, h]
    unfold joinS
    rw [if_pos e, if_neg (by rw [show sumL [a] = a.length by simp [sumL]]; omega), joinFrom_nil_one]
    exact ⟨h.symm, fun _ => rfl⟩
  · have e : errFrom [a] = (checkL a).1 := by simp [errFrom, h]
    unfold joinS
    rw [e, if_neg h]
    exact ⟨rfl, fun h' => absurd h' h⟩
/-- what follows where all three joins succeed -/
theorem join_all {a b c : Prog} (e : (joinS [a, b]).2 = 0) (f : (joinS [b, c]).2 = 0) (g : (joinS [a, b, c]).2 = 0) :
    joinS [(joinS [a, b]).1, c] = joinS [a, b, c] ∧ joinS [a, (joinS [b, c]).1] = joinS [a, b, c] := by
  have ok : ∀ {P : List Prog}, (joinS P).2 = 0 → errFrom P = 0 ∧ 1 ≤ sumL P ∧ sumL P ≤ 400 ∧ joinS P = (joinFrom [] P, 0) := by
    intro P h
    by_cases h0 : errFrom P = 0
    · by_cases h1 : sumL P < 1 ∨ 400 < sumL P
      · unfold joinS at h; rw [if_pos h0, if_pos h1] at h; exact absurd h (by decide)
      · refine ⟨h0, by omega, by omega, ?_⟩
        unfold joinS; rw [if_pos h0, if_neg h1]
    · unfold joinS at h; rw [if_neg h0] at h; exact absurd h h0
  obtain ⟨e1, e2, e3, e4⟩ := ok e
  obtain ⟨f1, f2, f3, f4⟩ := ok f
  obtain ⟨g1, g2, g3, g4⟩ := ok g
  have ha := errFrom_all g1 a (by simp)
  have hb := errFrom_all g1 b (by simp)
  have hc := errFrom_all g1 c (by simp)
  have sab : a.length + b.length ≤ 400 := by simpa [sumL] using e3
  have sbc : b.length + c.length ≤ 400 := by simpa [sumL] using f3
  have sabc : a.length + (b.length + c.length) ≤ 400 := by simpa [sumL] using g3
  have sabc1 : 1 ≤ a.length + (b.length + c.length) := by simpa [sumL] using g2
  have hab := checkL_join ha hb sab
  have hbc := checkL_join hb hc sbc
  have lab : (joinFrom [] [a, b]).length = a.length + b.length := by rw [joinFrom_length]; simp [sumL]
  have lbc : (joinFrom [] [b, c]).length = b.length + c.length := by rw [joinFrom_length]; simp [sumL]
  rw [e4, f4, g4]
  constructor
  · unfold joinS
    rw [if_pos (by simp [errFrom, hab, hc]), if_neg (by rw [show sumL [joinFrom [] [a, b], c] = (a.length + b.length) + c.length by simp [sumL, lab]]; omega), join_left]
  · unfold joinS
    rw [if_pos (by simp [errFrom, ha, hbc]), if_neg (by rw [show sumL [a, joinFrom [] [b, c]] = a.length + (b.length + c.length) by simp [sumL, lbc]]; omega), join_right]
theorem joinS_err (P : List Prog) : (joinS P).2 = 0 ∨ (joinS P).2 ≠ 0 := by omega
set_option maxHeartbeats 8000000 in
theorem CodeNested_any (ao bo co : Option Addr) (ca cb cc : Nat) (la lb lc : Prog) (w : World) (he : Env w) (ha : SeesP w ao la) (hb : SeesP w bo lb) (hc : SeesP w co lc) (fa : FitP la ca) (fb : FitP lb cb) (fc : FitP lc cc) :
    Calls Tryd.prog 7 #[.slice ao la.length ca, .slice bo lb.length cb, .slice co lc.length cc] w fun e w' => e = .returned (.bool true) ∧ Below w.heap.size w w' := by
  obtain ⟨A, hA⟩ : ∃ A, A = la.length := ⟨_, rfl⟩
  obtain ⟨B, hB⟩ : ∃ B, B = lb.length := ⟨_, rfl⟩
  obtain ⟨C, hC⟩ : ∃ C, C = lc.length := ⟨_, rfl⟩
  rw [← hA, ← hB, ← hC]
  have HA := Lib.hid hA
  have HB := Lib.hid hB
  have HC := Lib.hid hC
  have SA := Lib.hid ha
  have SB := Lib.hid hb
  have SC := Lib.hid hc
  have FA := Lib.hid fa
  have FB := Lib.hid fb
  have FC := Lib.hid fc
  have HE := Lib.hid he
  clear hA hB hC ha hb hc fa fb fc he
  obtain ⟨X, hX⟩ : ∃ X, X = (joinS [la, lb]).1 := ⟨_, rfl⟩
  obtain ⟨e1, he1⟩ : ∃ e1, e1 = (joinS [la, lb]).2 := ⟨_, rfl⟩
  obtain ⟨Y, hY⟩ : ∃ Y, Y = (joinS [lb, lc]).1 := ⟨_, rfl⟩
  obtain ⟨e2, he2⟩ : ∃ e2, e2 = (joinS [lb, lc]).2 := ⟨_, rfl⟩
  obtain ⟨Z, hZ⟩ : ∃ Z, Z = (joinS [la, lb, lc]).1 := ⟨_, rfl⟩
  obtain ⟨e3, he3⟩ : ∃ e3, e3 = (joinS [la, lb, lc]).2 := ⟨_, rfl⟩
  have hXl : X.length ≤ 400 := by rw [hX]; exact joinS_le _
  have hYl : Y.length ≤ 400 := by rw [hY]; exact joinS_le _
  have hZl : Z.length ≤ 400 := by rw [hZ]; exact joinS_le _
  have hall : e1 = 0 → e2 = 0 → e3 = 0 → joinS [X, lc] = (Z, 0) ∧ joinS [la, Y] = (Z, 0) := fun h1 h2 h3 => by
    have := join_all (a := la) (b := lb) (c := lc) (by rw [← he1]; exact h1) (by rw [← he2]; exact h2) (by rw [← he3]; exact h3)
    rw [← hX, ← hY] at this
    have hz : joinS [la, lb, lc] = (Z, 0) := by
      rw [hZ, ← h3, he3]
    rw [hz] at this
    exact this
  obtain ⟨k1, k2⟩ := joinS_one la
  obtain ⟨r, hr⟩ : ∃ r, r = (checkL la).1 := ⟨_, rfl⟩
  rw [← hr] at k1 k2
  have HXL := Lib.hid hXl
  have HYL := Lib.hid hYl
  have HZL := Lib.hid hZl
  have HALL := Lib.hid hall
  have HX := Lib.hid hX
  have HE1 := Lib.hid he1
  have HY := Lib.hid hY
  have HE2 := Lib.hid he2
  have HZ := Lib.hid hZ
  have HE3 := Lib.hid he3
  have K1 := Lib.hid k1
  have K2 := Lib.hid k2
  have HR := Lib.hid hr
  clear hX he1 hY he2 hZ he3 hXl hYl hZl hall k1 k2 hr
  go_enter Tryd.func7, Tryd.ntmps7
  go_upto_region 3 with (first
    | (go_at_call 8; go_must (refine (awake15_any _ HE.out).mono ?_; rintro e w1 ⟨rfl, hb1⟩; have hz1 := hb1.size))
    | (go_at_call 22; go_must (refine (Join_two _ _ ao bo A B ca cb la lb _ HA.out.symm HB.out.symm (heap_new _ _ _ rfl) (by exact (SA.out.below hb1).below ((Below.refl _ _).alloc (Nat.le_refl _) _)) (by exact (SB.out.below hb1).below ((Below.refl _ _).alloc (Nat.le_refl _) _)) FA.out FB.out).mono ?_; rintro e w2 ⟨v2, rfl, ho2, hb2⟩)))
  have B2 : Below w.heap.size w w2 := (hb1.alloc hz1 _).trans (hb2.mono (by simp; omega))
  rw [← HE1.out]
  rw [← HX.out] at ho2
  obtain ⟨ax, cx, rfl, hsx, hcx⟩ := ho2.part
  obtain ⟨xn, hxn⟩ : ∃ xn, xn = X.length := ⟨_, rfl⟩
  rw [← hxn] at hcx ⊢
  have HXN := Lib.hid hxn
  have SX := Lib.hid hsx
  have hz2 := B2.size
  have HB2 := Lib.hid B2
  clear hb1 hb2 ho2 hsx hxn B2
  go_upto_region 4 with (go_at_call 22; go_must (refine (Join_two _ _ bo co B C cb cc lb lc _ HB.out.symm HC.out.symm (heap_new _ _ _ rfl) (by exact (SB.out.below HB2.out).below ((Below.refl _ _).alloc (Nat.le_refl _) _)) (by exact (SC.out.below HB2.out).below ((Below.refl _ _).alloc (Nat.le_refl _) _)) FB.out FC.out).mono ?_; rintro e w3 ⟨v3, rfl, ho3, hb3⟩))
  have b23 : Below w2.heap.size w2 w3 := ((Below.refl _ _).alloc (Nat.le_refl _) _).trans (hb3.mono (by simp))
  rw [← HE2.out]
  rw [← HY.out] at ho3
  obtain ⟨ay, cy, rfl, hsy, hcy⟩ := ho3.part
  obtain ⟨yn, hyn⟩ : ∃ yn, yn = Y.length := ⟨_, rfl⟩
  rw [← hyn] at hcy ⊢
  have HYN := Lib.hid hyn
  have SY := Lib.hid hsy
  have HB23 := Lib.hid b23
  have HB3 := Lib.hid (HB2.out.trans (b23.mono hz2))
  clear hb3 ho3 hsy hyn b23
  go_upto_region 5 with (go_at_call 22; go_must (refine (Join_three _ _ ao bo co A B C ca cb cc la lb lc _ HA.out.symm HB.out.symm HC.out.symm (heap_new _ _ _ rfl) (by exact (SA.out.below HB3.out).below ((Below.refl _ _).alloc (Nat.le_refl _) _)) (by exact (SB.out.below HB3.out).below ((Below.refl _ _).alloc (Nat.le_refl _) _)) (by exact (SC.out.below HB3.out).below ((Below.refl _ _).alloc (Nat.le_refl _) _)) FA.out FB.out FC.out).mono ?_; rintro e w4 ⟨v4, rfl, ho4, hb4⟩))
  have b34 : Below w3.heap.size w3 w4 := ((Below.refl _ _).alloc (Nat.le_refl _) _).trans (hb4.mono (by simp))
  rw [← HE3.out]
  rw [← HZ.out] at ho4
  obtain ⟨az, cz, rfl, hsz, hcz⟩ := ho4.part
  obtain ⟨zn, hzn⟩ : ∃ zn, zn = Z.length := ⟨_, rfl⟩
  rw [← hzn] at hcz ⊢
  have HZN := Lib.hid hzn
  have SZ := Lib.hid hsz
  have HB34 := Lib.hid b34
  have HB4 := Lib.hid (HB3.out.trans (b34.mono HB3.out.size))
  have SX4 := Lib.hid ((SX.out.below HB23.out).below b34)
  have SY4 := Lib.hid (SY.out.below b34)
  clear hb4 ho4 hsz hzn b34
  by_cases hz : e1 = 0 ∧ e2 = 0 ∧ e3 = 0
  · obtain ⟨h1, h2, h3⟩ := hz
    subst h1; subst h2; subst h3
    obtain ⟨j1, j2⟩ := HALL.out rfl rfl rfl
    have J1 := Lib.hid j1
    have J2 := Lib.hid j2
    have FX := Lib.hid (show FitP X cx from ⟨by have := HXL.out; omega, by rw [← HXN.out]; exact hcx⟩)
    have FY := Lib.hid (show FitP Y cy from ⟨by have := HYL.out; omega, by rw [← HYN.out]; exact hcy⟩)
    clear j1 j2
    go_upto_region 7 with (go_at_call 22; go_must (refine (Join_two _ _ ax co xn C cx cc X lc _ HXN.out.symm HC.out.symm (heap_new _ _ _ rfl) (by exact SX4.out.below ((Below.refl _ _).alloc (Nat.le_refl _) _)) (by exact (SC.out.below HB4.out).below ((Below.refl _ _).alloc (Nat.le_refl _) _)) FX.out FC.out).mono ?_; rintro e w5 ⟨v5, rfl, ho5, hb5⟩))
    have b45 : Below w4.heap.size w4 w5 := ((Below.refl _ _).alloc (Nat.le_refl _) _).trans (hb5.mono (by simp))
    rw [J1.out] at ho5 ⊢
    simp only at ho5 ⊢
    obtain ⟨al, cl, rfl, hsl, hcl⟩ := ho5.part
    rw [← HZN.out]
    have SL := Lib.hid hsl
    have HB45 := Lib.hid b45
    have HB5 := Lib.hid (HB4.out.trans (b45.mono HB4.out.size))
    clear hb5 ho5 hsl b45 hcl
    go_upto_region 8 with (go_at_call 22; go_must (refine (Join_two _ _ ao ay A yn ca cy la Y _ HA.out.symm HYN.out.symm (heap_new _ _ _ rfl) (by exact (SA.out.below HB5.out).below ((Below.refl _ _).alloc (Nat.le_refl _) _)) (by exact (SY4.out.below HB45.out).below ((Below.refl _ _).alloc (Nat.le_refl _) _)) FA.out FY.out).mono ?_; rintro e w6 ⟨v6, rfl, ho6, hb6⟩))
    have b56 : Below w5.heap.size w5 w6 := ((Below.refl _ _).alloc (Nat.le_refl _) _).trans (hb6.mono (by simp))
    rw [J2.out] at ho6 ⊢
    simp only at ho6 ⊢
    obtain ⟨ar, cr, rfl, hsr, hcr⟩ := ho6.part
    rw [← HZN.out]
    have SR := Lib.hid hsr
    have SL6 := Lib.hid (SL.out.below b56)
    have SZ6 := Lib.hid ((SZ.out.below HB45.out).below b56)
    have HB6 := Lib.hid (HB5.out.trans (b56.mono HB5.out.size))
    have hzz : zn ≤ 400 := by rw [HZN.out]; exact HZL.out
    clear hb6 ho6 hsr b56 hcr
    go_upto_region 11 with (first
      | (go_at_call_of 12 (Value.slice al zn cl); go_must (refine (same_any _ _ zn zn _ _ Z Z _ HZN.out.symm HZN.out.symm (by exact SL6.out) (by exact SZ6.out) (by unfold maxLen; omega) (by unfold maxLen; omega)).mono ?_; rintro e w7 ⟨rfl, k7, rfl⟩; rw [decide_eq_true (rfl : Z = Z)]))
      | (go_at_call 12; go_must (refine (same_any _ _ zn zn _ _ Z Z _ HZN.out.symm HZN.out.symm (by exact SR.out.drewN k7) (by exact SZ6.out.drewN k7) (by unfold maxLen; omega) (by unfold maxLen; omega)).mono ?_; rintro e w8 ⟨rfl, k8, rfl⟩; rw [decide_eq_true (rfl : Z = Z)])))
    refine wp_gen (fun W => Below w.heap.size w W) ?_ ?_
    · have hBw := HB6.out
      exact ⟨hBw.os, hBw.tape, hBw.output, hBw.size, hBw.block⟩
    · intro W BW
      go_upto_region 13 with (first
        | (go_at_call 22; go_must (refine (Join_one _ _ ao A ca la _ HA.out.symm (heap_new _ _ _ rfl) (by exact (SA.out.below BW).below ((Below.refl _ _).alloc (Nat.le_refl _) _)) FA.out).mono ?_; rintro e wa ⟨va, rfl, hoa, hba⟩))
        | (go_at_call 10; go_must (refine (Check_all ao A ca la _ HA.out.symm (by exact SA.out.below (BW.trans ((((Below.refl _ _).alloc (Nat.le_refl _) _).trans (hba.mono (by simp))).mono BW.size))) (by have := FA.out.1; unfold maxLen; rw [HA.out]; omega)).mono ?_; rintro e wb ⟨rfl, hbb⟩)))
      have BA := BW.trans ((((Below.refl W.heap.size W).alloc (Nat.le_refl _) _).trans (hba.mono (by simp))).mono BW.size)
      have BB := BA.trans (hbb.mono BA.size)
      rw [K1.out, ← HR.out]
      obtain ⟨aa, ca', rfl, hsa, hcapa⟩ := hoa.part
      have hLa := joinS_le [la]
      by_cases hr0 : r = 0
      · subst hr0
        have hje := K2.out rfl
        rw [hje] at hsa hcapa hLa ⊢
        rw [← HA.out] at hLa hcapa ⊢
        have HSA := Lib.hid (hsa.below hbb)
        have HBB := Lib.hid BB
        have HLA := Lib.hid hLa
        clear hoa hba hbb BA BB BW hje hsa
        go_wp2_with (go_at_call 12; go_must (refine (same_any _ _ A A _ _ la la _ HA.out.symm HA.out.symm (by exact HSA.out) (by exact SA.out.below HBB.out) (by have := HLA.out; unfold maxLen; omega) (by have := HLA.out; unfold maxLen; omega)).mono ?_; rintro e wc ⟨rfl, k6, rfl⟩; rw [decide_eq_true (rfl : la = la)]))
        go_ret
        have hBw := HBB.out
        exact ⟨rfl, ⟨hBw.os, hBw.tape, hBw.output, hBw.size, hBw.block⟩⟩
      · have hr1 : (r == 0) = false := by simpa using hr0
        have hr2 : (r != 0) = true := by simpa using hr0
        obtain ⟨M, hM⟩ : ∃ M, M = (joinS [la]).1.length := ⟨_, rfl⟩
        rw [← hM] at hLa hcapa ⊢
        have HM := Lib.hid hM
        have HSA := Lib.hid (hsa.below hbb)
        have HBB := Lib.hid BB
        obtain ⟨S0, hS0⟩ : ∃ S0, S0 = decide ((joinS [la]).1 = la) := ⟨_, rfl⟩
        have HS0 := Lib.hid hS0
        clear hoa hba hbb BA BB BW hr0 hM hsa hS0
        have hA63 : A ≤ 9223372036854775807 := by have := FA.out.1; rw [← HA.out] at this; omega
        cases S0
        all_goals
          go_wp2_with (go_at_call 12; go_must (refine (same_any _ _ M A _ _ _ la _ HM.out.symm HA.out.symm (by exact HSA.out) (by exact SA.out.below HBB.out) (by unfold maxLen; omega) (by unfold maxLen; omega)).mono ?_; rintro e wc ⟨rfl, k6, rfl⟩; rw [← HS0.out]))
          go_ret
          have hBw := HBB.out
          exact ⟨rfl, ⟨hBw.os, hBw.tape, hBw.output, hBw.size, hBw.block⟩⟩
  · have hcase : e1 ≠ 0 ∨ (e1 = 0 ∧ e2 ≠ 0) ∨ (e1 = 0 ∧ e2 = 0 ∧ e3 ≠ 0) := by omega
    clear hz
    rcases hcase with h1 | ⟨h1, h2⟩ | ⟨h1, h2, h3⟩
    · have q1 : (e1 == 0) = false := by simpa using h1
      clear h1
      go_upto_region 11 with (fail)
      refine wp_gen (fun W => Below w.heap.size w W) (by exact HB4.out) ?_
      intro W BW
      go_upto_region 13 with (first
        | (go_at_call 22; go_must (refine (Join_one _ _ ao A ca la _ HA.out.symm (heap_new _ _ _ rfl) (by exact (SA.out.below BW).below ((Below.refl _ _).alloc (Nat.le_refl _) _)) FA.out).mono ?_; rintro e wa ⟨va, rfl, hoa, hba⟩))
        | (go_at_call 10; go_must (refine (Check_all ao A ca la _ HA.out.symm (by exact SA.out.below (BW.trans ((((Below.refl _ _).alloc (Nat.le_refl _) _).trans (hba.mono (by simp))).mono BW.size))) (by have := FA.out.1; unfold maxLen; rw [HA.out]; omega)).mono ?_; rintro e wb ⟨rfl, hbb⟩)))
      have BA := BW.trans ((((Below.refl W.heap.size W).alloc (Nat.le_refl _) _).trans (hba.mono (by simp))).mono BW.size)
      have BB := BA.trans (hbb.mono BA.size)
      rw [K1.out, ← HR.out]
      obtain ⟨aa, ca', rfl, hsa, hcapa⟩ := hoa.part
      have hLa := joinS_le [la]
      by_cases hr0 : r = 0
      · subst hr0
        have hje := K2.out rfl
        rw [hje] at hsa hcapa hLa ⊢
        rw [← HA.out] at hLa hcapa ⊢
        have HSA := Lib.hid (hsa.below hbb)
        have HBB := Lib.hid BB
        have HLA := Lib.hid hLa
        clear hoa hba hbb BA BB BW hje hsa
        go_wp2_with (go_at_call 12; go_must (refine (same_any _ _ A A _ _ la la _ HA.out.symm HA.out.symm (by exact HSA.out) (by exact SA.out.below HBB.out) (by have := HLA.out; unfold maxLen; omega) (by have := HLA.out; unfold maxLen; omega)).mono ?_; rintro e wc ⟨rfl, k6, rfl⟩; rw [decide_eq_true (rfl : la = la)]))
        go_ret
        have hBw := HBB.out
        exact ⟨rfl, ⟨hBw.os, hBw.tape, hBw.output, hBw.size, hBw.block⟩⟩
      · have hr1 : (r == 0) = false := by simpa using hr0
        have hr2 : (r != 0) = true := by simpa using hr0
        obtain ⟨M, hM⟩ : ∃ M, M = (joinS [la]).1.length := ⟨_, rfl⟩
        rw [← hM] at hLa hcapa ⊢
        have HM := Lib.hid hM
        have HSA := Lib.hid (hsa.below hbb)
        have HBB := Lib.hid BB
        obtain ⟨S0, hS0⟩ : ∃ S0, S0 = decide ((joinS [la]).1 = la) := ⟨_, rfl⟩
        have HS0 := Lib.hid hS0
        clear hoa hba hbb BA BB BW hr0 hM hsa hS0
        have hA63 : A ≤ 9223372036854775807 := by have := FA.out.1; rw [← HA.out] at this; omega
        cases S0
        all_goals
          go_wp2_with (go_at_call 12; go_must (refine (same_any _ _ M A _ _ _ la _ HM.out.symm HA.out.symm (by exact HSA.out) (by exact SA.out.below HBB.out) (by unfold maxLen; omega) (by unfold maxLen; omega)).mono ?_; rintro e wc ⟨rfl, k6, rfl⟩; rw [← HS0.out]))
          go_ret
          have hBw := HBB.out
          exact ⟨rfl, ⟨hBw.os, hBw.tape, hBw.output, hBw.size, hBw.block⟩⟩
    · subst h1
      have q1 : (e2 == 0) = false := by simpa using h2
      clear h2
      go_upto_region 11 with (fail)
      refine wp_gen (fun W => Below w.heap.size w W) (by exact HB4.out) ?_
      intro W BW
      go_upto_region 13 with (first
        | (go_at_call 22; go_must (refine (Join_one _ _ ao A ca la _ HA.out.symm (heap_new _ _ _ rfl) (by exact (SA.out.below BW).below ((Below.refl _ _).alloc (Nat.le_refl _) _)) FA.out).mono ?_; rintro e wa ⟨va, rfl, hoa, hba⟩))
        | (go_at_call 10; go_must (refine (Check_all ao A ca la _ HA.out.symm (by exact SA.out.below (BW.trans ((((Below.refl _ _).alloc (Nat.le_refl _) _).trans (hba.mono (by simp))).mono BW.size))) (by have := FA.out.1; unfold maxLen; rw [HA.out]; omega)).mono ?_; rintro e wb ⟨rfl, hbb⟩)))
      have BA := BW.trans ((((Below.refl W.heap.size W).alloc (Nat.le_refl _) _).trans (hba.mono (by simp))).mono BW.size)
      have BB := BA.trans (hbb.mono BA.size)
      rw [K1.out, ← HR.out]
      obtain ⟨aa, ca', rfl, hsa, hcapa⟩ := hoa.part
      have hLa := joinS_le [la]
      by_cases hr0 : r = 0
      · subst hr0
        have hje := K2.out rfl
        rw [hje] at hsa hcapa hLa ⊢
        rw [← HA.out] at hLa hcapa ⊢
        have HSA := Lib.hid (hsa.below hbb)
        have HBB := Lib.hid BB
        have HLA := Lib.hid hLa
        clear hoa hba hbb BA BB BW hje hsa
        go_wp2_with (go_at_call 12; go_must (refine (same_any _ _ A A _ _ la la _ HA.out.symm HA.out.symm (by exact HSA.out) (by exact SA.out.below HBB.out) (by have := HLA.out; unfold maxLen; omega) (by have := HLA.out; unfold maxLen; omega)).mono ?_; rintro e wc ⟨rfl, k6, rfl⟩; rw [decide_eq_true (rfl : la = la)]))
        go_ret
        have hBw := HBB.out
        exact ⟨rfl, ⟨hBw.os, hBw.tape, hBw.output, hBw.size, hBw.block⟩⟩
      · have hr1 : (r == 0) = false := by simpa using hr0
        have hr2 : (r != 0) = true := by simpa using hr0
        obtain ⟨M, hM⟩ : ∃ M, M = (joinS [la]).1.length := ⟨_, rfl⟩
        rw [← hM] at hLa hcapa ⊢
        have HM := Lib.hid hM
        have HSA := Lib.hid (hsa.below hbb)
        have HBB := Lib.hid BB
        obtain ⟨S0, hS0⟩ : ∃ S0, S0 = decide ((joinS [la]).1 = la) := ⟨_, rfl⟩
        have HS0 := Lib.hid hS0
        clear hoa hba hbb BA BB BW hr0 hM hsa hS0
        have hA63 : A ≤ 9223372036854775807 := by have := FA.out.1; rw [← HA.out] at this; omega
        cases S0
        all_goals
          go_wp2_with (go_at_call 12; go_must (refine (same_any _ _ M A _ _ _ la _ HM.out.symm HA.out.symm (by exact HSA.out) (by exact SA.out.below HBB.out) (by unfold maxLen; omega) (by unfold maxLen; omega)).mono ?_; rintro e wc ⟨rfl, k6, rfl⟩; rw [← HS0.out]))
          go_ret
          have hBw := HBB.out
          exact ⟨rfl, ⟨hBw.os, hBw.tape, hBw.output, hBw.size, hBw.block⟩⟩
    · subst h1; subst h2
      have q1 : (e3 == 0) = false := by simpa using h3
      clear h3
      go_upto_region 11 with (fail)
      refine wp_gen (fun W => Below w.heap.size w W) (by exact HB4.out) ?_
      intro W BW
      go_upto_region 13 with (first
        | (go_at_call 22; go_must (refine (Join_one _ _ ao A ca la _ HA.out.symm (heap_new _ _ _ rfl) (by exact (SA.out.below BW).below ((Below.refl _ _).alloc (Nat.le_refl _) _)) FA.out).mono ?_; rintro e wa ⟨va, rfl, hoa, hba⟩))
        | (go_at_call 10; go_must (refine (Check_all ao A ca la _ HA.out.symm (by exact SA.out.below (BW.trans ((((Below.refl _ _).alloc (Nat.le_refl _) _).trans (hba.mono (by simp))).mono BW.size))) (by have := FA.out.1; unfold maxLen; rw [HA.out]; omega)).mono ?_; rintro e wb ⟨rfl, hbb⟩)))
      have BA := BW.trans ((((Below.refl W.heap.size W).alloc (Nat.le_refl _) _).trans (hba.mono (by simp))).mono BW.size)
      have BB := BA.trans (hbb.mono BA.size)
      rw [K1.out, ← HR.out]
      obtain ⟨aa, ca', rfl, hsa, hcapa⟩ := hoa.part
      have hLa := joinS_le [la]
      by_cases hr0 : r = 0
      · subst hr0
        have hje := K2.out rfl
        rw [hje] at hsa hcapa hLa ⊢
        rw [← HA.out] at hLa hcapa ⊢
        have HSA := Lib.hid (hsa.below hbb)
        have HBB := Lib.hid BB
        have HLA := Lib.hid hLa
        clear hoa hba hbb BA BB BW hje hsa
        go_wp2_with (go_at_call 12; go_must (refine (same_any _ _ A A _ _ la la _ HA.out.symm HA.out.symm (by exact HSA.out) (by exact SA.out.below HBB.out) (by have := HLA.out; unfold maxLen; omega) (by have := HLA.out; unfold maxLen; omega)).mono ?_; rintro e wc ⟨rfl, k6, rfl⟩; rw [decide_eq_true (rfl : la = la)]))
        go_ret
        have hBw := HBB.out
        exact ⟨rfl, ⟨hBw.os, hBw.tape, hBw.output, hBw.size, hBw.block⟩⟩
      · have hr1 : (r == 0) = false := by simpa using hr0
        have hr2 : (r != 0) = true := by simpa using hr0
        obtain ⟨M, hM⟩ : ∃ M, M = (joinS [la]).1.length := ⟨_, rfl⟩
        rw [← hM] at hLa hcapa ⊢
        have HM := Lib.hid hM
        have HSA := Lib.hid (hsa.below hbb)
        have HBB := Lib.hid BB
        obtain ⟨S0, hS0⟩ : ∃ S0, S0 = decide ((joinS [la]).1 = la) := ⟨_, rfl⟩
        have HS0 := Lib.hid hS0
        clear hoa hba hbb BA BB BW hr0 hM hsa hS0
        have hA63 : A ≤ 9223372036854775807 := by have := FA.out.1; rw [← HA.out] at this; omega
        cases S0
        all_goals
          go_wp2_with (go_at_call 12; go_must (refine (same_any _ _ M A _ _ _ la _ HM.out.symm HA.out.symm (by exact HSA.out) (by exact SA.out.below HBB.out) (by unfold maxLen; omega) (by unfold maxLen; omega)).mono ?_; rintro e wc ⟨rfl, k6, rfl⟩; rw [← HS0.out]))
          go_ret
          have hBw := HBB.out
          exact ⟨rfl, ⟨hBw.os, hBw.tape, hBw.output, hBw.size, hBw.block⟩⟩
end Go.Proofs.YtojgdabkdbchnaaDoor
