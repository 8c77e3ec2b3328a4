/-
  quash/quashlaw20.DequeKeeps answers true. Condition: the library's variables (Env), what the reading gives of the slices.
-/
import Derived.Test.YtocgmonfmpkkkaaGreatDoorDequeDoesWalk
namespace Go.Proofs.YtocgmonfmpkkkaaGreatDoor
open Go.RowKit
set_option maxRecDepth 100000

theorem gave_of {zs : List Int} {n op a b x y : Int} {D T : List Int} {ok : Bool} {p q : Nat} {E : Int} (h : doS zs n op a b x y = (D, T, ok)) (hp : D.length = p) (hq : T.length = q) (hE : (if ok then (0 : Int) else 200) = E) (ao : Option Addr) (m c : Nat) (w : World) (hm : zs.length = m) (hf : Flat ao m c) (hs : Sees w ao zs) :
    Calls Tryz.prog 17 #[.slice ao m c, .int .i64 n, .agg #[.int .i64 op, .int .i64 a, .int .i64 b, .int .i64 x, .int .i64 y]] w fun e w' =>
      ∃ ao' c' bo d, e = .returned (.tuple #[.slice ao' p c', .slice bo q d, .int .i64 E]) ∧ Flat ao' p c' ∧ Own w' w.heap.size (.slice ao' p c') D ∧ Own w' w.heap.size (.slice bo q d) T ∧ Below w.heap.size w w' := by
  subst hp; subst hq; subst hE
  have hd := Do_any ao m c zs n op a b x y w hm hf hs
  rw [h] at hd
  refine hd.mono fun e w' hg => ?_
  obtain ⟨v, t, rfl, hv, ht, _, hB⟩ := hg
  obtain ⟨ao', c', rfl, hf', _⟩ := hv.slice
  obtain ⟨bo, d, rfl, _⟩ := ht.slice
  exact ⟨ao', c', bo, d, rfl, hf', hv, ht, hB⟩
theorem doS_no {zs : List Int} {n op a b x y : Int} (h : doOk zs n op a b x y = false) : doS zs n op a b x y = ([], [], false) := by
  unfold doS
  rw [h]
  rfl
theorem doS_yes {zs : List Int} {n op a b x y : Int} (h : doOk zs n op a b x y = true) : doS zs n op a b x y = ((deedS zs n op x).1, (deedS zs n op x).2, true) := by
  unfold doS
  rw [h]
  rfl
theorem push_full {zs : List Int} {n x : Int} (h : (zs.length : Int) = n) : deedS zs n 1 x = (zs, [0]) := by
  unfold deedS
  rw [if_neg (by omega), if_pos (Or.inl rfl), if_pos h]
theorem push_room {zs : List Int} {n x : Int} (h : ¬ (zs.length : Int) = n) : deedS zs n 1 x = (zs ++ [x], [1]) := by
  unfold deedS
  rw [if_neg (by omega), if_pos (Or.inl rfl), if_neg h, if_pos rfl]
theorem pop_some {zs : List Int} {n x : Int} {k : Nat} {z : Int} (h : zs.length = k + 1) (hz : zs[k]? = some z) : deedS zs n 3 x = (zs.take k, [1, z]) := by
  unfold deedS
  rw [if_neg (by omega), if_neg (by omega), if_neg (by omega), if_pos rfl, h]
  simp only [Nat.add_sub_cancel]
  rw [List.getD_eq_getElem?_getD, hz]
  rfl
theorem shift_some {zs : List Int} {n x : Int} {z : Int} (hz : zs[0]? = some z) : deedS zs n 4 x = (zs.drop 1, [1, z]) := by
  have h : zs.length ≠ 0 := by intro e; rw [List.length_eq_zero_iff.1 e] at hz; cases hz
  unfold deedS
  rw [if_neg (by omega), if_neg (by omega), if_neg h, if_neg (by omega)]
  rw [List.getD_eq_getElem?_getD, hz]
  rfl
theorem Sees.at {w : World} {ao : Option Addr} {zs : List Int} (h : Sees w ao zs) (j : Nat) {z : Int} (hj : zs[j]? = some z) : ∃ b o, ao = some ⟨b, o, none⟩ ∧ w.cell? ⟨b, o + j, none⟩ = some (.int .i64 z) := by
  obtain ⟨b, o, h1, h2⟩ := h
  have hl := (List.getElem?_eq_some_iff.1 hj).1
  refine ⟨b, o, h1 (by intro e; subst e; simp at hl), (h2 j hl).trans ?_⟩
  rw [List.getD_eq_getElem?_getD, hj]; rfl
set_option maxHeartbeats 4000000 in
theorem DequeKeeps_any (ao : Option Addr) (c : Nat) (zs : List Int) (n : Int) (bo : Option Addr) (d : Nat) (vs : List Int) (pops : Bool) (w : World) (he : Env w) (hs0 : Sees w ao zs) (hnil : ao = none → c = 0) (hlen : zs.length * 8 ≤ 140737488351232) (hvs : Sees w bo vs) (_hvl : vs.length ≤ maxLen) :
    Calls Tryz.prog 6 #[.slice ao zs.length c, .int .i64 n, .slice bo vs.length d, .bool pops] w fun e w' => e = .returned (.bool true) ∧ Below w.heap.size w w' := by
  unfold maxLen at _hvl
  obtain ⟨N, hN⟩ : ∃ N, N = zs.length := ⟨_, rfl⟩
  obtain ⟨M, hM⟩ : ∃ M, M = vs.length := ⟨_, rfl⟩
  have HN := Lib.hid hN
  have HM := Lib.hid hM
  have HC := Lib.hid hs0
  have HV := Lib.hid hvs
  have HE := Lib.hid he
  rw [← hN] at hlen
  rw [← hM] at _hvl
  rw [← hN, ← hM]
  clear he hs0 hvs hN hM
  go_enter Tryz.func6, Tryz.ntmps6
  go_upto_region 3 with (go_at_call 9; go_must (refine (awake_any _ HE.out).mono ?_; rintro e w1 ⟨rfl, hB1⟩))
  have HS1 := Lib.hid (HC.out.below hB1)
  go_upto_region 5 with (first | (at_builtin; refine wpList_append64 (Own.nil w1 w1.heap.size) (Nat.le_refl _) ao N c zs HN.out.symm HS1.out hnil (by rw [← HN.out]; simp; omega) rfl _ _ rfl rfl rfl ?_; intro v2 w2 hown2 hgrow2))
  rw [List.nil_append] at hown2
  have hB2 : Below w1.heap.size w1 w2 := (Below.refl _ _).grown hgrow2 (Nat.le_refl _) (by intro k hk; cases hk)
  obtain ⟨ao2, c2, rfl, hf2, -, -⟩ := hown2.slice
  have hvs2 : Sees w1 bo vs := HV.out.below hB1
  have HV2 := Lib.hid hvs2
  have HB1 := Lib.hid hB1
  have HOWN2 := Lib.hid hown2
  have HF2 := Lib.hid hf2
  clear hB1 hown2 hgrow2 HS1 HC HV HE hvs2 hf2 hnil
  go_wp2
  go_loopw [10, 11, 12] (fun u v t wr => ∃ (i : Nat) (L : List Int) (a1 : Option Addr) (k1 : Nat) (a2 : Option Addr) (k2 : Nat), i ≤ M ∧ t = .int .i64 i ∧ u = .slice a1 L.length k1 ∧ v = .slice a2 L.length k2 ∧ Own wr w1.heap.size u L ∧ Sees wr a2 L ∧ Flat a2 L.length k2 ∧ Below w1.heap.size w1 wr) (fun _ _ t _ => M - (intOf t).toNat)
  case atStart => exact ⟨0, zs, ao2, c2, ao2, c2, Nat.zero_le _, rfl, rfl, rfl, HOWN2.out, HOWN2.out.sees', HF2.out, hB2⟩
  case round =>
    obtain ⟨i, L, a1, k1, a2, k2, hi, rfl, rfl, rfl, hown, hsee, hflat, hB⟩ := hrel
    clear hB2
    obtain ⟨Q, hQ⟩ : ∃ Q, Q = L.length := ⟨_, rfl⟩
    have HQ := Lib.hid hQ
    have hzw : w1.heap.size ≤ wr.heap.size := hB.size
    have hkb : Q ≤ k1 ∧ k1 ≤ 9223372036854775807 := by
      obtain ⟨_, _, e, h1, h2, _⟩ := hown.slice
      injection e with e1 e2 e3
      subst e3
      unfold maxLen at h2
      exact ⟨by rw [hQ]; exact h1.2.2, h2⟩
    rw [← hQ] at hown hflat ⊢
    have HOWN := Lib.hid hown
    have HSEE := Lib.hid hsee
    have HFL := Lib.hid hflat
    have hkc := hflat.2.2
    clear hown hsee hflat hQ
    by_cases hlt : i < M ∧ i < 200
    · obtain ⟨hlt, hl2⟩ := hlt
      obtain ⟨x, hx⟩ : ∃ x, vs[i]? = some x := ⟨_, List.getElem?_eq_getElem (by rw [← HM.out]; exact hlt)⟩
      obtain ⟨bb, oo, rfl, hcx⟩ := Sees.at (HV2.out.below hB) i hx
      have hi0 : (0 : Int) ≤ (i : Int) := by omega
      have hi1 : (i : Int) < (M : Int) := by omega
      clear hx
      cases hok : doOk L n 1 0 0 x 0 with
      | false =>
        have HD := Lib.hid (fun W hs => gave_of (p := 0) (q := 0) (E := 200) (doS_no hok) rfl rfl rfl a2 Q k2 W HQ.out.symm HFL.out hs)
        clear hok
        go_wp2_with (go_at_call 17; go_must (refine (HD.out _ (by exact HSEE.out)).mono ?_; rintro e w5 ⟨ao5, c5, bo5, d5, rfl, hf5, ho5, ht5, hb5⟩))
        go_ret
        have hBB := HB1.out.trans ((hB.trans (hb5.mono hzw)).mono HB1.out.size)
        exact ⟨rfl, hBB⟩
      | true =>
        obtain ⟨-, -, hn100, hle, -⟩ := deed_parts hok
        have hQ100 : Q ≤ 100 := by rw [← HQ.out] at hle; omega
        by_cases hfull : (L.length : Int) = n
        · have HD := Lib.hid (fun W hs => gave_of (p := Q) (q := 1) (E := 0) (by rw [doS_yes hok, push_full hfull] : doS L n 1 0 0 x 0 = (L, [0], true)) HQ.out.symm rfl rfl a2 Q k2 W HQ.out.symm HFL.out hs)
          clear hok hfull hle hn100
          have hQ1 := hQ100
          clear hQ100
          go_upto_region 9 with (go_at_call 17; go_must (refine (HD.out _ (by exact HSEE.out)).mono ?_; rintro e w5 ⟨ao5, c5, bo5, d5, rfl, hf5, ho5, ht5, hb5⟩))
          obtain ⟨gt, ct, et, hbt⟩ := own_some ht5 rfl (by decide)
          injection et with et1 et0 et2
          clear et0
          subst et1; subst et2
          have ht0 := hbt.cell 0 rfl
          have HOW5 := Lib.hid (HOWN.out.below hb5)
          have HO5 := Lib.hid ho5
          have HF5 := Lib.hid hf5
          have hB5 := hB.trans (hb5.mono hzw)
          clear hbt ht5 hb5 ho5 hf5
          go_wp2
          go_roundw
          case rel => exact ⟨i + 1, L, a1, k1, ao5, c5, by omega, by go_num, by rw [← HQ.out], by rw [← HQ.out], by exact HOW5.out, by exact HO5.out.sees', by rw [← HQ.out]; exact HF5.out, hB5⟩
          case measure => simp [intOf]; omega
        · have HD := Lib.hid (fun W hs => gave_of (p := Q + 1) (q := 1) (E := 0) (by rw [doS_yes hok, push_room hfull] : doS L n 1 0 0 x 0 = (L ++ [x], [1], true)) (by rw [List.length_append, HQ.out]; rfl) rfl rfl a2 Q k2 W HQ.out.symm HFL.out hs)
          clear hok hfull hle hn100
          have hQ1 := hQ100
          clear hQ100
          go_upto_region 9 with (go_at_call 17; go_must (refine (HD.out _ (by exact HSEE.out)).mono ?_; rintro e w5 ⟨ao5, c5, bo5, d5, rfl, hf5, ho5, ht5, hb5⟩))
          obtain ⟨gt, ct, et, hbt⟩ := own_some ht5 rfl (by decide)
          injection et with et1 et0 et2
          clear et0
          subst et1; subst et2
          have ht0 := hbt.cell 0 rfl
          have how5 := HOWN.out.below hb5
          have hB5 := hB.trans (hb5.mono hzw)
          have hz5 := hB5.size
          have hcx5 := below_cellK hb5 (block_lt_of_cell hcx) hcx
          have HOW5 := Lib.hid how5
          have HO5 := Lib.hid ho5
          have HF5 := Lib.hid hf5
          have HOLT := Lib.hid (fun k (hk : (Value.slice a1 Q k1).ownBlock = some k) => (HOWN.out.lt k hk).2)
          clear hbt ht5 hb5 ho5 hf5 how5
          go_wp2_with (at_builtin; refine wpList_append64 (HOW5.out.below ((Below.refl _ _).alloc (Nat.le_refl _) _)) (by simp <;> omega) (some ⟨w5.heap.size, 0, none⟩) 1 1 [x] rfl (sees_one (heap_new _ _ _ rfl)) (fun h => by cases h) (by rw [← HQ.out]; simp <;> omega) rfl _ _ rfl rfl rfl ?_; intro v6 w6 hown6 hgrow6)
          obtain ⟨a6, k6, rfl, -⟩ := hown6.slice
          go_roundw
          case rel =>
            have hsee6 : Own w6 wr.heap.size (.slice ao5 (Q + 1) c5) (L ++ [x]) := by
              refine World.ownsRow.kept (HO5.out.below ((Below.refl _ _).alloc (Nat.le_refl _) _)) hgrow6 ?_
              by_cases h0 : (Value.slice ao5 (Q + 1) c5).ownBlock = none
              · exact Or.inl h0
              · refine Or.inr fun e => ?_
                obtain ⟨k, hk⟩ := Option.ne_none_iff_exists'.1 h0
                have h1 := HOLT.out k (e ▸ hk)
                have h2 := own_ge HO5.out hk
                omega
            refine ⟨i + 1, L ++ [x], a6, k6, ao5, c5, by omega, by go_num, ?_, ?_, by exact hown6, by exact hsee6.sees', ?_, (hB5.alloc hz5 _).grown hgrow6 (by simp <;> omega) (fun k hk => own_ge HOW5.out hk)⟩
            · rfl
            · rw [List.length_append, ← HQ.out]; rfl
            · rw [List.length_append, ← HQ.out]; exact HF5.out
          case measure => simp [intOf]; omega
    · have hcase : (i < M ∧ ¬ i < 200) ∨ ¬ i < M := by omega
      have HB := Lib.hid hB
      clear hlt
      rcases hcase with ⟨hc1, hc2⟩ | hc1
      all_goals
        go_wp2
        go_loopw [11, 16] (fun v t wr' => ∃ (k : Nat) (A : List Int) (a3 : Option Addr) (k3 : Nat), k ≤ Q ∧ t = .int .i64 k ∧ v = .slice a3 (Q - k) k3 ∧ A.length = Q - k ∧ Sees wr' a3 A ∧ Flat a3 (Q - k) k3 ∧ Own wr' w1.heap.size (.slice a1 Q k1) L ∧ Below w1.heap.size w1 wr' ∧ A = (if pops then L.take (Q - k) else L.drop k) ∧ (k = 0 ∨ (roomI n ≠ 0 ∧ ((Q - k : Nat) : Int) ≤ n))) (fun _ t _ => Q - (intOf t).toNat)
        case atStart => exact ⟨0, L, a2, k2, Nat.zero_le _, rfl, by rw [Nat.sub_zero], by rw [Nat.sub_zero]; exact HQ.out.symm, HSEE.out, by rw [Nat.sub_zero]; exact HFL.out, HOWN.out, HB.out, (by cases pops <;> simp [HQ.out]), Or.inl rfl⟩
        case round =>
          obtain ⟨k, A, a3, k3, hk, rfl, rfl, hA, hsee, hflat, hown, hB', hAL, hok⟩ := hrel
          have HA := Lib.hid hA
          have HAL := Lib.hid hAL
          have HSEA := Lib.hid hsee
          have HFA := Lib.hid hflat
          have HOWA := Lib.hid hown
          have hz' := hB'.size
          have hk3 := hflat.2.2
          clear hA hAL hsee hflat hown
          by_cases hlt : k < Q
          · obtain ⟨m, hm⟩ : ∃ m, Q - k = m + 1 := ⟨Q - k - 1, by omega⟩
            obtain ⟨g1, kk, e1, hb1⟩ := own_some HOWA.out HQ.out.symm (by omega)
            injection e1 with e2 e3 e4
            clear e3
            subst e2; subst e4
            have hA1 : A.length = m + 1 := HA.out.trans hm
            by_cases hrm : roomI n ≠ 0 ∧ ((m + 1 : Nat) : Int) ≤ n
            · have hmay : ∀ op : Int, op = 3 ∨ op = 4 → doOk A n op 0 0 0 0 = true := fun op ho => by
                simp only [doOk, hA1, Bool.and_eq_true, decide_eq_true_eq]
                exact ⟨⟨hrm.1, hrm.2⟩, by rcases ho with rfl | rfl <;> decide⟩
              have HRM := Lib.hid hrm
              rw [hm]
              cases pops with
              | false =>
                obtain ⟨z, hz⟩ : ∃ z, L[k]? = some z := ⟨_, List.getElem?_eq_getElem (by rw [← HQ.out]; exact hlt)⟩
                have hcz := hb1.cell k hz
                have hg1 := hb1.lt.1
                have hz0 : A[0]? = some z := by rw [HAL.out]; simpa using hz
                have HD := Lib.hid (fun W hs => gave_of (p := m) (q := 2) (E := 0) (by rw [doS_yes (hmay 4 (Or.inr rfl)), shift_some hz0] : doS A n 4 0 0 0 0 = (A.drop 1, [1, z], true)) (by simp [hA1]) rfl rfl a3 (m + 1) k3 W hA1 (by rw [← hm]; exact HFA.out) hs)
                have HAN := Lib.hid (show A.drop 1 = L.drop (k + 1) by rw [HAL.out]; simp)
                have hi0 : (0 : Int) ≤ (k : Int) := by omega
                have hi1 : (k : Int) < (Q : Int) := by omega
                clear hz hz0 hmay hrm hA1 hb1 hok
                go_upto_region 25 with (go_at_call 17; go_must (refine (HD.out _ (by exact HSEA.out.below ((Below.refl _ _).alloc (Nat.le_refl _) _))).mono ?_; rintro e w5 ⟨ao5, c5, bo5, d5, rfl, hf5, ho5, ht5, hb5⟩))
                obtain ⟨gt, ct, et, hbt⟩ := own_some ht5 rfl (by simp)
                injection et with et1 et0 et2
                clear et0
                subst et1; subst et2
                have ht0 := hbt.cell 0 rfl
                have ht1 := hbt.cell 1 rfl
                have hB5 := (hB'.alloc hz' _).trans (hb5.mono (by simp; omega))
                have HOW5 := Lib.hid ((HOWA.out.below ((Below.refl _ _).alloc (Nat.le_refl _) _)).below hb5)
                have HO5 := Lib.hid ho5
                have HF5 := Lib.hid hf5
                clear hbt ht5 hb5 ho5 hf5 hcz
                go_wp2
                go_roundw
                case rel => exact ⟨k + 1, L.drop (k + 1), ao5, c5, by omega, by go_num, by rw [show Q - (k + 1) = m by omega], by rw [List.length_drop, ← HQ.out], by rw [← HAN.out]; exact HO5.out.sees', by rw [show Q - (k + 1) = m by omega]; exact HF5.out, by exact HOW5.out, hB5, rfl, Or.inr ⟨HRM.out.1, by have := HRM.out.2; omega⟩⟩
                case measure => simp [intOf]; omega
              | true =>
                obtain ⟨z, hz⟩ : ∃ z, L[m]? = some z := ⟨_, List.getElem?_eq_getElem (by rw [← HQ.out]; omega)⟩
                have hcz := hb1.cell m hz
                have hg1 := hb1.lt.1
                have hz0 : A[m]? = some z := by rw [HAL.out, if_pos rfl, List.getElem?_take, if_pos (by omega)]; exact hz
                have HD := Lib.hid (fun W hs => gave_of (p := m) (q := 2) (E := 0) (by rw [doS_yes (hmay 3 (Or.inl rfl)), pop_some hA1 hz0] : doS A n 3 0 0 0 0 = (A.take m, [1, z], true)) (by simp [hA1]) rfl rfl a3 (m + 1) k3 W hA1 (by rw [← hm]; exact HFA.out) hs)
                have HAN := Lib.hid (show A.take m = L.take m by rw [HAL.out, if_pos rfl, List.take_take, Nat.min_eq_left (by omega)])
                have hi0 : (0 : Int) ≤ (k : Int) := by omega
                have hi1 : (k : Int) < (Q : Int) := by omega
                have hix : (Q : Int) - 1 - (k : Int) = (m : Int) := by omega
                have hmQ : (m : Int) < (Q : Int) := by omega
                have hck := hb1.cell k (z := L[k]'(by rw [← HQ.out]; exact hlt)) (List.getElem?_eq_getElem _)
                clear hz hz0 hmay hrm hA1 hb1 hok
                go_upto_region 25 with (go_at_call 17; go_must (refine (HD.out _ (by exact HSEA.out.below ((Below.refl _ _).alloc (Nat.le_refl _) _))).mono ?_; rintro e w5 ⟨ao5, c5, bo5, d5, rfl, hf5, ho5, ht5, hb5⟩))
                obtain ⟨gt, ct, et, hbt⟩ := own_some ht5 rfl (by simp)
                injection et with et1 et0 et2
                clear et0
                subst et1; subst et2
                have ht0 := hbt.cell 0 rfl
                have ht1 := hbt.cell 1 rfl
                have hB5 := (hB'.alloc hz' _).trans (hb5.mono (by simp; omega))
                have HOW5 := Lib.hid ((HOWA.out.below ((Below.refl _ _).alloc (Nat.le_refl _) _)).below hb5)
                have HO5 := Lib.hid ho5
                have HF5 := Lib.hid hf5
                clear hbt ht5 hb5 ho5 hf5 hcz hck
                go_wp2
                go_roundw
                case rel => exact ⟨k + 1, L.take m, ao5, c5, by omega, by go_num, by rw [show Q - (k + 1) = m by omega], by rw [List.length_take, ← HQ.out]; omega, by rw [← HAN.out]; exact HO5.out.sees', by rw [show Q - (k + 1) = m by omega]; exact HF5.out, by exact HOW5.out, hB5, by rw [show Q - (k + 1) = m by omega], Or.inr ⟨HRM.out.1, by have := HRM.out.2; omega⟩⟩
                case measure => simp [intOf]; omega
            · have hk0 : k = 0 := by
                rcases hok with h | h
                · exact h
                · exact absurd ⟨h.1, by rw [← hm]; exact h.2⟩ hrm
              have hno : ∀ op : Int, doOk A n op 0 0 0 0 = false := fun op => by
                by_cases h1 : roomI n = 0
                · simp [doOk, h1]
                · have h2 : ¬ ((m + 1 : Nat) : Int) ≤ n := fun h => hrm ⟨h1, h⟩
                  simp only [doOk, hA1]
                  rw [decide_eq_false h2]
                  simp
              subst hk0
              obtain ⟨z, hz⟩ : ∃ z, L[0]? = some z := ⟨_, List.getElem?_eq_getElem (by rw [← HQ.out]; exact hlt)⟩
              obtain ⟨y, hy⟩ : ∃ y, L[m]? = some y := ⟨_, List.getElem?_eq_getElem (by rw [← HQ.out]; omega)⟩
              have hcz := hb1.cell 0 hz
              have hcy := hb1.cell m hy
              have hg1 := hb1.lt.1
              have hQp : (0 : Int) < (Q : Int) := by omega
              have hQp2 : 0 < Q := by omega
              have hix : (Q : Int) - 1 = (m : Int) := by omega
              have hmQ : (m : Int) < (Q : Int) := by omega
              have HD := Lib.hid (fun W op hs => gave_of (p := 0) (q := 0) (E := 200) (doS_no (hno op)) rfl rfl rfl a3 (m + 1) k3 W hA1 (by rw [← hm]; exact HFA.out) hs)
              rw [hm]
              clear hz hy hno hrm hA1 hb1 hok
              cases pops with
              | false =>
                go_wp2_with (go_at_call 17; go_must (refine (HD.out _ 4 (by exact HSEA.out.below ((Below.refl _ _).alloc (Nat.le_refl _) _))).mono ?_; rintro e w5 ⟨ao5, c5, bo5, d5, rfl, hf5, ho5, ht5, hb5⟩))
                go_ret
                have hB5 := (hB'.alloc hz' _).trans (hb5.mono (by simp; omega))
                exact ⟨rfl, HB1.out.trans (hB5.mono HB1.out.size)⟩
              | true =>
                go_wp2_with (go_at_call 17; go_must (refine (HD.out _ 3 (by exact HSEA.out.below ((Below.refl _ _).alloc (Nat.le_refl _) _))).mono ?_; rintro e w5 ⟨ao5, c5, bo5, d5, rfl, hf5, ho5, ht5, hb5⟩))
                go_ret
                have hB5 := (hB'.alloc hz' _).trans (hb5.mono (by simp; omega))
                exact ⟨rfl, HB1.out.trans (hB5.mono HB1.out.size)⟩
          · obtain rfl : k = Q := by omega
            rw [Nat.sub_self]
            have hBw := HB1.out.trans (hB'.mono HB1.out.size)
            go_wp2
            all_goals
              go_ret
              exact ⟨rfl, hBw⟩
end Go.Proofs.YtocgmonfmpkkkaaGreatDoor
