/-
  quash/deque.Do: every call over a slice that reads as a list. Condition: at most 100000 values.
-/
import Derived.Test.YtocgmonfmpkkkaaGreatDoorDequeSmall
import Derived.Test.YtocgmonfmpkkkaaGreatDoorIns64
namespace Go.Proofs.YtocgmonfmpkkkaaGreatDoor
open Go.RowKit
set_option maxRecDepth 100000

/-- a slice at an address that is no spot, or nil with no room -/
def Flat (ao : Option Addr) (n c : Nat) : Prop := (ao = none → c = 0) ∧ (∀ a, ao = some a → ∃ b o, a = ⟨b, o, none⟩) ∧ n ≤ c
theorem Own.slice {w : World} {B : Nat} {v : Value} {zs : List Int} (h : Own w B v zs) : ∃ ao c, v = .slice ao zs.length c ∧ Flat ao zs.length c ∧ c ≤ maxLen ∧ (zs.length ≠ 0 → ∃ g, ao = some ⟨g, 0, none⟩ ∧ Bal w B g c zs) := by
  rcases h.form with ⟨rfl, rfl⟩ | ⟨g, cap, rfl, hb⟩
  · exact ⟨none, 0, rfl, ⟨fun _ => rfl, fun a h => (by cases h), Nat.le_refl _⟩, by decide, fun h => absurd rfl h⟩
  · exact ⟨_, cap, rfl, ⟨fun h => (by cases h), fun a h => ⟨g, 0, by injection h with h; exact h.symm⟩, hb.caps.1⟩, hb.caps.2, fun _ => ⟨g, rfl, hb⟩⟩
theorem Gave.no {w w' : World} {e : Ending} {c : Int} (h1 : e = .returned (.tuple #[.slice none 0 0, .slice none 0 0, .int .i64 c])) (h2 : Below w.heap.size w w') : Gave [] [] c w e w' :=
  ⟨_, _, h1, Own.nil _ _, Own.nil _ _, (fun g h => by cases h), h2⟩
theorem Do_no (ao : Option Addr) (c : Nat) (zs : List Int) (n op a b x y : Int) (w : World) (hno : doOk zs n op a b x y = false) :
    Calls Tryz.prog 17 #[.slice ao zs.length c, .int .i64 n, .agg #[.int .i64 op, .int .i64 a, .int .i64 b, .int .i64 x, .int .i64 y]] w (Gave [] [] 200 w) := by
  by_cases h0 : roomI n = 0
  · have HR := Lib.hid h0
    clear hno h0
    go_enter Tryz.func17, Tryz.ntmps17
    go_wp2_with (first
      | (go_at_call 20; go_must (refine (Room_any n _).mono ?_; rintro e w3 ⟨rfl, rfl⟩; rw [HR.out])))
    go_ret3
    exact Gave.no rfl ((Below.refl _ _).alloc (Nat.le_refl _) _)
  have hn := roomI_yes h0
  have HR := Lib.hid hn.1
  have hn0 : (2 + n == 0) = false := by have := hn.2; simp; omega
  by_cases hl : (zs.length : Int) ≤ n
  · have ho : mayD op a b x y = false := by
      simp [doOk, h0, hl] at hno
      exact hno
    have HO := Lib.hid ho
    have hl2 : ¬ n < (zs.length : Int) := by omega
    clear hno h0 ho hl hn
    go_enter Tryz.func17, Tryz.ntmps17
    go_wp2_with (first
      | (go_at_call 27; go_must (refine (mayD_any op a b x y _).mono ?_; rintro e w2 ⟨rfl, hb2⟩; rw [HO.out]))
      | (go_at_call 20; go_must (refine (Room_any n _).mono ?_; rintro e w3 ⟨rfl, rfl⟩; rw [HR.out])))
    go_ret3
    exact Gave.no rfl (((Below.refl _ _).alloc (Nat.le_refl _) _).trans (hb2.mono (by simp)))
  · have hl2 : n < (zs.length : Int) := by omega
    clear hno h0 hl hn
    go_enter Tryz.func17, Tryz.ntmps17
    go_wp2_with (first
      | (go_at_call 20; go_must (refine (Room_any n _).mono ?_; rintro e w3 ⟨rfl, rfl⟩; rw [HR.out])))
    go_ret3
    exact Gave.no rfl ((Below.refl _ _).alloc (Nat.le_refl _) _)
theorem gave_one {w W : World} {v : Value} {D : List Int} {c : Int} (h : Own W w.heap.size v D) (hB : Below w.heap.size w W) (z : Int) :
    Gave D [z] c w (.returned (.tuple #[v, .slice (some ⟨W.heap.size, 0, none⟩) 1 1, .int .i64 c])) (W.alloc (.cells #[.int .i64 z] 2)) :=
  ⟨_, _, rfl, h.below ((Below.refl _ _).alloc (Nat.le_refl _) _), Bal.own (zs := [z]) (Bal.of_block hB.size (heap_new _ _ _ rfl) rfl (by simp) (by decide) rfl), (fun g hg e => by
    have h1 := (h.lt g hg).2
    have h2 : W.heap.size = g := by simpa [Value.ownBlock] using e
    omega), hB.alloc hB.size _⟩
theorem gave_two {w W : World} {v : Value} {D : List Int} {c : Int} (h : Own W w.heap.size v D) (hB : Below w.heap.size w W) (y z : Int) :
    Gave D [y, z] c w (.returned (.tuple #[v, .slice (some ⟨W.heap.size, 0, none⟩) 2 2, .int .i64 c])) (W.alloc (.cells #[.int .i64 y, .int .i64 z] 2)) :=
  ⟨_, _, rfl, h.below ((Below.refl _ _).alloc (Nat.le_refl _) _), Bal.own (zs := [y, z]) (Bal.of_block hB.size (heap_new _ _ _ rfl) rfl (by simp) (by decide) rfl), (fun g hg e => by
    have h1 := (h.lt g hg).2
    have h2 : W.heap.size = g := by simpa [Value.ownBlock] using e
    omega), hB.alloc hB.size _⟩
set_option maxHeartbeats 2000000 in
theorem Do_yes (ao : Option Addr) (c : Nat) (zs : List Int) (n op a b x y : Int) (w : World) (hf : Flat ao zs.length c) (hs : Sees w ao zs) (hok : doOk zs n op a b x y = true) :
    Calls Tryz.prog 17 #[.slice ao zs.length c, .int .i64 n, .agg #[.int .i64 op, .int .i64 a, .int .i64 b, .int .i64 x, .int .i64 y]] w (Gave (deedS zs n op x).1 (deedS zs n op x).2 0 w) := by
  obtain ⟨hr, h1, h100, hl, hm, ho1, ho5⟩ := deed_parts hok
  obtain ⟨N, hN⟩ : ∃ N, N = zs.length := ⟨_, rfl⟩
  have HR := Lib.hid hr
  have HM := Lib.hid hm
  have HS := Lib.hid hs
  have HF := Lib.hid hf
  have HN := Lib.hid hN
  rw [← hN] at hl
  rw [← hN]
  have hn0 : (2 + n == 0) = false := by simp; omega
  have hl2 : ¬ n < (N : Int) := by omega
  have hN100 : N ≤ 100 := by omega
  clear hr hm hs hf hok hN
  go_enter Tryz.func17, Tryz.ntmps17
  go_upto_region 4 with (first
    | (go_at_call 27; go_must (refine (mayD_any op a b x y _).mono ?_; rintro e w2 ⟨rfl, hb2⟩; rw [HM.out]))
    | (go_at_call 20; go_must (refine (Room_any n _).mono ?_; rintro e w3 ⟨rfl, rfl⟩; rw [HR.out]))
    | (go_at_call 28; go_must (refine (Clone64_all ao N c zs _ HN.out.symm (by rw [← HN.out]; omega) (by rw [HN.out]; exact HF.out.2.2) (by exact (HS.out.below (((Below.refl _ _).alloc (Nat.le_refl _) _).trans (hb2.mono (by simp))))) HF.out.1 HF.out.2.1).mono ?_; rintro e w4 ⟨v', rfl, ho4, hb4⟩)))
  have hB2 : Below w.heap.size w w2 := ((Below.refl _ _).alloc (Nat.le_refl _) _).trans (hb2.mono (by simp))
  have hz2 : w.heap.size < w2.heap.size := by have := hb2.size; simp at this; omega
  have hd4 : w4.heap[w.heap.size]? = some (.cells #[.int .i64 op, .int .i64 a, .int .i64 b, .int .i64 x, .int .i64 y] 36) := (hb4.block _ (by omega)).trans ((hb2.block _ (by simp)).trans (heap_new _ _ _ rfl))
  have hB4 : Below w.heap.size w w4 := hB2.trans (hb4.mono hB2.size)
  have ho4' : Own w4 w.heap.size v' zs := ho4.lower hB2.size
  obtain ⟨ao', c', rfl, hf', hc63, hform⟩ := ho4'.slice
  rw [← HN.out]
  rw [← HN.out] at hform hf'
  have HO4 := Lib.hid ho4'
  have HFORM := Lib.hid hform
  have c0 : w4.cell? ⟨w.heap.size, 0, none⟩ = some (.int .i64 op) := cell_of_row _ _ 0 _ _ _ hd4
  have c3 : w4.cell? ⟨w.heap.size, 3, none⟩ = some (.int .i64 x) := cell_of_row _ _ 3 _ _ _ hd4
  have hc' := hf'.2.2
  have hzz := hB4.size
  have HB4 := Lib.hid hB4
  clear ho4 ho4' hform hb2 hb4 hd4 hB2 hB4 hf'
  obtain ho | ho | ho : (op = 1 ∨ op = 2) ∨ (op = 3 ∨ op = 4) ∨ op = 5 := by omega
  · by_cases hfull : (N : Int) = n
    · have HD := Lib.hid (show deedS zs n op x = (zs, [0]) by unfold deedS; rw [if_neg (by omega), if_pos ho, if_pos (by rw [← HN.out]; exact hfull)])
      have e1 : ((N : Int) == n) = true := by simpa using hfull
      rcases ho with ho | ho
      all_goals
        subst ho
        go_wp2
        go_ret3
        rw [HD.out]
        have h := HO4.out
        rw [← HN.out] at h
        exact gave_one h HB4.out 0
    · have e1 : ((N : Int) == n) = false := by simpa using hfull
      have hins : ∀ i : Nat, i ≤ N → ∀ nb W, W.heap[nb]? = some (.cells #[.int .i64 x] 2) → nb = w4.heap.size → Below w4.heap.size w4 W → Calls Tryz.prog 29 #[.slice ao' N c', .int .i64 i, .slice (some ⟨nb, 0, none⟩) 1 1] W fun e w' => ∃ v', e = .returned v' ∧ Own w' w.heap.size v' (insL zs i x) ∧ Below w.heap.size W w' := fun i hi nb W hnb hne hBW => by
        have h := HO4.out
        rw [← HN.out] at h
        refine Insert64_any w.heap.size ao' N c' zs i x nb W HN.out.symm (h.below hBW) hnb (fun a ha => ?_) (by have := hBW.size; omega) hi (by omega)
        have := h.lt a.block (by rw [ha]; rfl)
        omega
      have HINS := Lib.hid hins
      clear hins
      rcases ho with ho | ho
      · subst ho
        have HD := Lib.hid (show deedS zs n 1 x = (insL zs N x, [1]) by unfold deedS; rw [if_neg (by omega), if_pos (Or.inl rfl), if_neg (by rw [← HN.out]; exact hfull), if_pos rfl, insL, HN.out, List.take_length, List.drop_length])
        go_wp2_with (go_at_call 29; go_must (refine (HINS.out N (Nat.le_refl _) _ _ (heap_new _ _ _ rfl) rfl ((Below.refl _ _).alloc (Nat.le_refl _) _)).mono ?_; rintro e w5 ⟨v5, rfl, ho5, hb5⟩))
        go_ret3
        rw [HD.out]
        exact gave_one ho5 ((HB4.out.alloc hzz _).trans hb5) 1
      · subst ho
        have HD := Lib.hid (show deedS zs n 2 x = (insL zs 0 x, [1]) by unfold deedS; rw [if_neg (by omega), if_pos (Or.inr rfl), if_neg (by rw [← HN.out]; exact hfull), if_neg (by omega), insL]; simp)
        go_wp2_with (go_at_call 29; go_must (refine (HINS.out 0 (Nat.zero_le _) _ _ (heap_new _ _ _ rfl) rfl ((Below.refl _ _).alloc (Nat.le_refl _) _)).mono ?_; rintro e w5 ⟨v5, rfl, ho5, hb5⟩))
        go_ret3
        rw [HD.out]
        exact gave_one ho5 ((HB4.out.alloc hzz _).trans hb5) 1
  · by_cases h0 : N = 0
    · subst h0
      have HD := Lib.hid (show deedS zs n op x = (zs, [0]) by unfold deedS; rw [if_neg (by omega), if_neg (by omega), if_pos HN.out.symm])
      rcases ho with ho | ho
      all_goals
        subst ho
        go_wp2
        go_ret3
        rw [HD.out]
        have h := HO4.out
        rw [← HN.out] at h
        exact gave_one h HB4.out 0
    · obtain ⟨g, rfl, hbal⟩ := HFORM.out h0
      obtain ⟨M, rfl⟩ : ∃ M, N = M + 1 := ⟨N - 1, by omega⟩
      have HBAL := Lib.hid hbal
      clear hbal
      rcases ho with ho | ho
      · subst ho
        obtain ⟨z, hz⟩ : ∃ z, zs[M]? = some z := ⟨_, List.getElem?_eq_getElem (by rw [← HN.out]; omega)⟩
        have HD := Lib.hid (show deedS zs n 3 x = (zs.take M ++ zs.drop (M + 1), [1, z]) by
          unfold deedS
          rw [if_neg (by omega), if_neg (by omega), if_neg (by rw [← HN.out]; omega), if_pos rfl, ← HN.out]
          simp only [Nat.add_sub_cancel]
          rw [List.getD_eq_getElem?_getD, hz, List.drop_eq_nil_of_le (by rw [← HN.out]; exact Nat.le_refl _)]
          simp)
        have hcz := HBAL.out.cell M hz
        have hdel := Delete64_any w.heap.size g c' zs M w4 HBAL.out (by rw [← HN.out]; omega)
        rw [← HN.out, show ((M + 1 : Nat) : Int) = (M : Int) + 1 by omega, Nat.add_sub_cancel] at hdel
        have HDEL := Lib.hid hdel
        have HL := Lib.hid (show (zs.take M ++ zs.drop (M + 1)).length = M by simp [← HN.out])
        clear hdel hz
        go_wp2_with (go_at_call 30; go_must (refine HDEL.out.mono ?_; rintro e w5 ⟨rfl, ho5, hb5⟩))
        go_ret3
        rw [HD.out]
        have h5 := ho5.own
        rw [HL.out] at h5
        exact gave_two h5 (HB4.out.trans hb5) 1 z
      · subst ho
        obtain ⟨z, hz⟩ : ∃ z, zs[0]? = some z := ⟨_, List.getElem?_eq_getElem (by rw [← HN.out]; omega)⟩
        have HD := Lib.hid (show deedS zs n 4 x = (zs.take 0 ++ zs.drop (0 + 1), [1, z]) by
          unfold deedS
          rw [if_neg (by omega), if_neg (by omega), if_neg (by rw [← HN.out]; omega), if_neg (by omega)]
          rw [List.getD_eq_getElem?_getD, hz]
          simp)
        have hcz := HBAL.out.cell 0 hz
        have hdel := Delete64_any w.heap.size g c' zs 0 w4 HBAL.out (by rw [← HN.out]; omega)
        rw [← HN.out, Nat.add_sub_cancel] at hdel
        have HDEL := Lib.hid (show Calls Tryz.prog 30 #[.slice (some ⟨g, 0, none⟩) (M + 1) c', .int .i64 0, .int .i64 1] w4 _ from hdel)
        have HL := Lib.hid (show (zs.take 0 ++ zs.drop (0 + 1)).length = M by simp [← HN.out])
        clear hdel hz
        rcases Nat.eq_zero_or_pos M with hM | hM
        · subst hM
          go_wp2_with (go_at_call 30; go_must (refine HDEL.out.mono ?_; rintro e w5 ⟨rfl, ho5, hb5⟩))
          go_ret3
          rw [HD.out]
          have h5 := ho5.own
          rw [HL.out] at h5
          exact gave_two h5 (HB4.out.trans hb5) 1 z
        · have hmin : min ((M : Int) + 1) 1 = 1 := by omega
          go_wp2_with (go_at_call 30; go_must (refine HDEL.out.mono ?_; rintro e w5 ⟨rfl, ho5, hb5⟩))
          go_ret3
          rw [HD.out]
          have h5 := ho5.own
          rw [HL.out] at h5
          exact gave_two h5 (HB4.out.trans hb5) 1 z
  · subst ho
    have HD := Lib.hid (show deedS zs n 5 x = (zs, [(N : Int)]) by unfold deedS; rw [if_pos rfl, HN.out])
    go_wp2
    go_ret3
    rw [HD.out]
    have h := HO4.out
    rw [← HN.out] at h
    exact gave_one h HB4.out N
theorem Do_any (ao : Option Addr) (m c : Nat) (zs : List Int) (n op a b x y : Int) (w : World) (hm : zs.length = m) (hf : Flat ao m c) (hs : Sees w ao zs) :
    Calls Tryz.prog 17 #[.slice ao m c, .int .i64 n, .agg #[.int .i64 op, .int .i64 a, .int .i64 b, .int .i64 x, .int .i64 y]] w (Gave (doS zs n op a b x y).1 (doS zs n op a b x y).2.1 (if (doS zs n op a b x y).2.2 then 0 else 200) w) := by
  subst hm
  unfold doS
  cases hok : doOk zs n op a b x y with
  | true => exact Do_yes ao c zs n op a b x y w hf hs hok
  | false => exact Do_no ao c zs n op a b x y w hok
end Go.Proofs.YtocgmonfmpkkkaaGreatDoor
