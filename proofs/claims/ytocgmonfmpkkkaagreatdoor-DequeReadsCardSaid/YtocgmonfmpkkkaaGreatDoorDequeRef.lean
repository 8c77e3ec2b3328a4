/-
  quash/quashref20.Do: every call over a slice that reads as a list. Condition: at most 2^44 values.
-/
import Derived.Test.YtocgmonfmpkkkaaGreatDoorDequeDo
import Derived.RegionTactic
namespace Go.Proofs.YtocgmonfmpkkkaaGreatDoor
open Go.RowKit
set_option maxRecDepth 100000

theorem Told.no {w w' : World} {e : Ending} (h1 : e = .returned (.tuple #[.slice none 0 0, .slice none 0 0, .bool false])) (h2 : Below w.heap.size w w') : Told [] [] false w e w' :=
  ⟨_, _, _, _, h1, Sees.nil _ _, Sees.nil _ _, h2⟩
theorem refDo_no (ao : Option Addr) (c : Nat) (zs : List Int) (n op a b x y : Int) (w : World) (hno : doOk zs n op a b x y = false) :
    Calls Tryz.prog 18 #[.slice ao zs.length c, .int .i64 n, .agg #[.int .i64 op, .int .i64 a, .int .i64 b, .int .i64 x, .int .i64 y]] w (Told [] [] false w) := by
  by_cases h0 : roomI n = 0
  · have HR := Lib.hid h0
    clear hno h0
    go_enter Tryz.func18, Tryz.ntmps18
    go_wp2_with (first
      | (go_at_call 24; go_must (refine (May_any n op a b x y _).mono ?_; rintro e w2 ⟨rfl, hb2⟩))
      | (go_at_call 14; go_must (refine (refRoom_any n _).mono ?_; rintro e w3 ⟨rfl, rfl⟩; rw [HR.out])))
    go_ret3
    exact Told.no rfl (((Below.refl _ _).alloc (Nat.le_refl _) _).trans (hb2.mono (by simp)))
  have hn := roomI_yes h0
  have HR := Lib.hid hn.1
  have hn0 : (2 + n == 0) = false := by have := hn.2; simp; omega
  by_cases hl : (zs.length : Int) ≤ n
  · have ho : mayD op a b x y = false := by
      simp [doOk, h0, hl] at hno
      exact hno
    have HO := Lib.hid ho
    have hl2 : ¬ n < (zs.length : Int) := by omega
    clear hno h0 ho hl hn
    go_enter Tryz.func18, Tryz.ntmps18
    go_wp2_with (first
      | (go_at_call 24; go_must (refine (May_any n op a b x y _).mono ?_; rintro e w2 ⟨rfl, hb2⟩; rw [HO.out]))
      | (go_at_call 14; go_must (refine (refRoom_any n _).mono ?_; rintro e w3 ⟨rfl, rfl⟩; rw [HR.out])))
    go_ret3
    exact Told.no rfl (((Below.refl _ _).alloc (Nat.le_refl _) _).trans (hb2.mono (by simp)))
  · have hl2 : n < (zs.length : Int) := by omega
    clear hno h0 hl hn
    go_enter Tryz.func18, Tryz.ntmps18
    go_wp2_with (first
      | (go_at_call 24; go_must (refine (May_any n op a b x y _).mono ?_; rintro e w2 ⟨rfl, hb2⟩))
      | (go_at_call 14; go_must (refine (refRoom_any n _).mono ?_; rintro e w3 ⟨rfl, rfl⟩; rw [HR.out])))
    go_ret3
    exact Told.no rfl (((Below.refl _ _).alloc (Nat.le_refl _) _).trans (hb2.mono (by simp)))
theorem told_one {w W : World} {D : List Int} {ao : Option Addr} {n c : Nat} {B : Nat} (h : Own W B (.slice ao n c) D) (hn : D.length = n) (hB : Below w.heap.size w W) (z : Int) :
    Told D [z] true w (.returned (.tuple #[.slice ao n c, .slice (some ⟨W.heap.size, 0, none⟩) 1 1, .bool true])) (W.alloc (.cells #[.int .i64 z] 2)) := by
  subst hn
  exact ⟨_, _, _, _, rfl, (Sees.of_own h).below ((Below.refl _ _).alloc (Nat.le_refl _) _), sees_one (heap_new _ _ _ rfl), hB.alloc hB.size _⟩
theorem told_own {w W : World} {D : List Int} {v : Value} {B : Nat} (h : Own W B v D) (hB : Below w.heap.size w W) (z : Int) :
    Told D [z] true w (.returned (.tuple #[v, .slice (some ⟨W.heap.size, 0, none⟩) 1 1, .bool true])) (W.alloc (.cells #[.int .i64 z] 2)) := by
  obtain ⟨ao, c, rfl, _⟩ := h.slice
  exact told_one h rfl hB z
theorem own_one (W : World) (B : Nat) (x : Int) (h : B ≤ W.heap.size) : Own (W.alloc (.cells #[.int .i64 x] 2)) B (.slice (some ⟨W.heap.size, 0, none⟩) 1 1) [x] :=
  Bal.own (zs := [x]) (Bal.of_block h (heap_new _ _ _ rfl) rfl (by simp) (by decide) rfl)
theorem told_two {w W : World} {D : List Int} {ao : Option Addr} {n c : Nat} (h : Sees W ao D) (hn : D.length = n) (hB : Below w.heap.size w W) (y z : Int) :
    Told D [y, z] true w (.returned (.tuple #[.slice ao n c, .slice (some ⟨W.heap.size, 0, none⟩) 2 2, .bool true])) (W.alloc (.cells #[.int .i64 y, .int .i64 z] 2)).drew := by
  subst hn
  refine ⟨_, _, _, _, rfl, h.below ?_, sees_two (w := (W.alloc (.cells #[.int .i64 y, .int .i64 z] 2)).drew) (heap_new _ _ _ rfl), below_drewed1 (hB.alloc hB.size _)⟩
  exact below_drewed1 ((Below.refl _ _).alloc (Nat.le_refl _) _)
theorem drop_sees {w : World} {B g cap : Nat} {zs : List Int} (h : Bal w B g cap zs) : Sees w (some ⟨g, 1, none⟩) (zs.drop 1) := Sees.cells fun j hj => by
  have hj' : 1 + j < zs.length := by simp at hj; omega
  rw [h.cell (1 + j) (List.getElem?_eq_getElem hj')]
  rw [List.getD_eq_getElem?_getD, List.getElem?_drop, List.getElem?_eq_getElem hj']
  rfl
set_option maxHeartbeats 2000000 in
theorem refDo_yes (ao : Option Addr) (c : Nat) (zs : List Int) (n op a b x y : Int) (w : World) (hf : ao = none → c = 0) (hs : Sees w ao zs) (hok : doOk zs n op a b x y = true) :
    Calls Tryz.prog 18 #[.slice ao zs.length c, .int .i64 n, .agg #[.int .i64 op, .int .i64 a, .int .i64 b, .int .i64 x, .int .i64 y]] w (Told (deedS zs n op x).1 (deedS zs n op x).2 true w) := by
  obtain ⟨hr, h1, h100, hl, hm, ho1, ho5⟩ := deed_parts hok
  obtain ⟨N, hN⟩ : ∃ N, N = zs.length := ⟨_, rfl⟩
  have HR := Lib.hid hr
  have HM := Lib.hid hm
  have HS := Lib.hid hs
  have HF := Lib.hid hf
  have HN := Lib.hid hN
  rw [← hN] at hl
  rw [← hN]
  have hn0 : (2 + n == 0) = false := by simp; omega
  have hl2 : ¬ n < (N : Int) := by omega
  have hN100 : N ≤ 100 := by omega
  clear hr hm hs hf hok hN
  go_enter Tryz.func18, Tryz.ntmps18
  go_upto_region 5 with (first
    | (go_at_call 24; go_must (refine (May_any n op a b x y _).mono ?_; rintro e w2 ⟨rfl, hb2⟩; rw [HM.out]))
    | (go_at_call 14; go_must (refine (refRoom_any n _).mono ?_; rintro e w3 ⟨rfl, rfl⟩; rw [HR.out]))
    | (at_builtin; refine wpList_append64 (xs := []) (World.ownsRow_made w3 #[] 0 (Nat.le_refl _) (Nat.zero_le _) rfl) (by simp) ao N c zs HN.out.symm ((HS.out.below ((((Below.refl _ _).alloc (Nat.le_refl _) _).trans (hb2.mono (by simp))).alloc (by have := hb2.size; simp at this; omega) _))) HF.out (by simp; have := HN.out; omega) rfl _ _ rfl rfl rfl ?_; intro v' w4 hown hgrow))
  have hz2 : w.heap.size < w3.heap.size := by have := hb2.size; simp at this; omega
  have hB2 : Below w.heap.size w w3 := ((Below.refl _ _).alloc (Nat.le_refl _) _).trans (hb2.mono (by simp))
  have hB4 : Below w.heap.size w w4 := (hB2.alloc hB2.size _).grown hgrow (by simp; omega) (by intro k hk; simp [Value.ownBlock] at hk; omega)
  have hd4 : w4.heap[w.heap.size]? = some (.cells #[.int .i64 op, .int .i64 a, .int .i64 b, .int .i64 x, .int .i64 y] 36) :=
    (hgrow.block _ (by simp; omega) (by simp [Value.ownBlock]; omega)).trans ((Below.heap_alloc _ _ _ hz2).trans ((hb2.block _ (by simp)).trans (heap_new _ _ _ rfl)))
  rw [List.nil_append] at hown
  obtain ⟨ao', c', rfl, hf', hc63, hform⟩ := hown.slice
  rw [← HN.out]
  rw [← HN.out] at hform hf'
  have HO4 := Lib.hid hown
  have HFORM := Lib.hid hform
  have c0 : w4.cell? ⟨w.heap.size, 0, none⟩ = some (.int .i64 op) := cell_of_row _ _ 0 _ _ _ hd4
  have c3 : w4.cell? ⟨w.heap.size, 3, none⟩ = some (.int .i64 x) := cell_of_row _ _ 3 _ _ _ hd4
  have hc' := hf'.2.2
  have hzz := hB4.size
  have HB4 := Lib.hid hB4
  have hlo : w.heap.size ≤ w3.heap.size := by omega
  have hLO : Own w4 w.heap.size (.slice ao' N c') zs := by rw [HN.out]; exact hown.lower hlo
  have HLO := Lib.hid hLO
  clear hLO
  have HSE := Lib.hid (Sees.of_own hown)
  have hf' := Lib.hid hf'
  clear hown hform hb2 hd4 hB2 hB4 hgrow
  obtain ho | ho | ho : (op = 1 ∨ op = 2) ∨ (op = 3 ∨ op = 4) ∨ op = 5 := by omega
  · by_cases hfull : (N : Int) = n
    · have HD := Lib.hid (show deedS zs n op x = (zs, [0]) by unfold deedS; rw [if_neg (by omega), if_pos ho, if_pos (by rw [← HN.out]; exact hfull)])
      have e1 : ((N : Int) == n) = true := by simpa using hfull
      rcases ho with ho | ho
      all_goals
        subst ho
        go_wp2
        go_ret3
        rw [HD.out]
        have h := HO4.out
        rw [← HN.out] at h
        exact told_own h HB4.out 0
    · have e1 : ((N : Int) == n) = false := by simpa using hfull
      rcases ho with ho | ho
      · subst ho
        have HD := Lib.hid (show deedS zs n 1 x = (zs ++ [x], [1]) by unfold deedS; rw [if_neg (by omega), if_pos (Or.inl rfl), if_neg (by rw [← HN.out]; exact hfull), if_pos rfl])
        go_wp2_with (at_builtin; refine wpList_append64 (HLO.out.below ((Below.refl _ _).alloc (Nat.le_refl _) _)) (by simp; omega) (some ⟨w4.heap.size, 0, none⟩) 1 1 [x] rfl (sees_one (heap_new _ _ _ rfl)) (fun h => by cases h) (by simp; have := HN.out; omega) rfl _ _ rfl rfl rfl ?_; intro v5 w5 hown5 hgrow5)
        go_ret3
        rw [HD.out]
        exact told_own hown5 ((HB4.out.alloc hzz _).grown hgrow5 (by simp; omega) (fun k hk => own_ge HLO.out hk)) 1
      · subst ho
        have HD := Lib.hid (show deedS zs n 2 x = ([x] ++ zs, [1]) by unfold deedS; rw [if_neg (by omega), if_pos (Or.inr rfl), if_neg (by rw [← HN.out]; exact hfull), if_neg (by omega)]; rfl)
        go_wp2_with (at_builtin; refine wpList_append64 (xs := [x]) (own_one w4 w.heap.size x hzz) (by simp; omega) ao' N c' zs HN.out.symm (HSE.out.below ((Below.refl _ _).alloc (Nat.le_refl _) _)) hf'.out.1 (by simp; have := HN.out; omega) rfl _ _ rfl rfl rfl ?_; intro v5 w5 hown5 hgrow5)
        go_ret3
        rw [HD.out]
        exact told_own hown5 ((HB4.out.alloc hzz _).grown hgrow5 (by simp; omega) (fun k hk => by simp [Value.ownBlock] at hk; omega)) 1
  · by_cases h0 : N = 0
    · subst h0
      have HD := Lib.hid (show deedS zs n op x = (zs, [0]) by unfold deedS; rw [if_neg (by omega), if_neg (by omega), if_pos HN.out.symm])
      rcases ho with ho | ho
      all_goals
        subst ho
        go_wp2
        go_ret3
        rw [HD.out]
        have h := HO4.out
        rw [← HN.out] at h
        exact told_own h HB4.out 0
    · obtain ⟨g, rfl, hbal⟩ := HFORM.out h0
      obtain ⟨M, rfl⟩ : ∃ M, N = M + 1 := ⟨N - 1, by omega⟩
      have HBAL := Lib.hid hbal
      clear hbal
      rcases ho with ho | ho
      · subst ho
        obtain ⟨z, hz⟩ : ∃ z, zs[M]? = some z := ⟨_, List.getElem?_eq_getElem (by rw [← HN.out]; omega)⟩
        have HD := Lib.hid (show deedS zs n 3 x = (zs.take M, [1, z]) by
          unfold deedS
          rw [if_neg (by omega), if_neg (by omega), if_neg (by rw [← HN.out]; omega), if_pos rfl, ← HN.out]
          simp only [Nat.add_sub_cancel]
          rw [List.getD_eq_getElem?_getD, hz]
          rfl)
        have hcz := HBAL.out.cell M hz
        clear hz
        go_wp2
        go_region
        all_goals
          go_wp2
          go_ret3
          rw [HD.out]
          exact told_two (HBAL.out.take M (by rw [← HN.out]; omega)).sees (by rw [List.length_take, ← HN.out]; omega) HB4.out 1 z
      · subst ho
        obtain ⟨z, hz⟩ : ∃ z, zs[0]? = some z := ⟨_, List.getElem?_eq_getElem (by rw [← HN.out]; omega)⟩
        have HD := Lib.hid (show deedS zs n 4 x = (zs.drop 1, [1, z]) by
          unfold deedS
          rw [if_neg (by omega), if_neg (by omega), if_neg (by rw [← HN.out]; omega), if_neg (by omega)]
          rw [List.getD_eq_getElem?_getD, hz]
          rfl)
        have hcz := HBAL.out.cell 0 hz
        clear hz
        have hi1 : (1 : Int) ≤ ((M + 1 : Nat) : Int) := by omega
        go_wp2
        go_region
        all_goals go_wp2
        all_goals
          go_ret3
          rw [HD.out]
          first
            | exact told_two (drop_sees HBAL.out) (by rw [List.length_drop, ← HN.out]; omega) HB4.out 1 z
            | exact told_two (by rw [List.drop_eq_nil_of_le (by rw [← HN.out]; omega)]; exact Sees.nil _ _) (by rw [List.length_drop, ← HN.out]; omega) HB4.out 1 z
  · subst ho
    have HD := Lib.hid (show deedS zs n 5 x = (zs, [(N : Int)]) by unfold deedS; rw [if_pos rfl, HN.out])
    go_wp2
    go_ret3
    rw [HD.out]
    have h := HO4.out
    rw [← HN.out] at h
    exact told_own h HB4.out N
theorem refDo_any (ao : Option Addr) (m c : Nat) (zs : List Int) (n op a b x y : Int) (w : World) (hm : zs.length = m) (hf : ao = none → c = 0) (hs : Sees w ao zs) :
    Calls Tryz.prog 18 #[.slice ao m c, .int .i64 n, .agg #[.int .i64 op, .int .i64 a, .int .i64 b, .int .i64 x, .int .i64 y]] w (Told (doS zs n op a b x y).1 (doS zs n op a b x y).2.1 (doS zs n op a b x y).2.2 w) := by
  subst hm
  unfold doS
  cases hok : doOk zs n op a b x y with
  | true => exact refDo_yes ao c zs n op a b x y w hf hs hok
  | false => exact refDo_no ao c zs n op a b x y w hok
end Go.Proofs.YtocgmonfmpkkkaaGreatDoor
