/-
  quash/quashref18.Do: every call over a slice that reads as a list. Condition: at most 10^15 values.
-/
import Derived.Test.YtkioddgolmaaeaaGreatDoorSetRef
import Derived.Deep.RegionLaw
import Derived.Deep.RegionHeldLaw
namespace Go.Proofs.YtkioddgolmaaeaaGreatDoor
open Go.RowKit
set_option maxRecDepth 100000

set_option maxHeartbeats 4000000 in
theorem refDo_no (ao : Option Addr) (m c : Nat) (zs : List Int) (n op a b x y : Int) (w : World) (h : ¬ (roomI n ≠ 0 ∧ (m : Int) ≤ n ∧ mayD op a b x y = true)) (hok : doOk zs n op a b x y = false) :
    Calls Tryz.prog 18 #[.slice ao m c, .int .i64 n, .agg #[.int .i64 op, .int .i64 a, .int .i64 b, .int .i64 x, .int .i64 y]] w (DoTold zs n op a b x y w) := by
  have HNO := Lib.hid hok
  clear hok
  by_cases h0 : roomI n = 0
  · have HR := Lib.hid h0
    clear h h0
    go_enter Tryz.func18, Tryz.ntmps18
    go_wp2_with (first
      | (go_at_call 24; go_must (refine (May_any n op a b x y _).mono ?_; rintro e w2 ⟨rfl, hb2⟩))
      | (go_at_call 14; go_must (refine (refRoom_any n _).mono ?_; rintro e w3 ⟨rfl, rfl⟩; rw [HR.out])))
    go_ret3
    exact doTold_no HNO.out (Told.no rfl (((Below.refl _ _).alloc (Nat.le_refl _) _).trans (hb2.mono (by simp))))
  · have hn := roomI_yes h0
    have HR := Lib.hid hn.1
    have hn0 : (3 + 2 * n == 0) = false := by have := hn.2; simp; omega
    by_cases hl : (m : Int) ≤ n
    · have hl2 : ¬ n < (m : Int) := by omega
      have hm : mayD op a b x y = false := by
        cases hm : mayD op a b x y with
        | false => rfl
        | true => exact absurd ⟨h0, hl, hm⟩ h
      have HO := Lib.hid hm
      clear h h0 hm hn hl
      go_enter Tryz.func18, Tryz.ntmps18
      go_wp2_with (first
        | (go_at_call 24; go_must (refine (May_any n op a b x y _).mono ?_; rintro e w2 ⟨rfl, hb2⟩; rw [HO.out]))
        | (go_at_call 14; go_must (refine (refRoom_any n _).mono ?_; rintro e w3 ⟨rfl, rfl⟩; rw [HR.out])))
      go_ret3
      exact doTold_no HNO.out (Told.no rfl (((Below.refl _ _).alloc (Nat.le_refl _) _).trans (hb2.mono (by simp))))
    · have hl2 : n < (m : Int) := by omega
      clear h h0 hn hl
      go_enter Tryz.func18, Tryz.ntmps18
      go_wp2_with (first
        | (go_at_call 24; go_must (refine (May_any n op a b x y _).mono ?_; rintro e w2 ⟨rfl, hb2⟩))
        | (go_at_call 14; go_must (refine (refRoom_any n _).mono ?_; rintro e w3 ⟨rfl, rfl⟩; rw [HR.out])))
      all_goals
        go_ret3
        exact doTold_no HNO.out (Told.no rfl (((Below.refl _ _).alloc (Nat.le_refl _) _).trans (hb2.mono (by simp))))
theorem new1 (w : World) (o : Obj) : (w.alloc o).drew.heap[w.heap.size]? = some o := heap_new w _ _ rfl
theorem new2a (w : World) (o p : Obj) : ((w.alloc o).alloc p).drew.heap[w.heap.size]? = some o := (Below.heap_alloc (w.alloc o) p w.heap.size (by simp)).trans (heap_new w _ _ rfl)
theorem new2b (w : World) (o p : Obj) : ((w.alloc o).alloc p).drew.heap[w.heap.size + 1]? = some p := by
  have h := heap_new (w.alloc o) p _ rfl
  rw [show (w.alloc o).heap.size = w.heap.size + 1 by simp] at h
  exact h
set_option maxHeartbeats 8000000 in
theorem refDo_go (ao : Option Addr) (m c : Nat) (zs : List Int) (n op a b x y : Int) (w : World) (hm : zs.length = m) (hnil : ao = none → c = 0) (hs : Sees w ao zs) (h0 : roomI n ≠ 0) (hl : (m : Int) ≤ n) (hmay : mayD op a b x y = true) :
    Calls Tryz.prog 18 #[.slice ao m c, .int .i64 n, .agg #[.int .i64 op, .int .i64 a, .int .i64 b, .int .i64 x, .int .i64 y]] w (DoTold zs n op a b x y w) := by
  have hn := roomI_yes h0
  have HR := Lib.hid hn.1
  have hn0 : (3 + 2 * n == 0) = false := by have := hn.2; simp; omega
  have hl2 : ¬ n < (m : Int) := by omega
  have HO := Lib.hid hmay
  have HM := Lib.hid hm
  have HS := Lib.hid hs
  have HNIL := Lib.hid hnil
  have hm60 : m ≤ 60 := by omega
  have HOK := Lib.hid (show doOk zs n op a b x y = risesB zs by simp [doOk, h0, hm, hl, hmay])
  clear h0 hn hmay hm hs hnil
  go_enter Tryz.func18, Tryz.ntmps18
  go_wp2_with (first
    | (go_at_call 24; go_must (refine (May_any n op a b x y _).mono ?_; rintro e w2 ⟨rfl, hb2⟩; rw [HO.out]))
    | (go_at_call 14; go_must (refine (refRoom_any n _).mono ?_; rintro e w3 ⟨rfl, h3⟩; subst h3; rw [HR.out])))
  have HD := Lib.hid ((hb2.block w.heap.size (by simp)).trans (heap_new _ _ _ rfl))
  have HB := Lib.hid (((Below.refl w.heap.size w).alloc (Nat.le_refl _) (.cells #[.int .i64 op, .int .i64 a, .int .i64 b, .int .i64 x, .int .i64 y] 36)).trans (hb2.mono (by simp)))
  clear hb2
  have HX := Lib.hid (fun (k : Nat) v (hk : (#[.int .i64 op, .int .i64 a, .int .i64 b, .int .i64 x, .int .i64 y] : Array Value)[k]? = some v) W (h : Below w3.heap.size w3 W) => cell_of_row W _ k _ _ _ ((h.block _ (lt_of_block HD.out)).trans HD.out))
  go_loopw [10, 11, 12, 13] (fun u vl vm vi wr => ∃ (is : Bool) (i : Nat), i ≤ m ∧ u = .bool is ∧ vi = .int .i64 i ∧ LoopD w3 zs x i is vl vm wr) (fun _ _ _ v _ => m - (intOf v).toNat)
  case atStart => exact ⟨false, 0, Nat.zero_le _, rfl, rfl, LoopD.start _ _ _ _ (Below.refl _ _) (Nat.le_refl _)⟩
  case round =>
    obtain ⟨is, i, him, rfl, rfl, hL⟩ := hrel
    obtain ⟨aoL, cL, rfl, -, -, -⟩ := hL.less.slice
    obtain ⟨aoM, cM, rfl, -, -, -⟩ := hL.more.slice
    obtain ⟨nl, hnl⟩ : ∃ nl, nl = (lessL (zs.take i) x).length := ⟨_, rfl⟩
    obtain ⟨nm, hnm⟩ : ∃ nm, nm = (moreL (zs.take i) x).length := ⟨_, rfl⟩
    rw [← hnl, ← hnm] at hL ⊢
    have hnl60 : nl ≤ 60 := by have := len_lessL (zs.take i) x; rw [List.length_take] at this; omega
    have hnm60 : nm ≤ 60 := by have := len_moreL (zs.take i) x; rw [List.length_take] at this; omega
    have HNL := Lib.hid hnl
    have HNM := Lib.hid hnm
    have HL := Lib.hid hL
    clear hnl hnm hL
    by_cases hlt : i < m
    · obtain ⟨z, hz⟩ : ∃ z, zs[i]? = some z := ⟨_, List.getElem?_eq_getElem (by rw [HM.out]; exact hlt)⟩
      obtain ⟨b0, o0, e0, _⟩ := HS.out
      obtain rfl := e0 (by intro e; have := HM.out; rw [e] at this; simp at this; omega)
      have HZ := Lib.hid (fun (k : Nat) (v : Int) (hk : zs[k]? = some v) W (hW : Below w3.heap.size w3 W) => (show W.cell? ⟨b0, o0 + k, none⟩ = some (.int .i64 v) from by
        obtain ⟨b', o', e', h'⟩ := (HS.out.below HB.out).below hW
        obtain ⟨rfl, rfl⟩ : b0 = b' ∧ o0 = o' := by
          have e2 := e' (by intro e; rw [e] at hk; simp at hk)
          injection e2 with e2
          injection e2 with e2 e3
          exact ⟨e2, e3⟩
        obtain ⟨hkl, e3⟩ := List.getElem?_eq_some_iff.1 hk
        rw [h' k hkl, List.getD_eq_getElem?_getD, hk]; rfl))
      have HZI := Lib.hid hz
      have q2 := HZ.out i z hz _ HL.out.below
      have q3 := HX.out 3 (.int .i64 x) rfl _ HL.out.below
      clear e0
      have hpre : i = 0 ∨ ∃ j z1, i = j + 1 ∧ zs[j]? = some z1 := by
        rcases i with _ | j
        · exact .inl rfl
        · exact .inr ⟨j, _, rfl, List.getElem?_eq_getElem (by rw [HM.out]; omega)⟩
      have hnext : (zs.take (i + 1)).Pairwise (· < ·) ∨ ∃ j z1, i = j + 1 ∧ zs[j]? = some z1 ∧ z ≤ z1 := by
        rcases hpre with rfl | ⟨j, z1, rfl, h1⟩
        · left
          rw [take_snocS hz]; simp
        · by_cases h2 : z ≤ z1
          · exact .inr ⟨j, z1, rfl, h1, h2⟩
          · left
            rw [take_snocS hz, take_snocS h1, List.pairwise_append]
            refine ⟨by rw [← take_snocS h1]; exact HL.out.rises, by simp, ?_⟩
            intro a ha b hb
            obtain rfl : b = z := by simpa using hb
            rcases List.mem_append.1 ha with ha | ha
            · have hr := HL.out.rises
              rw [take_snocS h1, List.pairwise_append] at hr
              have := hr.2.2 a ha z1 (by simp)
              omega
            · have : a = z1 := by simpa using ha
              omega
      rcases hnext with hr | ⟨j, z1, rfl, h1, h2⟩
      · have HRS := Lib.hid hr
        have hgt : i = 0 ∨ ∃ j z1, i = j + 1 ∧ zs[j]? = some z1 ∧ z1 < z := by
          rcases hpre with rfl | ⟨j, z1, rfl, h1⟩
          · exact .inl rfl
          · refine .inr ⟨j, z1, rfl, h1, ?_⟩
            rw [take_snocS hz, take_snocS h1, List.pairwise_append] at hr
            exact hr.2.2 z1 (by simp) z (by simp)
        clear hr hpre hz
        rcases hgt with hi0 | ⟨j, z1, rfl, h1, h2⟩
        · have hd0 : decide (0 < i) = false := by simp; omega
          have HI0 := Lib.hid hi0
          clear hi0
          go_upto_region 10 with (fail)
          go_quiet (fail)
          clear q2 q3
          go_upto_region 12 with (fail)
          refine wp_gen (fun W => LoopD w3 zs x i is (.slice aoL nl cL) (.slice aoM nm cM) W) (HL.out.drewN _) ?_
          intro W hW
          clear HL
          have HL := Lib.hid hW
          have q2 := HZ.out i z HZI.out _ hW.below
          have q3 := HX.out 3 (.int .i64 x) rfl _ hW.below
          clear hW
          rcases Int.lt_trichotomy z x with hc | hc | hc
          · have hd : decide (z < x) = true := by simpa using hc
            have hd1 : decide (x < z) = false := by simp; omega
            have hd2 : (z == x) = false := by simp; omega
            have HC := Lib.hid hc
            clear hc
            go_quiet (fail)
            go_upto_region 14 with (at_builtin; refine wpList_append64c (by exact ((HL.out.drewN _).less.below ((Below.refl _ _).alloc (Nat.le_refl _) _))) (by have := HL.out.size; simp <;> omega) W.heap.size z (by exact cell_of_row _ _ 0 _ _ _ (heap_new _ _ _ rfl)) (by rw [← HNL.out]; omega) rfl _ _ rfl rfl rfl ?_; intro v8 w8 hown8 hgrow8 hnear8; obtain ⟨ao8, c8, rfl⟩ : ∃ ao8 c8, v8 = .slice ao8 (nl + 1) c8 := (by obtain ⟨p, q, e, -⟩ := hown8.slice; exact ⟨p, q, by rw [e, List.length_append, HNL.out]; rfl⟩))
            refine wp_gen (fun W => LoopD w3 zs x (i + 1) is (.slice ao8 (nl + 1) c8) (.slice aoM nm cM) W) ((HL.out.drewN _).low HZI.out HC.out HRS.out hown8 hgrow8 hnear8) ?_
            intro W2 hW2
            have HL2 := Lib.hid hW2
            have q4 := HZ.out i z HZI.out _ hW2.below
            have q5 := HX.out 3 (.int .i64 x) rfl _ hW2.below
            clear hW2 hown8 hgrow8 hnear8 HL q2 q3
            go_quiet (fail)
            cases is
            all_goals
              go_upto_region 16 with (fail)
              go_quiet (fail)
              go_wp2
              go_roundw
              case rel => exact ⟨_, _, hlt, rfl, by go_num, HL2.out.drewN _⟩
              case measure => simp [intOf]; omega
          · have hd : decide (z < x) = false := by simp; omega
            have hd1 : decide (x < z) = false := by simp; omega
            have hd2 : (z == x) = true := by simpa using hc
            have HL2 := Lib.hid (HL.out.here (by rw [← hc]; exact HZI.out) HRS.out)
            clear hc
            go_quiet (fail)
            go_upto_region 14 with (fail)
            go_quiet (fail)
            clear HL
            cases is
            all_goals
              go_upto_region 16 with (fail)
              go_quiet (fail)
              go_wp2
              go_roundw
              case rel => exact ⟨_, _, hlt, rfl, by go_num, HL2.out.drewN _⟩
              case measure => simp [intOf]; omega
          · have hd : decide (z < x) = false := by simp; omega
            have hd1 : decide (x < z) = true := by simpa using hc
            have hd2 : (z == x) = false := by simp; omega
            have HC := Lib.hid hc
            clear hc
            go_quiet (fail)
            go_upto_region 14 with (fail)
            go_quiet (fail)
            go_upto_region 16 with (at_builtin; refine wpList_append64c (by exact ((HL.out.drewN _).more.below ((Below.refl _ _).alloc (Nat.le_refl _) _))) (by have := HL.out.size; simp <;> omega) W.heap.size z (by exact cell_of_row _ _ 0 _ _ _ (heap_new _ _ _ rfl)) (by rw [← HNM.out]; omega) rfl _ _ rfl rfl rfl ?_; intro v8 w8 hown8 hgrow8 hnear8; obtain ⟨ao8, c8, rfl⟩ : ∃ ao8 c8, v8 = .slice ao8 (nm + 1) c8 := (by obtain ⟨p, q, e, -⟩ := hown8.slice; exact ⟨p, q, by rw [e, List.length_append, HNM.out]; rfl⟩))
            refine wp_gen (fun W => LoopD w3 zs x (i + 1) is (.slice aoL nl cL) (.slice ao8 (nm + 1) c8) W) ((HL.out.drewN _).high HZI.out HC.out HRS.out hown8 hgrow8 hnear8) ?_
            intro W2 hW2
            have HL2 := Lib.hid hW2
            have q4 := HZ.out i z HZI.out _ hW2.below
            have q5 := HX.out 3 (.int .i64 x) rfl _ hW2.below
            clear hW2 hown8 hgrow8 hnear8 HL q2 q3
            cases is
            all_goals
              go_upto_region 16 with (fail)
              go_quiet (fail)
              go_wp2
              go_roundw
              case rel => exact ⟨_, _, hlt, rfl, by go_num, HL2.out.drewN _⟩
              case measure => simp [intOf]; omega
        · have q1 := HZ.out j z1 h1 _ HL.out.below
          have hd0 : decide (z ≤ z1) = false := by simp; omega
          clear h1 h2
          go_upto_region 10 with (fail)
          go_quiet (fail)
          clear q1 q2 q3
          go_upto_region 12 with (fail)
          refine wp_gen (fun W => LoopD w3 zs x (j + 1) is (.slice aoL nl cL) (.slice aoM nm cM) W) (HL.out.drewN _) ?_
          intro W hW
          clear HL
          have HL := Lib.hid hW
          have q2 := HZ.out (j + 1) z HZI.out _ hW.below
          have q3 := HX.out 3 (.int .i64 x) rfl _ hW.below
          clear hW
          rcases Int.lt_trichotomy z x with hc | hc | hc
          · have hd : decide (z < x) = true := by simpa using hc
            have hd1 : decide (x < z) = false := by simp; omega
            have hd2 : (z == x) = false := by simp; omega
            have HC := Lib.hid hc
            clear hc
            go_quiet (fail)
            go_upto_region 14 with (at_builtin; refine wpList_append64c (by exact ((HL.out.drewN _).less.below ((Below.refl _ _).alloc (Nat.le_refl _) _))) (by have := HL.out.size; simp <;> omega) W.heap.size z (by exact cell_of_row _ _ 0 _ _ _ (heap_new _ _ _ rfl)) (by rw [← HNL.out]; omega) rfl _ _ rfl rfl rfl ?_; intro v8 w8 hown8 hgrow8 hnear8; obtain ⟨ao8, c8, rfl⟩ : ∃ ao8 c8, v8 = .slice ao8 (nl + 1) c8 := (by obtain ⟨p, q, e, -⟩ := hown8.slice; exact ⟨p, q, by rw [e, List.length_append, HNL.out]; rfl⟩))
            refine wp_gen (fun W => LoopD w3 zs x ((j + 1) + 1) is (.slice ao8 (nl + 1) c8) (.slice aoM nm cM) W) ((HL.out.drewN _).low HZI.out HC.out HRS.out hown8 hgrow8 hnear8) ?_
            intro W2 hW2
            have HL2 := Lib.hid hW2
            have q4 := HZ.out (j + 1) z HZI.out _ hW2.below
            have q5 := HX.out 3 (.int .i64 x) rfl _ hW2.below
            clear hW2 hown8 hgrow8 hnear8 HL q2 q3
            go_quiet (fail)
            cases is
            all_goals
              go_upto_region 16 with (fail)
              go_quiet (fail)
              go_wp2
              go_roundw
              case rel => exact ⟨_, _, hlt, rfl, by go_num, HL2.out.drewN _⟩
              case measure => simp [intOf]; omega
          · have hd : decide (z < x) = false := by simp; omega
            have hd1 : decide (x < z) = false := by simp; omega
            have hd2 : (z == x) = true := by simpa using hc
            have HL2 := Lib.hid (HL.out.here (by rw [← hc]; exact HZI.out) HRS.out)
            clear hc
            go_quiet (fail)
            go_upto_region 14 with (fail)
            go_quiet (fail)
            clear HL
            cases is
            all_goals
              go_upto_region 16 with (fail)
              go_quiet (fail)
              go_wp2
              go_roundw
              case rel => exact ⟨_, _, hlt, rfl, by go_num, HL2.out.drewN _⟩
              case measure => simp [intOf]; omega
          · have hd : decide (z < x) = false := by simp; omega
            have hd1 : decide (x < z) = true := by simpa using hc
            have hd2 : (z == x) = false := by simp; omega
            have HC := Lib.hid hc
            clear hc
            go_quiet (fail)
            go_upto_region 14 with (fail)
            go_quiet (fail)
            go_upto_region 16 with (at_builtin; refine wpList_append64c (by exact ((HL.out.drewN _).more.below ((Below.refl _ _).alloc (Nat.le_refl _) _))) (by have := HL.out.size; simp <;> omega) W.heap.size z (by exact cell_of_row _ _ 0 _ _ _ (heap_new _ _ _ rfl)) (by rw [← HNM.out]; omega) rfl _ _ rfl rfl rfl ?_; intro v8 w8 hown8 hgrow8 hnear8; obtain ⟨ao8, c8, rfl⟩ : ∃ ao8 c8, v8 = .slice ao8 (nm + 1) c8 := (by obtain ⟨p, q, e, -⟩ := hown8.slice; exact ⟨p, q, by rw [e, List.length_append, HNM.out]; rfl⟩))
            refine wp_gen (fun W => LoopD w3 zs x ((j + 1) + 1) is (.slice aoL nl cL) (.slice ao8 (nm + 1) c8) W) ((HL.out.drewN _).high HZI.out HC.out HRS.out hown8 hgrow8 hnear8) ?_
            intro W2 hW2
            have HL2 := Lib.hid hW2
            have q4 := HZ.out (j + 1) z HZI.out _ hW2.below
            have q5 := HX.out 3 (.int .i64 x) rfl _ hW2.below
            clear hW2 hown8 hgrow8 hnear8 HL q2 q3
            cases is
            all_goals
              go_upto_region 16 with (fail)
              go_quiet (fail)
              go_wp2
              go_roundw
              case rel => exact ⟨_, _, hlt, rfl, by go_num, HL2.out.drewN _⟩
              case measure => simp [intOf]; omega
      · have HNO := Lib.hid (show doOk zs n op a b x y = false by
          rw [HOK.out]
          unfold risesB
          simp only [decide_eq_false_iff_not]
          intro hp
          have := hp.sublist (List.take_sublist (j + 1 + 1) zs)
          rw [take_snocS hz, take_snocS h1, List.pairwise_append] at this
          have := this.2.2 z1 (by simp) z (by simp)
          omega)
        have q1 := HZ.out j z1 h1 _ HL.out.below
        have hd : decide (z ≤ z1) = true := by simpa using h2
        clear hpre hz h1 h2
        go_upto_region 10 with (fail)
        go_quiet (fail)
        go_wp2
        go_ret3
        exact doTold_no HNO.out (Told.no rfl (Below.drewK (HB.out.trans (HL.out.below.mono HB.out.size)) _))
    · obtain rfl : i = m := by omega
      have eT : zs.take i = zs := List.take_of_length_le (by rw [HM.out]; exact Nat.le_refl _)
      have hrs := HL.out.rises
      have his := HL.out.is_
      have hle := HL.out.less
      have hmo := HL.out.more
      rw [eT] at hrs his hle hmo
      have hb := HL.out.below
      have hel := HNL.out
      have hem := HNM.out
      rw [eT] at hel hem
      have HOKY := Lib.hid (show doOk zs n op a b x y = true by rw [HOK.out]; unfold risesB; rw [decide_eq_true hrs])
      have HIS := Lib.hid his
      have HFL := Lib.hid (show aoL = none → cL = 0 from by obtain ⟨_, _, e, hf, _⟩ := hle.slice; injection e with h1 h2 h3; subst h1; subst h3; exact hf.1)
      have HFM := Lib.hid (show aoM = none → cM = 0 from by obtain ⟨_, _, e, hf, _⟩ := hmo.slice; injection e with h1 h2 h3; subst h1; subst h3; exact hf.1)
      have HLE := Lib.hid hle
      have HMO := Lib.hid hmo
      have HEL := Lib.hid hel
      have HEM := Lib.hid hem
      have HBW := Lib.hid hb
      have hsz := hb.size
      have q3 := HX.out 3 (.int .i64 x) rfl _ hb
      clear eT hrs his hle hmo hb hel hem HL HNL HNM him hlt
      go_upto_region 17 with (fail)
      obtain ⟨wA, rfl⟩ : ∃ wA : World, wA = wr := ⟨_, rfl⟩
      go_cut [14] (fun p wr => ∃ ao8 c8, p = .slice ao8 (nl + 1 + nm) c8 ∧ Own wr wA.heap.size (.slice ao8 (nl + 1 + nm) c8) (lessL zs x ++ x :: moreL zs x) ∧ Below wA.heap.size wA wr)
      case first =>
        go_region_held3 (fun w' => w'.cell? ⟨w.heap.size, 3, none⟩ = some (.int .i64 x) ∧ Below wA.heap.size wA w')
          ((refine ⟨HX.out 3 (.int .i64 x) rfl _ (HBW.out.trans (Below.mono (B := wA.heap.size) ?_ hsz)), ?_⟩ <;> repeat (first | exact Below.refl _ _ | assumption | apply below_drewed1 | (refine below_new ?_ (Nat.le_refl _) _))))
          (first
            | (refine step_append64B (w0 := wA) (xs := []) (by have hh := ‹_ ∧ Below wA.heap.size wA _›; exact hh.2) (by first | exact own_empty (Nat.le_refl _) (new1 _ _) | exact own_empty (Nat.le_refl _) (new2a _ _ _) | exact own_empty (Nat.le_succ _) (new2b _ _ _)) aoL nl cL (lessL zs x) HEL.out.symm (by exact (Own.sees3 HLE.out).below (by have hh := ‹_ ∧ Below wA.heap.size wA _›; exact hh.2)) HFL.out (by rw [← HEL.out]; simp; omega) rfl (.tmp 91) (.tmp 92) rfl rfl rfl (fun v1 w1 ho1 hb1 hg1 => ?_))
            | (refine step_append64B (w0 := wA) (xs := lessL zs x) (by have hh := ‹_ ∧ Below wA.heap.size wA _›; exact hh.2) (by first | exact ho1 | exact ho1.below ((Below.refl _ _).alloc (Nat.le_refl _) _)) _ 1 1 [x] rfl (by first | exact sees_one (heap_new w1 _ _ rfl) | exact sees_one ((hg1.block (wA.heap.size + 1) (by simp <;> omega) (fun e => by have e2 : some (wA.heap.size + 1) = some wA.heap.size := e; injection e2 with e3; omega)).trans (new2b _ _ _)) | exact sees_one ((hg1.block wA.heap.size (by simp <;> omega) (fun e => by have e2 : some wA.heap.size = some (wA.heap.size + 1) := e; injection e2 with e3; omega)).trans (new2a _ _ _))) (fun h => by cases h) (by rw [← HEL.out]; simp; omega) rfl (.tmp 93) (.tmp 96) rfl rfl rfl (fun v2 w2 ho2 hb2 hg2 => ?_))
            | (refine step_append64B (w0 := wA) (xs := lessL zs x ++ [x]) (by have hh := ‹_ ∧ Below wA.heap.size wA _›; exact hh.2) (by exact ho2) aoM nm cM (moreL zs x) HEM.out.symm (by exact (Own.sees3 HMO.out).below (by have hh := ‹_ ∧ Below wA.heap.size wA _›; exact hh.2)) HFM.out (by rw [List.length_append, ← HEL.out, ← HEM.out]; simp; omega) rfl (.tmp 97) (.tmp 98) rfl rfl rfl (fun v3 w5 ho3 hb3 hg3 => ?_)))
        all_goals
          obtain ⟨ao8, c8, rfl, -⟩ := ho3.slice
          go_wp2_with fail
          go_meet
          have e8 : (lessL zs x ++ [x] ++ moreL zs x).length = nl + 1 + nm := by rw [HEL.out, HEM.out]; simp <;> omega
          have e9 : lessL zs x ++ [x] ++ moreL zs x = lessL zs x ++ x :: moreL zs x := by simp
          refine ⟨ao8, c8, by rw [← e8], ?_, hb3⟩
          rw [← e8, ← e9]; exact ho3
      case rest =>
        obtain ⟨ao8, c8, rfl, hw8, hB8⟩ := hcut
        have HW8 := Lib.hid hw8
        have hz8 := hB8.size
        clear hw8
        go_upto_region 20 with (first
          | (at_builtin; refine wpList_append64 (B := wc.heap.size) (xs := []) (by exact own_empty (Nat.le_refl _) (heap_new _ _ _ rfl)) (by simp <;> omega) aoL nl cL (lessL zs x) HEL.out.symm (by exact (Own.sees3 HLE.out).below (hB8.alloc hz8 _)) HFL.out (by rw [← HEL.out]; simp; omega) rfl (.tmp 100) (.tmp 101) rfl rfl rfl ?_; intro v9 w9 ho9 hg9; have hC9 : Below wc.heap.size wc w9 := ((Below.refl _ _).alloc (Nat.le_refl _) _).grown hg9 (by simp <;> omega) (fun k hk => by have e : some wc.heap.size = some k := hk; injection e with e; omega))
          | (at_builtin; refine wpList_append64 (B := wc.heap.size) (xs := lessL zs x) (by exact ho9) hC9.size aoM nm cM (moreL zs x) HEM.out.symm (by exact (Own.sees3 HMO.out).below (hB8.trans (hC9.mono hz8))) HFM.out (by rw [← HEL.out, ← HEM.out]; omega) rfl (.tmp 102) (.tmp 103) rfl rfl rfl ?_; intro v10 w10 ho10 hg10; have hC10 : Below wc.heap.size wc w10 := hC9.grown hg10 hC9.size (fun k hk => own_ge ho9 hk); have hB10 := hB8.trans (hC10.mono hz8))
          | (at_builtin; refine wpList_append64 (B := w10.heap.size) (xs := []) (by exact own_empty (Nat.le_refl _) (heap_new _ _ _ rfl)) (by simp <;> omega) ao i c zs HM.out (by exact HS.out.below (HB.out.trans ((HBW.out.trans ((hB10.alloc hB10.size _).mono hsz)).mono HB.out.size))) HNIL.out (by rw [HM.out]; simp; omega) rfl (.tmp 105) (.tmp 106) rfl rfl rfl ?_; intro v11 w11 ho11 hg11; have hC11 : Below w10.heap.size w10 w11 := ((Below.refl _ _).alloc (Nat.le_refl _) _).grown hg11 (by simp <;> omega) (fun k hk => by have e : some w10.heap.size = some k := hk; injection e with e; omega)))
        have hB11 : Below wA.heap.size wA w11 := hB10.trans (hC11.mono hB10.size)
        have hBw : Below w.heap.size w w11 := HB.out.trans ((HBW.out.trans (hB11.mono hsz)).mono HB.out.size)
        have hWITH : Own w11 wA.heap.size (.slice ao8 (nl + 1 + nm) c8) (lessL zs x ++ x :: moreL zs x) := (HW8.out.below hC10).below hC11
        have hWO : Own w11 wc.heap.size v10 (lessL zs x ++ moreL zs x) := ho10.below hC11
        have hSAME : Own w11 w10.heap.size v11 zs := ho11
        obtain ⟨ao10, c10, rfl, -⟩ := hWO.slice
        obtain ⟨ao11, c11, rfl, -⟩ := hSAME.slice
        have hn8 : (lessL zs x ++ x :: moreL zs x).length = nl + 1 + nm := by rw [List.length_append, List.length_cons, HEL.out, HEM.out]; omega
        have q0 := HX.out 0 (.int .i64 op) rfl _ (HBW.out.trans (hB11.mono hsz))
        have q3 := HX.out 3 (.int .i64 x) rfl _ (HBW.out.trans (hB11.mono hsz))
        have hop : op = 1 ∨ op = 2 ∨ op = 3 ∨ op = 4 ∨ op = 5 := by
          have hm' := HO.out
          simp only [mayD, Bool.and_eq_true, decide_eq_true_eq] at hm'
          have h1 := hm'.1.1.1.1.1
          have h2 := hm'.1.1.1.1.2
          omega
        have HSO := Lib.hid (Sees.of_own hSAME)
        have HWITH := Lib.hid hWITH
        have HN8 := Lib.hid hn8
        have HBF := Lib.hid hBw
        obtain ⟨k10, hk10⟩ : ∃ k, k = (lessL zs x ++ moreL zs x).length := ⟨_, rfl⟩
        have HK10 := Lib.hid hk10
        rw [← hk10]
        rw [HM.out] at hSAME ⊢
        rw [← hk10] at hWO
        have HWO := Lib.hid hWO
        have HSAME := Lib.hid hSAME
        clear hB11 hBw hWITH hWO hSAME hn8 hB10 hC9 hC10 hC11 hg9 hg10 hg11 ho9 ho10 ho11 hB8 hk10
        rcases hop with rfl | rfl | rfl | rfl | rfl
        · cases is with
          | true =>
            have HIN := Lib.hid (HIS.out.1 rfl)
            go_wp2
            go_ret3
            exact doTold_yes HOKY.out (D := zs) (T := [0]) (by unfold deedS; simp [HIN.out]) (told_one HSAME.out HM.out HBF.out 0)
          | false =>
            have HIN := Lib.hid (show x ∉ zs from fun h => by have := HIS.out.2 h; cases this)
            by_cases hn : (i : Int) = n
            · have hd : ((i : Int) == n) = true := by simpa using hn
              go_wp2
              go_ret3
              exact doTold_yes HOKY.out (D := zs) (T := [2]) (by unfold deedS; simp [HIN.out, HM.out, hn]) (told_one HSAME.out HM.out HBF.out 2)
            · have hd : ((i : Int) == n) = false := by simpa using hn
              go_wp2
              go_ret3
              exact doTold_yes HOKY.out (D := lessL zs x ++ x :: moreL zs x) (T := [1]) (by unfold deedS; simp [HIN.out, HM.out, hn]) (told_one HWITH.out HN8.out HBF.out 1)
        · cases is with
          | true =>
            have HIN := Lib.hid (HIS.out.1 rfl)
            go_wp2
            go_ret3
            exact doTold_yes HOKY.out (D := lessL zs x ++ moreL zs x) (T := [1]) (by unfold deedS; simp [HIN.out]) (told_one HWO.out HK10.out.symm HBF.out 1)
          | false =>
            have HIN := Lib.hid (show x ∉ zs from fun h => by have := HIS.out.2 h; cases this)
            go_wp2
            go_ret3
            exact doTold_yes HOKY.out (D := zs) (T := [0]) (by unfold deedS; simp [HIN.out]) (told_one HSAME.out HM.out HBF.out 0)
        · cases is with
          | true =>
            have HIN := Lib.hid (HIS.out.1 rfl)
            go_wp2
            go_ret3
            exact doTold_yes HOKY.out (D := zs) (T := [1]) (by unfold deedS; simp [HIN.out]) (told_one HSAME.out HM.out HBF.out 1)
          | false =>
            have HIN := Lib.hid (show x ∉ zs from fun h => by have := HIS.out.2 h; cases this)
            go_wp2
            go_ret3
            exact doTold_yes HOKY.out (D := zs) (T := [0]) (by unfold deedS; simp [HIN.out]) (told_one HSAME.out HM.out HBF.out 0)
        · by_cases h0 : i = 0
          · subst h0
            have HZ0 := Lib.hid (List.eq_nil_of_length_eq_zero HM.out)
            go_wp2
            go_ret3
            exact doTold_yes HOKY.out (D := zs) (T := [0]) (by unfold deedS; simp [HZ0.out]) (told_one HSAME.out HM.out HBF.out 0)
          · have h1 : (0 : Int) < (i : Int) := by omega
            have hd1 : decide ((0 : Int) < (i : Int)) = true := by simpa using h1
            have hd2 : decide (0 < i) = true := by simp; omega
            obtain ⟨b0, o0, e0, hz0⟩ := HS.out.below HBF.out
            obtain rfl := e0 (by intro e; have := HM.out; rw [e] at this; simp at this; omega)
            have HNE := Lib.hid (show zs ≠ [] by intro e; have := HM.out; rw [e] at this; simp at this; omega)
            have q4 := hz0 0 (by rw [HM.out]; omega)
            rw [Nat.add_zero] at q4
            have hil : 0 < i := by omega
            clear e0 hz0
            go_upto_region 35 with (fail)
            go_region_held3 (fun w' => w'.cell? ⟨b0, o0, none⟩ = some (.int .i64 (zs.getD 0 0))) (go_keep) (fail)
            all_goals
              go_wp2
              go_ret3
              exact doTold_yes HOKY.out (D := zs) (T := [1, zs.getD 0 0]) (by unfold deedS; simp [HNE.out]) (told_two HSO.out HM.out HBF.out 1 _)
        · go_wp2
          go_ret3
          exact doTold_yes HOKY.out (D := zs) (T := [(i : Int)]) (by unfold deedS; simp [HM.out]) (told_one HSAME.out HM.out HBF.out _)
theorem refDo_any (ao : Option Addr) (m c : Nat) (zs : List Int) (n op a b x y : Int) (w : World) (hm : zs.length = m) (hnil : ao = none → c = 0) (hs : Sees w ao zs) :
    Calls Tryz.prog 18 #[.slice ao m c, .int .i64 n, .agg #[.int .i64 op, .int .i64 a, .int .i64 b, .int .i64 x, .int .i64 y]] w (Told (doS zs n op a b x y).1 (doS zs n op a b x y).2.1 (doS zs n op a b x y).2.2 w) := by
  by_cases h : roomI n ≠ 0 ∧ (m : Int) ≤ n ∧ mayD op a b x y = true
  · exact refDo_go ao m c zs n op a b x y w hm hnil hs h.1 h.2.1 h.2.2
  · refine refDo_no ao m c zs n op a b x y w h ?_
    cases hd : doOk zs n op a b x y with
    | false => rfl
    | true =>
      have hp := deed_parts hd
      exact absurd ⟨by have := hp.1; omega, by rw [← hm]; exact hp.2.2.2.1, hp.2.2.2.2.1⟩ h
end Go.Proofs.YtkioddgolmaaeaaGreatDoor
