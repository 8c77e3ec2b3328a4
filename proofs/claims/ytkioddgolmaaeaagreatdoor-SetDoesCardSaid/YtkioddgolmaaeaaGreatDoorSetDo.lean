/-
  quash/set.Do: every call over a slice that reads as a list. Condition: at most 2^44 values.
-/
import Derived.Test.YtkioddgolmaaeaaGreatDoorSetSmall
import Derived.Test.YtkioddgolmaaeaaGreatDoorIns64
import Derived.Test.YtkioddgolmaaeaaGreatDoorSearch64
import Derived.Test.YtkioddgolmaaeaaGreatDoorSetS
namespace Go.Proofs.YtkioddgolmaaeaaGreatDoor
open Go.RowKit
set_option maxRecDepth 100000

set_option maxHeartbeats 2000000 in
/-- a clone of any slice that reads as a list -/
theorem Clone64_any (ao : Option Addr) (n c : Nat) (zs : List Int) (w : World) (hl : zs.length = n) (hbig : zs.length * 8 ≤ 140737488355328) (_hcap : n ≤ c) (hs : Sees w ao zs) (hn : ao = none → c = 0) :
    Calls Tryz.prog 30 #[.slice ao n c] w fun e w' => ∃ v', e = .returned v' ∧ Own w' w.heap.size v' zs ∧ Below w.heap.size w w' := by
  cases ao with
  | none =>
    obtain rfl := hn rfl
    obtain rfl : n = 0 := by omega
    have hz : zs = [] := List.eq_nil_of_length_eq_zero hl
    subst hz
    exact (Clone64_none w).mono fun e w' ⟨h1, h2⟩ => ⟨_, h1, by subst h2; exact Own.nil _ _, by subst h2; exact Below.refl _ _⟩
  | some ad =>
    have q22 : ∀ (w : World) (a : Option Addr) (n c n' c' : Nat), (binOp .eql 23 (.slice a n c) (.slice none n' c')).run Tryz.prog w = .ok (.bool a.isNone) w := fun w a n c n' c' => Lib.run_eql_slice_nil w _ _ a n c n' c' Tryz.underlying23
    have u22 : ∀ w, Sem.run Tryz.prog (underlying 23) w = .ok (TypeDesc.slice 2) w := run_underlying Tryz.underlying23
    have A := Lib.hid hs
    have HL := Lib.hid hl
    have HBG := Lib.hid hbig
    clear hs hl hbig hn
    go_enter Tryz.func30, Tryz.ntmps30
    go_wp2_with (at_builtin; refine wpList_append64 (xs := []) (World.ownsRow_made w #[] 0 (Nat.le_refl _) (Nat.zero_le _) rfl) (by simp) (some ad) n c zs HL.out ((A.out.below ((Below.refl _ _).alloc (Nat.le_refl _) _))) (fun h => by cases h) (by simpa using HBG.out) rfl _ _ rfl rfl rfl ?_; intro v' w1 hown hgrow)
    go_wp2
    go_ret
    refine ⟨v', rfl, by simpa using hown, ?_⟩
    exact ((Below.refl _ w).alloc (Nat.le_refl _) _).grown hgrow (by simp) (by intro k hk; simp [Value.ownBlock] at hk; omega)
theorem Gave.no {w w' : World} {e : Ending} {c : Int} (h1 : e = .returned (.tuple #[.slice none 0 0, .slice none 0 0, .int .i64 c])) (h2 : Below w.heap.size w w') : Gave [] [] c w e w' :=
  ⟨_, _, h1, Own.nil _ _, Own.nil _ _, (fun g h => by cases h), h2⟩
theorem Below.drewK {B : Nat} {w w' : World} (h : Below B w w') (n : Nat) : Below B w (w'.drewN n) := ⟨h.os, h.tape, h.output, h.size, h.block⟩
theorem Own.drewN {w : World} {B : Nat} {v : Value} {zs : List Int} (h : Own w B v zs) (n : Nat) : Own (w.drewN n) B v zs := h
theorem off_of_big {W : World} {B T : Nat} {v : Value} {D : List Int} {u : Value} {t : TypeId} (h : Own W B v D) (h2 : 2 ≤ D.length) (hT : W.heap[T]? = some (.cells #[u] t)) : v.ownBlock ≠ some T := fun e => by
  rcases h.form with ⟨rfl, rfl⟩ | ⟨g, cap, rfl, hb⟩
  · simp at h2
  · obtain rfl : g = T := by simpa [Value.ownBlock] using e
    obtain ⟨cur, hc, hs, _⟩ := hb.block
    rw [hT] at hc
    injection hc with hc
    injection hc with hc
    subst hc
    have := hb.caps.1
    simp at hs
    omega
theorem gave_keep {w W : World} {v : Value} {D : List Int} {c z : Int} {T : Nat} (h : Own W w.heap.size v D) (hB : Below w.heap.size w W) (hT : W.heap[T]? = some (.cells #[.int .i64 z] 2)) (hge : w.heap.size ≤ T) (hne : v.ownBlock ≠ some T) :
    Gave D [z] c w (.returned (.tuple #[v, .slice (some ⟨T, 0, none⟩) 1 1, .int .i64 c])) W :=
  ⟨_, _, rfl, h, Bal.own (zs := [z]) (Bal.of_block hge hT rfl (by simp) (by decide) rfl), (fun g hg e => by
    obtain rfl : T = g := by simpa [Value.ownBlock] using e
    exact hne hg), hB⟩
theorem gave_set {w W : World} {v : Value} {D : List Int} {c z z0 : Int} {T : Nat} (h : Own W w.heap.size v D) (hB : Below w.heap.size w W) (hT : W.heap[T]? = some (.cells #[.int .i64 z0] 2)) (hge : w.heap.size ≤ T) (hne : v.ownBlock ≠ some T) :
    Gave D [z] c w (.returned (.tuple #[v, .slice (some ⟨T, 0, none⟩) 1 1, .int .i64 c])) (W.setCell ⟨T, 0, none⟩ (.int .i64 z)) := by
  refine gave_keep (ownsRow_at h (fun g hg => heap_setCell_other _ ⟨_, _, none⟩ _ _ (by show g ≠ T; intro e; subst e; exact hne hg))) (hB.setCell (p := ⟨T, 0, none⟩) hge _) ?_ hge hne
  exact heap_setCell_same W T 0 #[.int .i64 z0] 2 (.int .i64 z) hT
theorem gave_two2 {w W : World} {v : Value} {D : List Int} {c : Int} (h : Own W w.heap.size v D) (hB : Below w.heap.size w W) (y z : Int) :
    Gave D [y, z] c w (.returned (.tuple #[v, .slice (some ⟨W.heap.size, 0, none⟩) 2 2, .int .i64 c])) (W.alloc (.cells #[.int .i64 y, .int .i64 z] 2)) :=
  ⟨_, _, rfl, h.below ((Below.refl _ _).alloc (Nat.le_refl _) _), Bal.own (zs := [y, z]) (Bal.of_block hB.size (heap_new _ _ _ rfl) rfl (by simp) (by decide) rfl), (fun g hg e => by
    obtain ⟨_, hc⟩ := own_block h hg
    have h1 := lt_of_block hc
    have h2 : W.heap.size = g := by simpa [Value.ownBlock] using e
    omega), hB.alloc hB.size _⟩
theorem pairwise_take (zs : List Int) (i : Nat) (hi : 1 ≤ i) (hl : i < zs.length) : risesB (zs.take (i + 1)) = (risesB (zs.take i) && decide (zs.getD (i - 1) 0 < zs.getD i 0)) := by
  unfold risesB
  have e1 : zs.take (i + 1) = zs.take i ++ [zs.getD i 0] := by
    rw [List.take_succ_eq_append_getElem hl, List.getD_eq_getElem?_getD, List.getElem?_eq_getElem hl]; rfl
  rw [e1, Bool.eq_iff_iff]
  simp only [Bool.and_eq_true, decide_eq_true_eq]
  rw [pairwise_snoc]
  have hlen : (zs.take i).length = i := by rw [List.length_take]; omega
  have hne : zs.take i ≠ [] := by intro e; rw [e] at hlen; simp at hlen; omega
  rw [hlen]
  have e2 : (zs.take i).getD (i - 1) 0 = zs.getD (i - 1) 0 := by
    simp only [List.getD_eq_getElem?_getD]
    rw [List.getElem?_take]
    rw [if_pos (by omega)]
  rw [e2]
  constructor
  · rintro ⟨h1, h2⟩
    exact ⟨h1, h2.resolve_left hne⟩
  · rintro ⟨h1, h2⟩
    exact ⟨h1, .inr h2⟩
/-- what Do answers -/
def DoGave (zs : List Int) (n op a b x y : Int) (w : World) (e : Ending) (w' : World) : Prop := Gave (doS zs n op a b x y).1 (doS zs n op a b x y).2.1 (if (doS zs n op a b x y).2.2 then 0 else 180) w e w'
theorem doGave_no {zs : List Int} {n op a b x y : Int} {w : World} (h : doOk zs n op a b x y = false) {e : Ending} {w' : World} (hg : Gave [] [] 180 w e w') : DoGave zs n op a b x y w e w' := by
  unfold DoGave doS
  rw [if_neg (by rw [h]; decide)]
  exact hg
theorem doGave_yes {zs : List Int} {n op a b x y : Int} {w : World} (h : doOk zs n op a b x y = true) {e : Ending} {w' : World} {D T : List Int} (hd : deedS zs n op x = (D, T)) (hg : Gave D T 0 w e w') : DoGave zs n op a b x y w e w' := by
  unfold DoGave doS
  rw [if_pos h, hd]
  exact hg
theorem own_notK {W : World} {B g : Nat} {v : Value} {zs : List Int} {cs : Array Value} {t : TypeId} (h : Own W B v zs) (hg : W.heap[g]? = some (.cells cs t)) (ht : t ≠ 2) : v.ownBlock ≠ some g := fun e => by
  obtain ⟨cur, hc⟩ := own_block h e
  rw [hc] at hg
  injection hg with hg
  injection hg with _ h2
  exact ht h2.symm
set_option maxHeartbeats 4000000 in
theorem Do_anyG (ao : Option Addr) (m c : Nat) (zs : List Int) (n op a b x y : Int) (w : World) (hm : zs.length = m) (hbig : m ≤ 1000000000000000) (hf : Flat ao m c) (hs : Sees w ao zs) :
    Calls Tryz.prog 17 #[.slice ao m c, .int .i64 n, .agg #[.int .i64 op, .int .i64 a, .int .i64 b, .int .i64 x, .int .i64 y]] w (DoGave zs n op a b x y w) := by
  have HM := Lib.hid hm
  have HF := Lib.hid hf
  have HS := Lib.hid hs
  clear hm hf hs
  go_enter Tryz.func17, Tryz.ntmps17
  go_wp2_with fail
  go_loopw [9, 10] (fun u v wr => ∃ i : Nat, 1 ≤ i ∧ (i = 1 ∨ i ≤ m) ∧ v = .int .i64 i ∧ u = .bool (risesB (zs.take i)) ∧ Below w.heap.size w wr ∧ wr.heap[w.heap.size]? = some (.cells #[.int .i64 op, .int .i64 a, .int .i64 b, .int .i64 x, .int .i64 y] 36)) (fun _ v _ => m - (intOf v).toNat)
  case atStart =>
    refine ⟨1, Nat.le_refl _, .inl rfl, rfl, ?_, (Below.refl _ _).alloc (Nat.le_refl _) _, heap_new _ _ _ rfl⟩
    have : (zs.take 1).Pairwise (· < ·) := by
      cases zs with
      | nil => simp
      | cons z r => simp
    unfold risesB
    rw [decide_eq_true this]
  case round =>
    obtain ⟨i, hi1, him, rfl, rfl, hB, hd⟩ := hrel
    by_cases hlt : i < m
    · have HB := Lib.hid hB
      have HD := Lib.hid hd
      obtain ⟨b0, o0, e0, hcs⟩ := HS.out.below hB
      obtain rfl := e0 (by intro e; have := HM.out; rw [e] at this; simp at this; omega)
      have q1 := hcs (i - 1) (by rw [HM.out]; omega)
      have q2 := hcs i (by rw [HM.out]; omega)
      have HST := Lib.hid (pairwise_take zs i hi1 (by rw [HM.out]; exact hlt))
      obtain ⟨j, rfl⟩ : ∃ j, i = j + 1 := ⟨i - 1, by omega⟩
      rw [Nat.add_sub_cancel] at q1 HST
      generalize zs.getD j 0 = y1 at q1 HST
      generalize zs.getD (j + 1) 0 = y2 at q2 HST
      clear hB hd hcs e0
      cases hp : risesB (zs.take (j + 1)) with
      | false =>
        have HP := Lib.hid hp
        clear hp
        go_upto_region 5 with (fail)
        go_quiet (fail)
        go_wp2
        go_roundw
        case rel => exact ⟨j + 1 + 1, by omega, .inr (by omega), by go_num, by rw [HST.out, HP.out]; rfl, Below.drewK HB.out _, HD.out⟩
        case measure => simp [intOf]; omega
      | true =>
        have HP := Lib.hid hp
        clear hp
        cases hy : decide (y1 < y2) with
        | false =>
          go_upto_region 5 with (fail)
          go_quiet (fail)
          go_wp2
          go_roundw
          case rel => exact ⟨j + 1 + 1, by omega, .inr (by omega), by go_num, by rw [HST.out, HP.out, hy]; rfl, Below.drewK HB.out _, HD.out⟩
          case measure => simp [intOf]; omega
        | true =>
          go_upto_region 5 with (fail)
          go_quiet (fail)
          go_wp2
          go_roundw
          case rel => exact ⟨j + 1 + 1, by omega, .inr (by omega), by go_num, by rw [HST.out, HP.out, hy]; rfl, Below.drewK HB.out _, HD.out⟩
          case measure => simp [intOf]; omega
    · have hri : risesB (zs.take i) = risesB zs := by
        rw [List.take_of_length_le (by rw [HM.out]; omega)]
      rw [hri]
      clear hri
      have HB := Lib.hid hB
      have HD := Lib.hid hd
      have him2 : (m : Int) ≤ (i : Int) := by omega
      clear him hB hd
      by_cases h0 : roomI n = 0
      · have HR := Lib.hid h0
        have HNO := Lib.hid (show doOk zs n op a b x y = false by simp [doOk, h0])
        clear h0
        generalize risesB zs = rs
        go_wp2_with (first
          | (go_at_call 20; go_must (refine (Room_any n _).mono ?_; rintro e w3 ⟨rfl, rfl⟩; rw [HR.out])))
        go_ret3
        exact doGave_no HNO.out (Gave.no rfl HB.out)
      have hn := roomI_yes h0
      have HR := Lib.hid hn.1
      have hn0 : (3 + 2 * n == 0) = false := by have := hn.2; simp; omega
      by_cases hl : (m : Int) ≤ n
      · have hl2 : ¬ n < (m : Int) := by omega
        cases hrs : risesB zs with
        | false =>
          have HNO := Lib.hid (show doOk zs n op a b x y = false by simp [doOk, hrs])
          clear h0 hl hn hrs
          go_wp2_with (first
            | (go_at_call 20; go_must (refine (Room_any n _).mono ?_; rintro e w3 ⟨rfl, rfl⟩; rw [HR.out])))
          go_ret3
          exact doGave_no HNO.out (Gave.no rfl HB.out)
        | true =>
          have cd : ∀ W, Below wr.heap.size wr W → W.heap[w.heap.size]? = some (.cells #[.int .i64 op, .int .i64 a, .int .i64 b, .int .i64 x, .int .i64 y] 36) := fun W hW => (hW.block _ (lt_of_block HD.out)).trans HD.out
          have c00 := cell_of_row _ _ 0 _ _ _ HD.out
          have c01 := cell_of_row _ _ 1 _ _ _ HD.out
          have c02 := cell_of_row _ _ 2 _ _ _ HD.out
          have c03 := cell_of_row _ _ 3 _ _ _ HD.out
          have c04 := cell_of_row _ _ 4 _ _ _ HD.out
          have CD := Lib.hid cd
          clear cd
          cases hm : mayD op a b x y with
          | false =>
            have HO := Lib.hid hm
            have HNO := Lib.hid (show doOk zs n op a b x y = false by simp [doOk, hm])
            clear h0 hl hn hrs hm
            go_wp2_with (first
              | (go_at_call 29; go_must (refine (mayD_any op a b x y _).mono ?_; rintro e w2 ⟨rfl, hb2⟩; rw [HO.out]))
              | (go_at_call 20; go_must (refine (Room_any n _).mono ?_; rintro e w3 ⟨rfl, rfl⟩; rw [HR.out])))
            go_ret3
            exact doGave_no HNO.out (Gave.no rfl (HB.out.trans (hb2.mono HB.out.size)))
          | true =>
            have hok : doOk zs n op a b x y = true := by
              simp only [doOk, Bool.and_eq_true, decide_eq_true_eq]
              exact ⟨⟨⟨h0, by rw [HM.out]; exact hl⟩, hm⟩, hrs⟩
            obtain ⟨_, h1, h60, _, _, ho1, ho5, _⟩ := deed_parts hok
            have HO := Lib.hid hm
            have HOK := Lib.hid hok
            have HRS := Lib.hid (show zs.Pairwise (· < ·) by simpa [risesB] using hrs)
            have hm60 : m ≤ 60 := by omega
            clear h0 hl hn hrs hm hok
            go_upto_region 11 with (first
              | (go_at_call 29; go_must (refine (mayD_any op a b x y _).mono ?_; rintro e w2 ⟨rfl, hb2⟩; rw [HO.out]; have c3 := cell_of_row _ _ 3 _ _ _ (CD.out _ hb2)))
              | (go_at_call 20; go_must (refine (Room_any n _).mono ?_; rintro e w3 ⟨rfl, rfl⟩; rw [HR.out]))
              | (go_at_call 30; go_must (refine (Clone64_any ao m c zs _ HM.out (by rw [HM.out]; omega) HF.out.2 (by exact (HS.out.below (HB.out.trans (hb2.mono HB.out.size)))) HF.out.1).mono ?_; rintro e w4 ⟨v', rfl, ho4, hb4⟩; have c4 := cell_of_row _ _ 3 _ _ _ (CD.out _ (hb2.trans (hb4.mono hb2.size)))))
              | (go_at_call 31; go_must (refine (Search64_at _ v' zs x _ (by rw [HM.out]; omega) (by exact ho4) HRS.out).mono ?_; rintro e w5 ⟨⟨A, is, rfl, hA, his⟩, q5, rfl⟩; have HA := Lib.hid hA; have HIS := Lib.hid his; clear hA his)))
            have hB2 : Below w.heap.size w w2 := HB.out.trans (hb2.mono HB.out.size)
            have hB4 : Below w.heap.size w w4 := hB2.trans (hb4.mono hB2.size)
            have ho4' : Own w4 w.heap.size v' zs := ho4.lower hB2.size
            obtain ⟨ao', c', rfl, hf', hc63, hform⟩ := ho4'.slice
            have hd4 : w4.heap[w.heap.size]? = some (.cells #[.int .i64 op, .int .i64 a, .int .i64 b, .int .i64 x, .int .i64 y] 36) := CD.out _ (hb2.trans (hb4.mono hb2.size))
            rw [HM.out] at hform hf' ⊢
            have HFORM := Lib.hid hform
            have HC' := Lib.hid hf'
            have HC63 := Lib.hid hc63
            refine wp_gen (fun W => Own W w.heap.size (.slice ao' m c') zs ∧ Below w.heap.size w W ∧ W.heap[w4.heap.size]? = some (.cells #[.int .i64 0] 2) ∧ W.heap[w.heap.size]? = some (.cells #[.int .i64 op, .int .i64 a, .int .i64 b, .int .i64 x, .int .i64 y] 36) ∧ w4.heap.size < W.heap.size ∧ ∀ g, (Value.slice ao' m c').ownBlock = some g → g < w4.heap.size) ⟨?_, ?_, heap_new _ _ _ rfl, ?_, by simp, fun g hg => ?_⟩ ?_
            · have := ho4'.drewN q5
              rw [HM.out] at this
              exact this.below ((Below.refl _ _).alloc (Nat.le_refl _) _)
            · exact (Below.drewK hB4 q5).alloc hB4.size _
            · exact (Below.heap_alloc _ _ _ (lt_of_block hd4)).trans hd4
            · rw [HM.out] at ho4'
              obtain ⟨_, hc⟩ := own_block ho4' hg
              exact lt_of_block hc
            rintro W ⟨hoW, hBW, hT, hdW, hsW, hgl⟩
            obtain ⟨T, hTd⟩ : ∃ T, T = w4.heap.size := ⟨_, rfl⟩
            rw [← hTd] at hT hsW hgl ⊢
            have hTw : w.heap.size ≤ T := by rw [hTd]; exact hB4.size
            have d0 := cell_of_row _ _ 0 _ _ _ hdW
            have d3 := cell_of_row _ _ 3 _ _ _ hdW
            have t0 := cell_of_row _ _ 0 _ _ _ hT
            have t1 : W.frozen? ⟨T, 0, none⟩ = false := frozen_of_row W T 0 _ _ hT
            have HOW := Lib.hid hoW
            have HBW := Lib.hid hBW
            have HT := Lib.hid hT
            have HGL := Lib.hid (show (Value.slice ao' m c').ownBlock ≠ some T from fun e => by have := hgl T e; omega)
            have HTW := Lib.hid (show w.heap.size ≤ T ∧ T < W.heap.size from ⟨hTw, hsW⟩)
            have HCUT := Lib.hid (cut_at zs x HRS.out)
            have hAm : A ≤ m := by rw [← HM.out, HA.out]; exact List.countP_le_length
            have HLT := Lib.hid (show x ∈ zs → A < m from fun hx => by
              have := (cut_at zs x HRS.out).2.2 hx
              have h2 := congrArg List.length this
              simp at h2
              rw [← HM.out, HA.out]
              omega)
            clear hB2 hB4 ho4 ho4' hd4 hform hf' hc63 hTd hT hdW hsW hgl hoW hBW hTw c00 c01 c02 c03 c04 hb2 hb4 c3 c4
            obtain rfl | rfl | rfl | rfl | rfl : op = 1 ∨ op = 2 ∨ op = 3 ∨ op = 4 ∨ op = 5 := by omega
            · cases is with
              | true =>
                have hx := HIS.out.1 rfl
                have HD := Lib.hid (show deedS zs n 1 x = (zs, [0]) by unfold deedS; simp [hx])
                clear hx
                go_wp2
                go_ret3
                exact doGave_yes HOK.out HD.out (gave_keep HOW.out HBW.out HT.out HTW.out.1 HGL.out)
              | false =>
                have hx : x ∉ zs := fun h => by have := HIS.out.2 h; cases this
                by_cases hfull : (m : Int) = n
                · have HD := Lib.hid (show deedS zs n 1 x = (zs, [2]) by unfold deedS; simp [hx, HM.out, hfull])
                  have e1 : ((m : Int) == n) = true := by simpa using hfull
                  clear hx hfull
                  go_wp2
                  go_ret3
                  exact doGave_yes HOK.out HD.out (gave_set HOW.out HBW.out HT.out HTW.out.1 HGL.out)
                · have HD := Lib.hid (show deedS zs n 1 x = (insL zs A x, [1]) by
                    unfold deedS
                    rw [if_neg (by omega), if_neg (by omega), if_neg (by omega), if_neg (by omega), if_neg hx, if_neg (by rw [HM.out]; exact hfull), insL, HA.out, HCUT.out.1, HCUT.out.2.1 hx]
                    rfl)
                  have e1 : ((m : Int) == n) = false := by simpa using hfull
                  have HINS := Lib.hid (Insert64_K w.heap.size ao' m c' zs A x W.heap.size (W.alloc (.cells #[.int .i64 x] 2)) HM.out (HOW.out.below ((Below.refl _ _).alloc (Nat.le_refl _) _)) (heap_new _ _ _ rfl) (fun a ha => by
                    subst ha
                    have h := own_block HOW.out (g := a.block) rfl
                    obtain ⟨_, hc⟩ := h
                    have := lt_of_block hc
                    omega) (by have := HBW.out.size; simp; omega) hAm (by omega))
                  clear hx hfull
                  go_wp2_with (go_at_call 32; go_must (refine HINS.out.mono ?_; rintro e w6 ⟨v6, rfl, ho6, hg6, hn6⟩; have hT6 : w6.heap[T]? = some (.cells #[.int .i64 0] 2) := (hg6.block T (by have := HTW.out.2; simp; omega) (fun e => HGL.out e.symm)).trans ((Below.heap_alloc _ _ _ HTW.out.2).trans HT.out); have t2 := cell_of_row _ _ 0 _ _ _ hT6; have t3 : w6.frozen? ⟨T, 0, none⟩ = false := frozen_of_row w6 T 0 _ _ hT6))
                  go_ret3
                  refine doGave_yes HOK.out HD.out (gave_set ho6 ((HBW.out.alloc HBW.out.size _).grown hg6 (by have := HBW.out.size; simp; omega) (fun k hk => own_ge HOW.out hk)) hT6 HTW.out.1 (fun e => ?_))
                  rcases hn6 T e with h | h
                  · exact HGL.out h
                  · have := HTW.out.2
                    simp at h
                    omega
            · cases is with
              | true =>
                have hx := HIS.out.1 rfl
                have hAl := HLT.out hx
                rcases HOW.out.form with ⟨_, e1⟩ | ⟨g, cap, e1, hbal⟩
                · rw [e1] at hx
                  cases hx
                · rw [HM.out] at e1
                  injection e1 with e2 em e3
                  subst e2; subst e3
                  clear em
                  have HD := Lib.hid (show deedS zs n 2 x = (zs.take A ++ zs.drop (A + 1), [1]) by
                    unfold deedS
                    rw [if_neg (by omega), if_neg (by omega), if_neg (by omega), if_pos rfl, if_pos hx]
                    have h2 := HCUT.out.2.2 hx
                    have h3 : zs.drop (A + 1) = moreL zs x := by
                      rw [HA.out, ← List.drop_drop, h2]
                      rfl
                    rw [h3, HA.out, HCUT.out.1]
                    rfl)
                  have hdel := Delete64_K w.heap.size g c' zs A W hbal (by rw [HM.out]; exact hAl)
                  rw [HM.out, show ((A + 1 : Nat) : Int) = (A : Int) + 1 by omega] at hdel
                  have HDEL := Lib.hid hdel
                  have HL := Lib.hid (show (zs.take A ++ zs.drop (A + 1)).length = m - 1 by simp [HM.out]; omega)
                  clear hx hdel hbal
                  go_wp2_with (go_at_call 33; go_must (refine HDEL.out.mono ?_; rintro e w6 ⟨rfl, ho6, hg6⟩; have hT6 : w6.heap[T]? = some (.cells #[.int .i64 0] 2) := (hg6.block T HTW.out.2 (fun e => HGL.out e.symm)).trans HT.out; have t2 := cell_of_row _ _ 0 _ _ _ hT6; have t3 : w6.frozen? ⟨T, 0, none⟩ = false := frozen_of_row w6 T 0 _ _ hT6))
                  go_ret3
                  have h6 := ho6.own
                  rw [HL.out] at h6
                  exact doGave_yes HOK.out HD.out (gave_set h6 (HBW.out.grown hg6 HBW.out.size (fun k hk => own_ge HOW.out hk)) hT6 HTW.out.1 HGL.out)
              | false =>
                have hx : x ∉ zs := fun h => by have := HIS.out.2 h; cases this
                have HD := Lib.hid (show deedS zs n 2 x = (zs, [0]) by unfold deedS; simp [hx])
                clear hx
                go_wp2
                go_ret3
                exact doGave_yes HOK.out HD.out (gave_keep HOW.out HBW.out HT.out HTW.out.1 HGL.out)
            · cases is with
              | true =>
                have hx := HIS.out.1 rfl
                have HD := Lib.hid (show deedS zs n 3 x = (zs, [1]) by unfold deedS; simp [hx])
                clear hx
                go_wp2
                go_ret3
                exact doGave_yes HOK.out HD.out (gave_set HOW.out HBW.out HT.out HTW.out.1 HGL.out)
              | false =>
                have hx : x ∉ zs := fun h => by have := HIS.out.2 h; cases this
                have HD := Lib.hid (show deedS zs n 3 x = (zs, [0]) by unfold deedS; simp [hx])
                clear hx
                go_wp2
                go_ret3
                exact doGave_yes HOK.out HD.out (gave_keep HOW.out HBW.out HT.out HTW.out.1 HGL.out)
            · rcases Nat.eq_zero_or_pos m with hm0 | hm0
              · subst hm0
                have HD := Lib.hid (show deedS zs n 4 x = (zs, [0]) by unfold deedS; rw [if_neg (by omega), if_pos rfl, if_pos (List.eq_nil_of_length_eq_zero HM.out)])
                go_wp2
                go_ret3
                exact doGave_yes HOK.out HD.out (gave_keep HOW.out HBW.out HT.out HTW.out.1 HGL.out)
              · obtain ⟨M, rfl⟩ : ∃ M, m = M + 1 := ⟨m - 1, by omega⟩
                rcases HOW.out.form with ⟨_, e1⟩ | ⟨g, cap, e1, hbal⟩
                · have := HM.out
                  rw [e1] at this
                  cases this
                · injection e1 with e2 em e3
                  subst e2; subst e3
                  clear em
                  obtain ⟨z, hz⟩ : ∃ z, zs[0]? = some z := ⟨_, List.getElem?_eq_getElem (by rw [HM.out]; omega)⟩
                  have HD := Lib.hid (show deedS zs n 4 x = (zs, [1, z]) by
                    unfold deedS
                    rw [if_neg (by omega), if_pos rfl, if_neg (by intro e; rw [e] at hz; cases hz), List.getD_eq_getElem?_getD, hz]
                    rfl)
                  have hcz := hbal.cell 0 hz
                  clear hz hbal
                  go_wp2
                  go_ret3
                  exact doGave_yes HOK.out HD.out (gave_two2 HOW.out HBW.out 1 z)
            · have HD := Lib.hid (show deedS zs n 5 x = (zs, [(m : Int)]) by unfold deedS; rw [if_pos rfl, HM.out])
              go_wp2
              go_ret3
              exact doGave_yes HOK.out HD.out (gave_set HOW.out HBW.out HT.out HTW.out.1 HGL.out)
      · have hl2 : n < (m : Int) := by omega
        have HNO := Lib.hid (show doOk zs n op a b x y = false by simp [doOk, HM.out, hl])
        clear h0 hl hn
        generalize risesB zs = rs
        go_wp2_with (first
          | (go_at_call 20; go_must (refine (Room_any n _).mono ?_; rintro e w3 ⟨rfl, rfl⟩; rw [HR.out])))
        go_ret3
        exact doGave_no HNO.out (Gave.no rfl HB.out)
theorem Do_any (ao : Option Addr) (m c : Nat) (zs : List Int) (n op a b x y : Int) (w : World) (hm : zs.length = m) (hbig : m ≤ 1000000000000000) (hf : Flat ao m c) (hs : Sees w ao zs) :
    Calls Tryz.prog 17 #[.slice ao m c, .int .i64 n, .agg #[.int .i64 op, .int .i64 a, .int .i64 b, .int .i64 x, .int .i64 y]] w (Gave (doS zs n op a b x y).1 (doS zs n op a b x y).2.1 (if (doS zs n op a b x y).2.2 then 0 else 180) w) :=
  Do_anyG ao m c zs n op a b x y w hm hbig hf hs
end Go.Proofs.YtkioddgolmaaeaaGreatDoor
