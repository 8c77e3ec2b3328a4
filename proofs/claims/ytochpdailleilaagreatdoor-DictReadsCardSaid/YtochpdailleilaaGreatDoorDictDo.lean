/-
  quash/dict.Do: every call over a slice that reads as a list of entries. Condition: at most 10^13 entries.
-/
import Derived.Test.YtochpdailleilaaGreatDoorDictSmall
import Derived.Test.YtochpdailleilaaGreatDoorInsE
import Derived.Test.YtochpdailleilaaGreatDoorSearchE
import Derived.StillTailTactics
import Derived.Deep.RegionHeld3
namespace Go.Proofs.YtochpdailleilaaGreatDoor
open Go.RowKit
set_option maxRecDepth 100000

def risesB (zs : List Int) : Bool := zs.Pairwise (· < ·)
theorem pairwise_snoc (l : List Int) (x : Int) : (l ++ [x]).Pairwise (· < ·) ↔ l.Pairwise (· < ·) ∧ (l = [] ∨ l.getD (l.length - 1) 0 < x) := by
  rw [List.pairwise_append]
  constructor
  · rintro ⟨h1, _, h3⟩
    refine ⟨h1, ?_⟩
    by_cases h : l = []
    · exact .inl h
    · refine .inr (h3 _ ?_ x (by simp))
      have hl := List.length_pos_iff.2 h
      rw [List.getD_eq_getElem?_getD, List.getElem?_eq_getElem (by omega)]
      exact List.getElem_mem _
  · rintro ⟨h1, h2⟩
    refine ⟨h1, by simp, fun a ha b hb => ?_⟩
    obtain rfl : b = x := by simpa using hb
    rcases h2 with rfl | h2
    · simp at ha
    · obtain ⟨j, hj, rfl⟩ := List.mem_iff_getElem.1 ha
      rw [List.getD_eq_getElem?_getD, List.getElem?_eq_getElem (by omega)] at h2
      rcases Nat.lt_or_ge j (l.length - 1) with h | h
      · have := List.pairwise_iff_getElem.1 h1 j (l.length - 1) hj (by omega) h
        simp at h2
        omega
      · obtain rfl : j = l.length - 1 := by omega
        simpa using h2

theorem pairwise_take (zs : List Int) (i : Nat) (hi : 1 ≤ i) (hl : i < zs.length) : risesB (zs.take (i + 1)) = (risesB (zs.take i) && decide (zs.getD (i - 1) 0 < zs.getD i 0)) := by
  unfold risesB
  have e1 : zs.take (i + 1) = zs.take i ++ [zs.getD i 0] := by
    rw [List.take_succ_eq_append_getElem hl, List.getD_eq_getElem?_getD, List.getElem?_eq_getElem hl]; rfl
  rw [e1, Bool.eq_iff_iff]
  simp only [Bool.and_eq_true, decide_eq_true_eq]
  rw [pairwise_snoc]
  have hlen : (zs.take i).length = i := by rw [List.length_take]; omega
  have hne : zs.take i ≠ [] := by intro e; rw [e] at hlen; simp at hlen; omega
  rw [hlen]
  have e2 : (zs.take i).getD (i - 1) 0 = zs.getD (i - 1) 0 := by
    simp only [List.getD_eq_getElem?_getD]
    rw [List.getElem?_take]
    rw [if_pos (by omega)]
  rw [e2]
  constructor
  · rintro ⟨h1, h2⟩
    exact ⟨h1, h2.resolve_left hne⟩
  · rintro ⟨h1, h2⟩
    exact ⟨h1, .inr h2⟩
theorem risesE_take (l : List (Int × Int)) (i : Nat) : risesE (l.take i) = risesB ((l.map (·.1)).take i) := by
  unfold risesE risesB
  rw [← List.map_take, decide_eq_decide, List.pairwise_map]
theorem Below.drewK {B : Nat} {w w' : World} (h : Below B w w') (n : Nat) : Below B w (w'.drewN n) := ⟨h.os, h.tape, h.output, h.size, h.block⟩
theorem OwnE.drewN {w : World} {B : Nat} {v : Value} {l : List (Int × Int)} (h : OwnE w B v l) (n : Nat) : OwnE (w.drewN n) B v l := h
/-- a key that is there -/
theorem val_some {l : List (Int × Int)} {x : Int} (h : x ∈ l.map (·.1)) : ∃ v, valE l x = some v ∧ (x, v) ∈ l := by
  unfold valE
  cases hf : l.find? (fun p => p.1 == x) with
  | none =>
    obtain ⟨p, hp, rfl⟩ := List.mem_map.1 h
    have := List.find?_eq_none.1 hf p hp
    simp at this
  | some p =>
    have h1 := List.find?_some hf
    have h2 := List.mem_of_find?_eq_some hf
    obtain ⟨a, b⟩ := p
    obtain rfl : a = x := by simpa using h1
    exact ⟨b, rfl, h2⟩
theorem val_none {l : List (Int × Int)} {x : Int} (h : x ∉ l.map (·.1)) : valE l x = none := by
  unfold valE
  rw [Option.map_eq_none_iff, List.find?_eq_none]
  intro p hp e
  exact h (List.mem_map.2 ⟨p, hp, by simpa using e⟩)
section
variable {l : List (Int × Int)} {x : Int} {A : Nat}
theorem at_key {v : Int} (hr : l.Pairwise (fun p q => p.1 < q.1)) (hA : A = (l.map (·.1)).countP (· < x)) (hv : (x, v) ∈ l) : l[A]? = some (x, v) ∧ l.take A = lessE l x ∧ l.drop (A + 1) = moreE l x := by
  obtain ⟨h1, _, h3⟩ := cutE_at l x hr
  rw [← hA] at h1 h3
  have h4 := h3 v hv
  refine ⟨?_, h1, ?_⟩
  · have := congrArg (·[0]?) h4
    simpa using this
  · rw [← List.drop_drop, h4]; rfl
theorem set_put {v : Int} (hr : l.Pairwise (fun p q => p.1 < q.1)) (hA : A = (l.map (·.1)).countP (· < x)) (hv : (x, v) ∈ l) (b : Int) : l.set A (x, b) = putE l (x, b) := by
  obtain ⟨h1, h2, h3⟩ := at_key hr hA hv
  have hl := (List.getElem?_eq_some_iff.1 h1).1
  rw [List.set_eq_take_append_cons_drop, if_pos hl, h2, h3]
  rfl
theorem ins_put (hr : l.Pairwise (fun p q => p.1 < q.1)) (hA : A = (l.map (·.1)).countP (· < x)) (hx : x ∉ l.map (·.1)) (b : Int) : insE l A (x, b) = putE l (x, b) := by
  obtain ⟨h1, h2, _⟩ := cutE_at l x hr
  rw [← hA] at h1 h2
  unfold insE putE
  rw [h1, h2 hx]
end
theorem GaveE.no {w w' : World} {e : Ending} {c : Int} (h1 : e = .returned (.tuple #[.slice none 0 0, .slice none 0 0, .int .i64 c])) (h2 : Below w.heap.size w w') : GaveE [] [] c w e w' :=
  ⟨_, _, h1, OwnE.nil _ _, Own.nil _ _, (fun g h => by cases h), h2⟩
theorem ownE_notnew {W : World} {B : Nat} {v : Value} {D : List (Int × Int)} (h : OwnE W B v D) {g : Nat} (hg : v.ownBlock = some g) : W.heap.size ≠ g := fun e => by
  obtain ⟨_, hc⟩ := own_block h hg
  have := lt_of_block hc
  omega
theorem gaveE_one {w W : World} {v : Value} {D : List (Int × Int)} {c : Int} (h : OwnE W w.heap.size v D) (hB : Below w.heap.size w W) (z : Int) :
    GaveE D [z] c w (.returned (.tuple #[v, .slice (some ⟨W.heap.size, 0, none⟩) 1 1, .int .i64 c])) (W.alloc (.cells #[.int .i64 z] 2)) :=
  ⟨_, _, rfl, h.below ((Below.refl _ _).alloc (Nat.le_refl _) _), Bal.own (zs := [z]) (Bal.of_block hB.size (heap_new _ _ _ rfl) rfl (by simp) (by decide) rfl), (fun g hg e => ownE_notnew h hg (by simpa [Value.ownBlock] using e)), hB.alloc hB.size _⟩
theorem gaveE_at {w W : World} {v : Value} {D : List (Int × Int)} {c : Int} {B : Nat} (h : OwnE W w.heap.size v D) (hB : Below w.heap.size w W) (hz : W.heap.size = B) (z : Int) :
    GaveE D [z] c w (.returned (.tuple #[v, .slice (some ⟨B, 0, none⟩) 1 1, .int .i64 c])) (W.alloc (.cells #[.int .i64 z] 2)) := by subst hz; exact gaveE_one h hB z
theorem gaveE_two {w W : World} {v : Value} {D : List (Int × Int)} {c : Int} (h : OwnE W w.heap.size v D) (hB : Below w.heap.size w W) (y z : Int) :
    GaveE D [y, z] c w (.returned (.tuple #[v, .slice (some ⟨W.heap.size, 0, none⟩) 2 2, .int .i64 c])) (W.alloc (.cells #[.int .i64 y, .int .i64 z] 2)).drew :=
  ⟨_, _, rfl, h.below (below_drewed1 ((Below.refl _ _).alloc (Nat.le_refl _) _)), Bal.own (zs := [y, z]) (Bal.of_block hB.size (heap_new _ _ _ rfl) rfl (by simp) (by decide) rfl), (fun g hg e => ownE_notnew h hg (by simpa [Value.ownBlock] using e)), below_drewed1 (hB.alloc hB.size _)⟩
/-- what Do answers -/
def DoGave (l : List (Int × Int)) (n op a b x y : Int) (w : World) (e : Ending) (w' : World) : Prop := GaveE (doE l n op a b x y).1 (doE l n op a b x y).2.1 (if (doE l n op a b x y).2.2 then 0 else 190) w e w'
theorem doGave_no {l : List (Int × Int)} {n op a b x y : Int} {w : World} (h : doOk l n op a b x y = false) {e : Ending} {w' : World} (hg : GaveE [] [] 190 w e w') : DoGave l n op a b x y w e w' := by
  unfold DoGave doE
  rw [if_neg (by rw [h]; decide)]
  exact hg
theorem doGave_yes {l : List (Int × Int)} {n op a b x y : Int} {w : World} (h : doOk l n op a b x y = true) {e : Ending} {w' : World} {D : List (Int × Int)} {T : List Int} (hd : deedE l n op x y = (D, T)) (hg : GaveE D T 0 w e w') : DoGave l n op a b x y w e w' := by
  unfold DoGave doE
  rw [if_pos h, hd]
  exact hg
theorem rises_one (zs : List Int) : risesB (zs.take 1) = true := by
  have : (zs.take 1).Pairwise (· < ·) := by
    cases zs with
    | nil => simp
    | cons z r => simp
  unfold risesB
  rw [decide_eq_true this]
set_option maxHeartbeats 4000000 in
theorem Do_anyG (ao : Option Addr) (m c : Nat) (l : List (Int × Int)) (n op a b x y : Int) (w : World) (hm : l.length = m) (hbig : m ≤ 10000000000000) (hf : Flat ao m c) (hs : SeesP w ao l) :
    Calls Tryz.prog 18 #[.slice ao m c, .int .i64 n, .agg #[.int .i64 op, .int .i64 a, .int .i64 b, .int .i64 x, .int .i64 y]] w (DoGave l n op a b x y w) := by
  obtain ⟨ks, hks⟩ : ∃ ks, ks = l.map (·.1) := ⟨_, rfl⟩
  have HKS := Lib.hid hks
  have HKL := Lib.hid (show ks.length = m by rw [hks, List.length_map, hm])
  have HM := Lib.hid hm
  have HF := Lib.hid hf
  have HS := Lib.hid hs
  clear hm hf hs hks
  go_enter Tryz.func18, Tryz.ntmps18
  go_wp2_with fail
  go_loopw [9, 10] (fun u v wr => ∃ i : Nat, 1 ≤ i ∧ (i = 1 ∨ i ≤ m) ∧ v = .int .i64 i ∧ u = .bool (risesB (ks.take i)) ∧ Below w.heap.size w wr ∧ wr.heap[w.heap.size]? = some (.cells #[.int .i64 op, .int .i64 a, .int .i64 b, .int .i64 x, .int .i64 y] 40)) (fun _ v _ => m - (intOf v).toNat)
  case atStart =>
    exact ⟨1, Nat.le_refl _, .inl rfl, rfl, by rw [rises_one], (Below.refl _ _).alloc (Nat.le_refl _) _, heap_new _ _ _ rfl⟩
  case round =>
    obtain ⟨i, hi1, him, rfl, rfl, hB, hd⟩ := hrel
    by_cases hlt : i < m
    · have HB := Lib.hid hB
      have HD := Lib.hid hd
      obtain ⟨b0, o0, e0, hcs⟩ := HS.out.below hB
      obtain rfl := e0 (by intro e; have := HM.out; rw [e] at this; simp at this; omega)
      obtain ⟨j, rfl⟩ : ∃ j, i = j + 1 := ⟨i - 1, by omega⟩
      obtain ⟨z1, hz1⟩ : ∃ z, l[j]? = some z := ⟨_, List.getElem?_eq_getElem (by rw [HM.out]; omega)⟩
      obtain ⟨z2, hz2⟩ : ∃ z, l[j + 1]? = some z := ⟨_, List.getElem?_eq_getElem (by rw [HM.out]; omega)⟩
      have q1 := (hcs j z1 hz1).1
      have q2 := (hcs (j + 1) z2 hz2).1
      have HST := Lib.hid (show risesB (ks.take (j + 1 + 1)) = (risesB (ks.take (j + 1)) && decide (z1.1 < z2.1)) by
        have h := pairwise_take ks (j + 1) (by omega) (by rw [HKL.out]; omega)
        rw [Nat.add_sub_cancel] at h
        rw [h, HKS.out]
        simp only [List.getD_eq_getElem?_getD, List.getElem?_map, hz1, hz2]
        rfl)
      generalize z1.1 = y1 at q1 HST
      generalize z2.1 = y2 at q2 HST
      clear hB hd hcs e0 hz1 hz2
      cases hp : risesB (ks.take (j + 1)) with
      | false =>
        have HP := Lib.hid hp
        clear hp
        go_upto_region 5 with (fail)
        go_quiet (fail)
        go_wp2
        go_roundw
        case rel => exact ⟨j + 1 + 1, by omega, .inr (by omega), by go_num, by rw [HST.out, HP.out]; rfl, Below.drewK HB.out _, HD.out⟩
        case measure => simp [intOf]; omega
      | true =>
        have HP := Lib.hid hp
        clear hp
        cases hy : decide (y1 < y2) with
        | false =>
          go_upto_region 5 with (fail)
          go_quiet (fail)
          go_wp2
          go_roundw
          case rel => exact ⟨j + 1 + 1, by omega, .inr (by omega), by go_num, by rw [HST.out, HP.out, hy]; rfl, Below.drewK HB.out _, HD.out⟩
          case measure => simp [intOf]; omega
        | true =>
          go_upto_region 5 with (fail)
          go_quiet (fail)
          go_wp2
          go_roundw
          case rel => exact ⟨j + 1 + 1, by omega, .inr (by omega), by go_num, by rw [HST.out, HP.out, hy]; rfl, Below.drewK HB.out _, HD.out⟩
          case measure => simp [intOf]; omega
    · have hri : risesB (ks.take i) = risesE l := by
        have := risesE_take l i
        rw [← HKS.out, List.take_of_length_le (by rw [HM.out]; omega)] at this
        exact this.symm
      rw [hri]
      clear hri
      have HB := Lib.hid hB
      have HD := Lib.hid hd
      have him2 : (m : Int) ≤ (i : Int) := by omega
      clear him hB hd
      by_cases h0 : roomI n = 0
      · have HR := Lib.hid h0
        have HNO := Lib.hid (show doOk l n op a b x y = false by simp [doOk, h0])
        clear h0
        generalize risesE l = rs
        go_wp2_with (first
          | (go_at_call 21; go_must (refine (Room_any n _).mono ?_; rintro e w3 ⟨rfl, rfl⟩; rw [HR.out])))
        go_ret3
        exact doGave_no HNO.out (GaveE.no rfl HB.out)
      have hn := roomI_yes h0
      have HR := Lib.hid hn.1
      have hn0 : (1 + 3 * n == 0) = false := by have := hn.2; simp; omega
      by_cases hl : (m : Int) ≤ n
      · have hl2 : ¬ n < (m : Int) := by omega
        cases hrs : risesE l with
        | false =>
          have HNO := Lib.hid (show doOk l n op a b x y = false by simp [doOk, hrs])
          clear h0 hl hn hrs
          go_wp2_with (first
            | (go_at_call 21; go_must (refine (Room_any n _).mono ?_; rintro e w3 ⟨rfl, rfl⟩; rw [HR.out])))
          go_ret3
          exact doGave_no HNO.out (GaveE.no rfl HB.out)
        | true =>
          have cd : ∀ W, Below wr.heap.size wr W → W.heap[w.heap.size]? = some (.cells #[.int .i64 op, .int .i64 a, .int .i64 b, .int .i64 x, .int .i64 y] 40) := fun W hW => (hW.block _ (lt_of_block HD.out)).trans HD.out
          have c00 := cell_of_row _ _ 0 _ _ _ HD.out
          have c01 := cell_of_row _ _ 1 _ _ _ HD.out
          have c02 := cell_of_row _ _ 2 _ _ _ HD.out
          have c03 := cell_of_row _ _ 3 _ _ _ HD.out
          have c04 := cell_of_row _ _ 4 _ _ _ HD.out
          have CD := Lib.hid cd
          clear cd
          cases hm : mayD op a b x y with
          | false =>
            have HO := Lib.hid hm
            have HNO := Lib.hid (show doOk l n op a b x y = false by simp [doOk, hm])
            clear h0 hl hn hrs hm
            go_wp2_with (first
              | (go_at_call 31; go_must (refine (mayD_any op a b x y _).mono ?_; rintro e w2 ⟨rfl, hb2⟩; rw [HO.out]))
              | (go_at_call 21; go_must (refine (Room_any n _).mono ?_; rintro e w3 ⟨rfl, rfl⟩; rw [HR.out])))
            go_ret3
            exact doGave_no HNO.out (GaveE.no rfl (HB.out.trans (hb2.mono HB.out.size)))
          | true =>
            have hok : doOk l n op a b x y = true := by
              simp only [doOk, Bool.and_eq_true, decide_eq_true_eq]
              exact ⟨⟨⟨h0, by rw [HM.out]; exact hl⟩, hm⟩, hrs⟩
            obtain ⟨_, h1, h60, _, _, ho1, ho5, _⟩ := deed_parts hok
            have HO := Lib.hid hm
            have HOK := Lib.hid hok
            have HRS := Lib.hid (show l.Pairwise (fun p q => p.1 < q.1) by simpa [risesE] using hrs)
            have hm60 : m ≤ 60 := by omega
            clear h0 hl hn hrs hm hok
            go_upto_region 10 with (first
              | (go_at_call 31; go_must (refine (mayD_any op a b x y _).mono ?_; rintro e w2 ⟨rfl, hb2⟩; rw [HO.out]; have c3 := cell_of_row _ _ 3 _ _ _ (CD.out _ hb2)))
              | (go_at_call 21; go_must (refine (Room_any n _).mono ?_; rintro e w3 ⟨rfl, rfl⟩; rw [HR.out]))
              | (go_at_call 32; go_must (refine (CloneE_any ao m c l _ HM.out (by rw [HM.out]; omega) HF.out.2 (by exact (HS.out.below (HB.out.trans (hb2.mono HB.out.size)))) HF.out.1).mono ?_; rintro e w4 ⟨v', rfl, ho4, hb4⟩; have c4 := cell_of_row _ _ 3 _ _ _ (CD.out _ (hb2.trans (hb4.mono hb2.size)))))
              | (go_at_call 33; go_must (refine (SearchE_at _ v' l x _ (by rw [HM.out]; omega) (by exact ho4) HRS.out).mono ?_; rintro e w5 ⟨⟨A, is, rfl, hA, his⟩, hb5⟩; have HA := Lib.hid hA; have HIS := Lib.hid his; clear hA his)))
            have hB2 : Below w.heap.size w w2 := HB.out.trans (hb2.mono HB.out.size)
            have hB4 : Below w.heap.size w w4 := hB2.trans (hb4.mono hB2.size)
            have hB5 : Below w.heap.size w w5 := hB4.trans (hb5.mono hB4.size)
            have ho5' : OwnE w5 w.heap.size v' l := (ho4.lower hB2.size).below hb5
            have hd5 : w5.heap[w.heap.size]? = some (.cells #[.int .i64 op, .int .i64 a, .int .i64 b, .int .i64 x, .int .i64 y] 40) := CD.out _ ((hb2.trans (hb4.mono hb2.size)).trans (hb5.mono (by have := hb2.size; have := hb4.size; omega)))
            obtain ⟨ao', c', rfl, hf1, hf2, hc63, -⟩ := ho5'.slice
            rw [HM.out] at hf2 ho5' ⊢
            have HOW := Lib.hid ho5'
            have HBW := Lib.hid hB5
            have HDW := Lib.hid hd5
            have d0 := cell_of_row _ _ 0 _ _ _ hd5
            have d3 := cell_of_row _ _ 3 _ _ _ hd5
            have d4 := cell_of_row _ _ 4 _ _ _ hd5
            have hAm : A ≤ m := by rw [← HKL.out, HKS.out, HA.out]; exact List.countP_le_length
            have hzw := hB5.size
            clear hB2 hB4 hB5 ho4 ho5' hd5 hc63 hf1 c00 c01 c02 c03 c04 hb2 hb4 hb5 c3 c4
            by_cases h5 : op = 5
            · subst h5
              have HDE := Lib.hid (show deedE l n 5 x y = (l, [(m : Int)]) by unfold deedE; rw [if_pos rfl, HM.out])
              go_wp2
              go_ret3
              exact doGave_yes HOK.out HDE.out (gaveE_one HOW.out HBW.out _)
            cases is with
            | false =>
              have hx : x ∉ l.map (·.1) := fun h => by have := HIS.out.2 h; cases this
              have HV := Lib.hid (val_none hx)
              have HIP := Lib.hid (ins_put HRS.out HA.out hx y)
              clear hx
              by_cases hp : op = 1
              · subst hp
                by_cases hfull : (m : Int) = n
                · have HDE := Lib.hid (show deedE l n 1 x y = (l, [2]) by unfold deedE; rw [if_neg (by omega), HV.out]; simp [HM.out, hfull])
                  have e1 : ((m : Int) == n) = true := by simpa using hfull
                  clear hfull
                  go_wp2
                  go_ret3
                  exact doGave_yes HOK.out HDE.out (gaveE_one HOW.out HBW.out _)
                · have HDE := Lib.hid (show deedE l n 1 x y = (insE l A (x, y), [1]) by unfold deedE; rw [if_neg (by omega), HV.out, HIP.out]; simp [HM.out, hfull])
                  have e1 : ((m : Int) == n) = false := by simpa using hfull
                  have HINS := Lib.hid (InsertE_K w.heap.size ao' m c' l A x y w5.heap.size (w5.alloc (.cells #[.int .i64 x, .int .i64 y] 36)) HM.out (HOW.out.below ((Below.refl _ _).alloc (Nat.le_refl _) _)) (heap_new _ _ _ rfl) (fun a ha => by
                    subst ha
                    exact ownE_notnew HOW.out rfl) (by have := HBW.out.size; simp; omega) hAm (by omega))
                  clear hfull
                  go_wp2_with (go_at_call 36; go_must (refine HINS.out.mono ?_; rintro e w6 ⟨v6, rfl, ho6, hg6, hn6⟩))
                  go_ret3
                  exact doGave_yes HOK.out HDE.out (gaveE_one ho6 ((HBW.out.alloc HBW.out.size _).grown hg6 (by have := HBW.out.size; simp; omega) (fun k hk => own_ge HOW.out hk)) _)
              · have HDE := Lib.hid (show deedE l n op x y = (l, [0]) by unfold deedE; rw [if_neg h5, HV.out]; simp [hp])
                have e5 : (op == 5) = false := by simpa using h5
                have e1 : (op == 1) = false := by simpa using hp
                clear h5 hp
                go_wp2
                go_ret3
                exact doGave_yes HOK.out HDE.out (gaveE_one HOW.out HBW.out _)
            | true =>
              obtain ⟨v, hv, hvm⟩ := val_some (HIS.out.1 rfl)
              obtain ⟨k1, k2, k3⟩ := at_key HRS.out HA.out hvm
              have hAl : A < m := by rw [← HM.out]; exact (List.getElem?_eq_some_iff.1 k1).1
              have HV := Lib.hid hv
              have HSP := Lib.hid (fun b => set_put HRS.out HA.out hvm b)
              have HK := Lib.hid k1
              have HDL := Lib.hid (show l.take A ++ l.drop (A + 1) = lessE l x ++ moreE l x by rw [k2, k3])
              rcases HOW.out.form with ⟨_, e1⟩ | ⟨g, cap, e1, hbal⟩
              · rw [e1] at hvm
                cases hvm
              rw [HM.out] at e1
              injection e1 with e2 em e3
              subst e2; subst e3
              clear em
              have q := hbal.cell A k1
              have qv := q.2
              have qf : w5.frozen? ⟨g, A * 2 + 1, none⟩ = false := hbal.frozenAt _
              have hgw := hbal.lt
              have hA0 : (0 : Int) ≤ (A : Int) := by omega
              have hA1 : (A : Int) < (m : Int) := by omega
              have HBAL := Lib.hid hbal
              simp only at qv
              clear hv hvm k1 k2 k3 hbal q
              obtain rfl | rfl | rfl | rfl : op = 1 ∨ op = 2 ∨ op = 3 ∨ op = 4 := by omega
              · have HDE := Lib.hid (show deedE l n 1 x y = (l.set A (x, y), [0]) by unfold deedE; rw [if_neg (by omega), HV.out, HSP.out]; simp)
                have hset := HBAL.out.set2 A y HK.out
                have hHW := HBW.out.setCell (p := ⟨g, A * 2 + 1, none⟩) hgw.2 (.int .i64 y)
                have HSET := Lib.hid hset
                have HHW := Lib.hid hHW
                have HLS := Lib.hid (show (l.set A (x, y)).length = m by rw [List.length_set, HM.out])
                clear hset hHW
                go_wp2
                go_ret3
                have h6 := HSET.out.own
                rw [HLS.out] at h6
                exact doGave_yes HOK.out HDE.out (gaveE_at h6 HHW.out (by simp) _)
              · have HDE := Lib.hid (show deedE l n 2 x y = (l, [1, v]) by unfold deedE; rw [if_neg (by omega), HV.out]; simp)
                go_upto_region 19 with (fail)
                go_region_held3 (fun w' => w'.cell? ⟨g, A * 2 + 1, none⟩ = some (.int .i64 v)) (go_keep) (fail)
                all_goals
                  go_wp2
                  go_ret3
                  exact doGave_yes HOK.out HDE.out (gaveE_two HOW.out HBW.out 1 v)
              · have HDE := Lib.hid (show deedE l n 3 x y = (l.take A ++ l.drop (A + 1), [1]) by unfold deedE; rw [if_neg (by omega), HV.out, HDL.out]; simp)
                have hdel := DeleteE_K w.heap.size g c' l A w5 HBAL.out (by rw [HM.out]; exact hAl)
                rw [HM.out] at hdel
                have HDEL := Lib.hid hdel
                have HL := Lib.hid (show (l.take A ++ l.drop (A + 1)).length = m - 1 by simp [HM.out]; omega)
                clear hdel
                go_wp2_with (go_at_call 37; go_must (refine HDEL.out.mono ?_; rintro e w6 ⟨rfl, ho6, hg6⟩))
                go_ret3
                have h6 := ho6.own
                rw [HL.out] at h6
                exact doGave_yes HOK.out HDE.out (gaveE_one h6 (HBW.out.grown hg6 HBW.out.size (fun k hk => own_ge HOW.out hk)) _)
              · have HDE := Lib.hid (show deedE l n 4 x y = (l.set A (x, wrap64 (v + y)), [1, wrap64 (v + y)]) by unfold deedE; rw [if_neg (by omega), HV.out, HSP.out]; simp)
                go_upto_region 23 with (fail)
                go_still_tail 10, (by kernel_rfl)
                go_upto_region 24 with (fail)
                refine wp_gen (fun W => OwnE W w.heap.size (.slice (some ⟨g, 0, none⟩) m c') (l.set A (x, wrap64 (v + y))) ∧ Below w.heap.size w W ∧ W.cell? ⟨g, A * 2 + 1, none⟩ = some (.int .i64 (wrap64 (v + y)))) ?_ ?_
                · have h6 := HBAL.out.set2 A (wrap64 (v + y)) HK.out
                  have h7 := h6.cell A (by rw [List.getElem?_set_self (by rw [HM.out]; exact hAl)])
                  have h8 := h6.own
                  rw [List.length_set, HM.out] at h8
                  exact ⟨h8, below_drewed1 (HBW.out.setCell (p := ⟨g, A * 2 + 1, none⟩) hgw.2 _), h7.2⟩
                rintro W ⟨hoW, hBW, q1⟩
                have HOW1 := Lib.hid hoW
                have HBW1 := Lib.hid hBW
                clear hoW hBW qv qf
                go_region_held3 (fun w' => w'.cell? ⟨g, A * 2 + 1, none⟩ = some (.int .i64 (wrap64 (v + y)))) (go_keep) (fail)
                all_goals
                  go_wp2
                  go_ret3
                  exact doGave_yes HOK.out HDE.out (gaveE_two HOW1.out HBW1.out 1 _)
      · have hl2 : n < (m : Int) := by omega
        have HNO := Lib.hid (show doOk l n op a b x y = false by simp [doOk, HM.out, hl])
        clear h0 hl hn
        generalize risesE l = rs
        go_wp2_with (first
          | (go_at_call 21; go_must (refine (Room_any n _).mono ?_; rintro e w3 ⟨rfl, rfl⟩; rw [HR.out])))
        go_ret3
        exact doGave_no HNO.out (GaveE.no rfl HB.out)
theorem Do_any (ao : Option Addr) (m c : Nat) (l : List (Int × Int)) (n op a b x y : Int) (w : World) (hm : l.length = m) (hbig : m ≤ 10000000000000) (hf : Flat ao m c) (hs : SeesP w ao l) :
    Calls Tryz.prog 18 #[.slice ao m c, .int .i64 n, .agg #[.int .i64 op, .int .i64 a, .int .i64 b, .int .i64 x, .int .i64 y]] w (GaveE (doE l n op a b x y).1 (doE l n op a b x y).2.1 (if (doE l n op a b x y).2.2 then 0 else 190) w) :=
  Do_anyG ao m c l n op a b x y w hm hbig hf hs
end Go.Proofs.YtochpdailleilaaGreatDoor
