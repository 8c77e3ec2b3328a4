/-
  quash/quashref19.put: every call over a slice that reads as a list of entries. Condition: at most 1000 entries.
-/
import Derived.Test.YtochpdailleilaaGreatDoorDictDo
import Derived.RegionTactic
import Derived.Deep.RegionWith
import Derived.Deep.DeepCutAuto
import Derived.Deep.RegionHeld3
import Derived.BigQuiet
namespace Go.Proofs.YtochpdailleilaaGreatDoor
open Go.RowKit
set_option maxRecDepth 100000

theorem take_snocE {l : List (Int × Int)} {i : Nat} {x : Int × Int} (h : l[i]? = some x) : l.take (i + 1) = l.take i ++ [x] := by
  obtain ⟨hl, e⟩ := List.getElem?_eq_some_iff.1 h
  rw [List.take_succ_eq_append_getElem hl, e]
theorem lessE_snoc (l : List (Int × Int)) (y : Int × Int) (x : Int) : lessE (l ++ [y]) x = lessE l x ++ (if y.1 < x then [y] else []) := by
  unfold lessE
  rw [List.filter_append]
  congr 1
  by_cases h : y.1 < x <;> simp [h]
theorem moreE_snoc (l : List (Int × Int)) (y : Int × Int) (x : Int) : moreE (l ++ [y]) x = moreE l x ++ (if x < y.1 then [y] else []) := by
  unfold moreE
  rw [List.filter_append]
  congr 1
  by_cases h : x < y.1 <;> simp [h]
theorem len_lessE (l : List (Int × Int)) (x : Int) : (lessE l x).length ≤ l.length := List.length_filter_le _ _
theorem len_moreE (l : List (Int × Int)) (x : Int) : (moreE l x).length ≤ l.length := List.length_filter_le _ _
set_option maxHeartbeats 4000000 in
theorem put_any (ao : Option Addr) (m c : Nat) (l : List (Int × Int)) (k v : Int) (w : World) (hm : l.length = m) (hbig : m ≤ 1000) (hs : SeesP w ao l) :
    Calls Tryz.prog 30 #[.slice ao m c, .agg #[.int .i64 k, .int .i64 v]] w fun e w' => ∃ v', e = .returned v' ∧ OwnE w' w.heap.size v' (putE l (k, v)) ∧ Below w.heap.size w w' := by
  have HM := Lib.hid hm
  have HS := Lib.hid hs
  clear hm hs
  go_enter Tryz.func30, Tryz.ntmps30
  go_wp2_with fail
  refine wp_gen (fun W => Below w.heap.size w W ∧ W.heap[w.heap.size]? = some (.cells #[.int .i64 k, .int .i64 v] 36)) ⟨(Below.refl _ _).alloc (Nat.le_refl _) _, heap_new _ _ _ rfl⟩ ?_
  rintro w0 ⟨hb0, hbox⟩
  have HB0 := Lib.hid hb0
  have HBOX := Lib.hid hbox
  clear hb0 hbox
  go_loopw [5, 6] (fun vo vi wr => ∃ i : Nat, i ≤ m ∧ vi = .int .i64 i ∧ OwnE wr w0.heap.size vo (lessE (l.take i) k) ∧ Below w0.heap.size w0 wr) (fun _ vi _ => m - (intOf vi).toNat)
  case atStart => exact ⟨0, Nat.zero_le _, rfl, OwnE.nil _ _, Below.refl _ _⟩
  case round =>
    obtain ⟨i, him, rfl, hO, hB⟩ := hrel
    have hll := len_lessE (l.take i) k
    rw [List.length_take] at hll
    have hbx := (hB.block _ (lt_of_block HBOX.out)).trans HBOX.out
    have q0 := cell_of_row _ _ 0 _ _ _ hbx
    have q1 := cell_of_row _ _ 1 _ _ _ hbx
    have HO := Lib.hid hO
    have HB := Lib.hid hB
    have HBX := Lib.hid hbx
    clear hbx
    by_cases hlt : i < m
    · obtain ⟨b0, o0, e0, hcs⟩ := HS.out.below (HB0.out.trans (hB.mono HB0.out.size))
      obtain rfl := e0 (by intro e; have := HM.out; rw [e] at this; simp at this; omega)
      obtain ⟨⟨a, b⟩, hz⟩ : ∃ z, l[i]? = some z := ⟨_, List.getElem?_eq_getElem (by rw [HM.out]; omega)⟩
      have q2 := (hcs i _ hz).1
      have q3 := (hcs i _ hz).2
      simp only at q2 q3
      have hsn := lessE_snoc (l.take i) (a, b) k
      rw [← take_snocE hz] at hsn
      have HSN := Lib.hid hsn
      clear hcs e0 hz hsn hO hB
      by_cases hk : a < k
      · have hd : decide (a < k) = true := by simpa using hk
        have HK := Lib.hid hk
        clear hk
        go_upto_region 5 with (fail)
        go_quiet (fail)
        go_upto_region 6 with (fail)
        refine wp_gen (fun W => OwnE W w0.heap.size _ (lessE (l.take i) k) ∧ Below w0.heap.size w0 W ∧ W.cell? ⟨b0, o0 + i * 2, none⟩ = some (.int .i64 a) ∧ W.cell? ⟨b0, o0 + i * 2 + 1, none⟩ = some (.int .i64 b)) ⟨HO.out.drewN _, Below.drewK HB.out _, q2, q3⟩ ?_
        rintro W ⟨hO, hB, q4, q5⟩
        have HO1 := Lib.hid hO
        have HB1 := Lib.hid hB
        clear hO hB q0 q1 q2 q3
        go_wp2_with (at_builtin; refine wpList_appendE (HO1.out.below ((Below.refl _ _).alloc (Nat.le_refl _) _)) (by have := HB1.out.size; simp <;> omega) (some ⟨W.heap.size, 0, none⟩) 1 1 [(a, b)] rfl (seesP_one (heap_new _ _ _ rfl)) (fun h => by cases h) (by simp <;> omega) rfl _ _ rfl rfl rfl ?_; intro v8 w8 hown8 hgrow8)
        go_roundw
        case rel => exact ⟨i + 1, by omega, by go_num, by rw [HSN.out, if_pos HK.out]; exact hown8, (HB1.out.alloc HB1.out.size _).grown hgrow8 (by have := HB1.out.size; simp <;> omega) (fun k hk => own_ge HO1.out hk)⟩
        case measure => simp [intOf]; omega
      · have hd : decide (a < k) = false := by simp; omega
        have HK := Lib.hid hk
        clear hk
        go_upto_region 5 with (fail)
        go_quiet (fail)
        go_wp2
        go_roundw
        case rel => exact ⟨i + 1, by omega, by go_num, by rw [HSN.out, if_neg HK.out, List.append_nil]; exact HO.out.drewN _, Below.drewK HB.out _⟩
        case measure => simp [intOf]; omega
    · obtain rfl : i = m := by omega
      have eT : l.take i = l := List.take_of_length_le (by rw [HM.out]; exact Nat.le_refl _)
      rw [eT] at hO
      have HO1 := Lib.hid hO
      have hll2 := len_lessE l k
      rw [HM.out] at hll2
      have hsz := hB.size
      clear eT hO hB him hlt HO hll
      obtain ⟨wA, rfl⟩ : ∃ wA : World, wA = wr := ⟨_, rfl⟩
      go_wp2_with (at_builtin; refine wpList_appendE (HO1.out.below ((Below.refl _ _).alloc (Nat.le_refl _) _)) (by simp <;> omega) (some ⟨wA.heap.size, 0, none⟩) 1 1 [(k, v)] rfl (seesP_one (heap_new _ _ _ rfl)) (fun h => by cases h) (by simp <;> omega) rfl _ _ rfl rfl rfl ?_; intro v8 w8 hown8 hgrow8; have hB8 : Below w0.heap.size w0 w8 := (HB.out.alloc HB.out.size _).grown hgrow8 (by simp <;> omega) (fun k hk => own_ge HO1.out hk))
      have HO8 := Lib.hid hown8
      have HB8 := Lib.hid hB8
      clear hown8 hgrow8 hB8 HB HBX HO1 q0 q1
      go_loopw [5, 7] (fun vo vi wr => ∃ j : Nat, j ≤ i ∧ vi = .int .i64 j ∧ OwnE wr w0.heap.size vo (lessE l k ++ (k, v) :: moreE (l.take j) k) ∧ Below w0.heap.size w0 wr) (fun _ vi _ => i - (intOf vi).toNat)
      case atStart => exact ⟨0, Nat.zero_le _, rfl, HO8.out, HB8.out⟩
      case round =>
        obtain ⟨j, him, rfl, hO, hB⟩ := hrel
        have hml := len_moreE (l.take j) k
        rw [List.length_take] at hml
        have hbx := (hB.block _ (lt_of_block HBOX.out)).trans HBOX.out
        have q0 := cell_of_row _ _ 0 _ _ _ hbx
        have q1 := cell_of_row _ _ 1 _ _ _ hbx
        have HO := Lib.hid hO
        have HB := Lib.hid hB
        clear hbx
        by_cases hlt : j < i
        · obtain ⟨b0, o0, e0, hcs⟩ := HS.out.below (HB0.out.trans (hB.mono HB0.out.size))
          obtain rfl := e0 (by intro e; have := HM.out; rw [e] at this; simp at this; omega)
          obtain ⟨⟨a, b⟩, hz⟩ : ∃ z, l[j]? = some z := ⟨_, List.getElem?_eq_getElem (by rw [HM.out]; omega)⟩
          have q2 := (hcs j _ hz).1
          have q3 := (hcs j _ hz).2
          simp only at q2 q3
          have hsn := moreE_snoc (l.take j) (a, b) k
          rw [← take_snocE hz] at hsn
          have HSN := Lib.hid hsn
          clear hcs e0 hz hsn hO hB
          by_cases hk : k < a
          · have hd : decide (k < a) = true := by simpa using hk
            have HK := Lib.hid hk
            clear hk
            go_upto_region 11 with (fail)
            go_quiet (fail)
            go_upto_region 12 with (fail)
            refine wp_gen (fun W => OwnE W w0.heap.size _ (lessE l k ++ (k, v) :: moreE (l.take j) k) ∧ Below w0.heap.size w0 W ∧ W.cell? ⟨b0, o0 + j * 2, none⟩ = some (.int .i64 a) ∧ W.cell? ⟨b0, o0 + j * 2 + 1, none⟩ = some (.int .i64 b)) ⟨HO.out.drewN _, Below.drewK HB.out _, q2, q3⟩ ?_
            rintro W ⟨hO, hB, q4, q5⟩
            have HO1 := Lib.hid hO
            have HB1 := Lib.hid hB
            clear hO hB q0 q1 q2 q3
            go_wp2_with (at_builtin; refine wpList_appendE (HO1.out.below ((Below.refl _ _).alloc (Nat.le_refl _) _)) (by have := HB1.out.size; simp <;> omega) (some ⟨W.heap.size, 0, none⟩) 1 1 [(a, b)] rfl (seesP_one (heap_new _ _ _ rfl)) (fun h => by cases h) (by simp <;> omega) rfl _ _ rfl rfl rfl ?_; intro v8 w8 hown8 hgrow8)
            go_roundw
            case rel => exact ⟨j + 1, by omega, by go_num, by rw [HSN.out, if_pos HK.out]; simpa using hown8, (HB1.out.alloc HB1.out.size _).grown hgrow8 (by have := HB1.out.size; simp <;> omega) (fun k hk => own_ge HO1.out hk)⟩
            case measure => simp [intOf]; omega
          · have hd : decide (k < a) = false := by simp; omega
            have HK := Lib.hid hk
            clear hk
            go_upto_region 11 with (fail)
            go_quiet (fail)
            go_wp2
            go_roundw
            case rel => exact ⟨j + 1, by omega, by go_num, by rw [HSN.out, if_neg HK.out, List.append_nil]; exact HO.out.drewN _, Below.drewK HB.out _⟩
            case measure => simp [intOf]; omega
        · obtain rfl : j = i := by omega
          have eT : l.take j = l := List.take_of_length_le (by rw [HM.out]; exact Nat.le_refl _)
          rw [eT] at hO
          have HO1 := Lib.hid hO
          clear eT hO
          go_wp2
          go_ret
          exact ⟨_, rfl, HO1.out.lower HB0.out.size, HB0.out.trans (HB.out.mono HB0.out.size)⟩
end Go.Proofs.YtochpdailleilaaGreatDoor
