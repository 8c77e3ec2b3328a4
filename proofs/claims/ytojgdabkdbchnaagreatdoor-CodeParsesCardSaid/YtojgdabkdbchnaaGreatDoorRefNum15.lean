/-
  quash/quashref15.opOf, Number: for every text. No condition but sizes.
-/
import Derived.Test.YtojgdabkdbchnaaGreatDoorRefSmall15
import Derived.Test.YtojgdabkdbchnaaGreatDoorRefText15
import Derived.Test.YtojgdabkdbchnaaGreatDoorNumS15
namespace Go.Proofs.YtojgdabkdbchnaaGreatDoor
open Go.RowKit
set_option maxRecDepth 100000

theorem refOpOf_any (s : ByteArray) (w : World) :
    Calls Tryz.prog 52 #[.string s] w fun e w' => e = .returned (.int .i64 (opOfL s.data.toList)) ∧ Below w.heap.size w w' := by
  rw [← opOf_list]
  go_enter Tryz.func52, Tryz.ntmps52
  go_wp2
  go_loopw [3] (fun v wr => ∃ k : Nat, k ≤ 22 ∧ v = .int .i64 ((k : Int) + 1) ∧ opOfN s (22 - k) ((k : Int) + 1) = opOfB s ∧ Below w.heap.size w wr) (fun v _ => 23 - (intOf v).toNat)
  case atStart => exact ⟨0, by omega, rfl, rfl, Below.refl _ _⟩
  case round =>
    obtain ⟨k, hk, rfl, hsp, hbr⟩ := hrel
    have HS := Lib.hid hsp
    clear hsp
    by_cases hlt : k < 22
    · go_wp2_with (go_at_call 30; refine (refWord_any _ _).mono ?_; rintro e w1 ⟨rfl, hb⟩)
      · go_ret
        have h : ((word (↑k + 1)).toList == s.toList) = true := by assumption
        refine ⟨?_, hbr.trans (hb.mono hbr.size)⟩
        rw [← HS.out]
        obtain ⟨m, hm⟩ : ∃ m, 22 - k = m + 1 := ⟨21 - k, by omega⟩
        rw [hm]
        simp only [opOfN, h, if_true]
        rfl
      · have h : ((word (↑k + 1)).toList == s.toList) = false := by assumption
        go_roundw
        case rel =>
          refine ⟨k + 1, by omega, by go_num, ?_, hbr.trans (hb.mono hbr.size)⟩
          rw [← HS.out]
          obtain ⟨m, hm⟩ : ∃ m, 22 - k = m + 1 := ⟨21 - k, by omega⟩
          rw [hm, show 22 - (k + 1) = m by omega]
          simp only [opOfN, h]
          simp
        case measure => simp [intOf]; omega
    · go_wp2
      go_ret
      obtain rfl : k = 22 := by omega
      exact ⟨by rw [← HS.out]; rfl, hbr⟩

/-- what the document's Number answers -/
def NumDoes (l : List UInt8) (w : World) (e : Ending) (w' : World) : Prop :=
  ∃ v : Int, e = .returned (.tuple #[.int .i64 v, .bool (numberB l).2]) ∧ ((numberB l).2 = true → v = (numberB l).1) ∧ w = w'
theorem NumDoes.no {l : List UInt8} {w : World} (h : (numberB l).2 = false) : NumDoes l w (.returned (.tuple #[.int .i64 0, .bool false])) w :=
  ⟨0, by rw [h], (fun e => by rw [h] at e; cases e), rfl⟩
theorem wrap_neg64 (u : Nat) (h : u ≤ 9223372036854775808) : wrap64 (IntKind.u64.wrap (-(u : Int))) = -(u : Int) := by
  simp only [wrap64, IntKind.wrap, IntKind.bits, IntKind.signed]
  simp
  omega
theorem digB_of {c : UInt8} (h1 : 48 ≤ c.toNat) (h2 : c.toNat ≤ 57) : digB c = true := digB_iff.2 ⟨h1, h2⟩
theorem take_snoc' (l : List UInt8) (k : Nat) (c : UInt8) (h : l[k]? = some c) : l.take (k + 1) = l.take k ++ [c] := by
  rw [List.take_add_one, h]; rfl
theorem not_canon_len {d : List UInt8} (h : d.length < 1 ∨ 19 < d.length) : ¬ canonD d := fun c => by have := c.1; have := c.2.1; omega
theorem valD_bound {l : List UInt8} (hd : ∀ c ∈ l, digB c = true) (hl : l.length ≤ 18) : valD l < 1000000000000000000 :=
  Nat.lt_of_lt_of_le (valD_lt l.length l rfl hd) (Nat.le_trans (Nat.pow_le_pow_right (by decide) hl) (by decide))
set_option maxHeartbeats 4000000 in
theorem refNumber_pos (s : ByteArray) (w : World) (hs : s.size ≤ maxLen) (h45 : s.data.toList.head? ≠ some 45) :
    Calls Tryz.prog 53 #[.string s] w (NumDoes s.data.toList w) := by
  unfold maxLen at hs
  have hz := Lib.size_eq s
  obtain ⟨hno, hyes⟩ := num_pos h45
  by_cases h1 : s.size < 1
  · have hN := Lib.hid (NumDoes.no (w := w) (hno (not_canon_len (by omega))))
    obtain h0 : s.size = 0 := by omega
    have h0' : ¬ (0 : Int) < (s.size : Int) := by omega
    clear hno hyes hz h0
    go_enter Tryz.func53, Tryz.ntmps53
    go_wp2
    go_ret2
    exact hN.out
  have h0 : 0 < s.size := by omega
  have hb0 : ((s[0].toNat : Int) == 45) = false := by
    rw [beq_eq_false_iff_ne]; intro e
    refine h45 ?_
    rw [List.head?_eq_getElem?, Lib.data_getElem? s 0 h0]
    congr 1
    exact UInt8.toNat_inj.1 (by show (s[0]).toNat = 45; omega)
  clear h45
  by_cases h19 : 19 < s.size
  · have hN := Lib.hid (NumDoes.no (w := w) (hno (not_canon_len (by omega))))
    clear hno hyes hz
    go_enter Tryz.func53, Tryz.ntmps53
    go_wp2
    go_ret2
    exact hN.out
  by_cases hlead : 1 < s.size ∧ s[0] = 48
  · have hN := Lib.hid (NumDoes.no (w := w) (hno (fun c => c.2.2.1 (by omega) (by rw [List.head?_eq_getElem?, Lib.data_getElem? s 0 h0, hlead.2]))))
    have hb1 : ((s[0].toNat : Int) == 48) = true := by rw [hlead.2]; rfl
    obtain ⟨hl, _⟩ := hlead
    clear hno hyes hz
    go_enter Tryz.func53, Tryz.ntmps53
    go_wp2
    go_ret2
    exact hN.out
  have HNO := Lib.hid hno
  have HYES := Lib.hid hyes
  have HZ := Lib.hid hz
  have h19' : s.size ≤ 19 := by omega
  have HLEAD := Lib.hid hlead
  clear hno hyes hz h19
  by_cases hone : 1 < s.size
  all_goals
    first
      | (have hb1 : ((s[0].toNat : Int) == 48) = false := by
           rw [beq_eq_false_iff_ne]; intro e
           exact hlead ⟨hone, UInt8.toNat_inj.1 (by show (s[0]).toNat = 48; omega)⟩)
      | skip
    clear hlead
    go_enter Tryz.func53, Tryz.ntmps53
    go_wp2
    go_loop [6, 7] (fun u v => ∃ k : Nat, k ≤ s.size ∧ v = .int .i64 k ∧ u = .int .u64 (valD (s.data.toList.take k) : Nat) ∧ ∀ c ∈ s.data.toList.take k, digB c = true) (fun _ v => s.size - (intOf v).toNat)
    case atStart => exact ⟨0, Nat.zero_le _, rfl, by simp [valD_nil], fun c hc => by simp at hc⟩
    case round =>
      obtain ⟨k, hk, rfl, rfl, hdig⟩ := hrel
      by_cases hlt : k < s.size
      · have hx := Lib.data_getElem? s k hlt
        obtain ⟨c, hc⟩ : ∃ c, c = s[k] := ⟨_, rfl⟩
        rw [← hc] at hx
        have hval := valD_bound hdig (by simp; omega)
        have hsn := take_snoc' _ k c hx
        have hvs := valD_snoc (s.data.toList.take k) c
        rw [← hsn] at hvs
        have HVS := Lib.hid hvs
        have HDIG := Lib.hid hdig
        have HSN := Lib.hid hsn
        have HX := Lib.hid hx
        have hc' : s[k] = c := hc.symm
        clear hvs hdig hsn hx hc
        generalize valD (s.data.toList.take k) = U at hval HVS ⊢
        have hcl : c.toNat < 256 := c.toNat_lt
        by_cases hd1 : c.toNat < 48
        · have e1 : (s[k].toNat : Int) < 48 := by rw [hc']; omega
          have hN := Lib.hid (NumDoes.no (w := w) (HNO.out (fun cc => by
            have := digB_iff.1 (cc.2.2.2 c (List.mem_of_getElem? HX.out)); omega)))
          clear hc' hcl hd1 hval
          go_wp2
          go_ret2
          exact hN.out
        by_cases hd2 : 57 < c.toNat
        · have e1 : ¬ (s[k].toNat : Int) < 48 := by rw [hc']; omega
          have e2 : (57 : Int) < (s[k].toNat : Int) := by rw [hc']; omega
          have hN := Lib.hid (NumDoes.no (w := w) (HNO.out (fun cc => by
            have := digB_iff.1 (cc.2.2.2 c (List.mem_of_getElem? HX.out)); omega)))
          clear hc' hcl hd1 hd2 hval
          go_wp2
          go_ret2
          exact hN.out
        · have e1 : ¬ (s[k].toNat : Int) < 48 := by rw [hc']; omega
          have e2 : ¬ (57 : Int) < (s[k].toNat : Int) := by rw [hc']; omega
          have w1 : IntKind.u8.wrap ((s[k].toNat : Int) - 48) = ((c.toNat - 48 : Nat) : Int) := by rw [hc']; simp only [IntKind.wrap, IntKind.bits, IntKind.signed]; simp; omega
          have w2 : IntKind.u64.wrap ((c.toNat - 48 : Nat) : Int) = ((c.toNat - 48 : Nat) : Int) := by simp only [IntKind.wrap, IntKind.bits, IntKind.signed]; simp; omega
          have w3 : IntKind.u64.wrap (10 * (U : Int)) = ((10 * U : Nat) : Int) := by simp only [IntKind.wrap, IntKind.bits, IntKind.signed]; simp; omega
          have w4 : IntKind.u64.wrap (((10 * U : Nat) : Int) + ((c.toNat - 48 : Nat) : Int)) = ((10 * U + (c.toNat - 48) : Nat) : Int) := by simp only [IntKind.wrap, IntKind.bits, IntKind.signed]; simp; omega
          go_wp2
          go_round
          case rel =>
            refine ⟨k + 1, by omega, by go_num, ?_, ?_⟩
            · rw [HVS.out]
              congr 1; omega
            · rw [HSN.out]
              intro x hx
              rcases List.mem_append.1 hx with hx | hx
              · exact HDIG.out x hx
              · obtain rfl : x = c := by simpa using hx
                exact digB_of (by omega) (by omega)
          case measure => simp [intOf]; omega
      · obtain rfl : k = s.size := by omega
        have htk : s.data.toList.take s.size = s.data.toList := List.take_of_length_le (by have := HZ.out; omega)
        rw [htk] at hdig ⊢
        have hcan : canonD s.data.toList := by
          have hzz := HZ.out
          refine ⟨by omega, by omega, fun h1 h2 => HLEAD.out ⟨by omega, ?_⟩, hdig⟩
          rw [List.head?_eq_getElem?, Lib.data_getElem? s 0 h0] at h2
          injection h2
        obtain ⟨y1, y2⟩ := HYES.out hcan
        generalize valD s.data.toList = U at y1 y2 ⊢
        have HY1 := Lib.hid y1
        have HY2 := Lib.hid y2
        clear htk hdig hcan y1 y2
        go_wp2
        go_ret2
        have hde : decide ((U : Int) < 9223372036854775808) = decide (U < 9223372036854775808) := by rw [decide_eq_decide]; omega
        refine ⟨wrap64 (U : Int), show Ending.returned (.tuple #[.int .i64 (wrap64 (U : Int)), .bool (decide ((U : Int) < 9223372036854775808))]) = _ from by rw [HY1.out, hde], fun h => ?_, rfl⟩
        rw [HY2.out h]
        rw [HY1.out] at h
        have hlt2 : U < 9223372036854775808 := of_decide_eq_true h
        unfold wrap64
        omega
set_option maxHeartbeats 4000000 in
theorem refNumber_neg (s : ByteArray) (w : World) (hs : s.size ≤ maxLen) (d : List UInt8) (hd : s.data.toList = 45 :: d) :
    Calls Tryz.prog 53 #[.string s] w (NumDoes s.data.toList w) := by
  unfold maxLen at hs
  have h0 : 0 < s.size := by rw [Lib.size_eq, hd]; simp
  have hb0 : ((s[0].toNat : Int) == 45) = true := by
    have := Lib.data_getElem? s 0 h0
    rw [hd] at this
    simp at this
    rw [← this]; rfl
  obtain ⟨s1, hs1⟩ : ∃ s1, s1 = s.extract 1 s.size := ⟨_, rfl⟩
  have hd1 : s1.data.toList = d := by rw [hs1, Lib.extract_to_end, hd]; rfl
  have hz : s1.size = d.length := by rw [Lib.size_eq, hd1]
  have hsl : (1 : Int) ≤ (s.size : Int) := by omega
  obtain ⟨hno, hyes⟩ := num_neg d
  rw [hd]
  have hs1b : s1.size ≤ 2 ^ 63 - 1 := by
    rw [hz]; have := Lib.size_eq s; rw [hd] at this; simp at this; omega
  have HS1 := Lib.hid hs1
  have HD := Lib.hid hd1
  clear hs1 hd hd1
  by_cases h1 : s1.size < 1
  · have hN := Lib.hid (NumDoes.no (w := w) (hno (fun c => not_canon_len (by omega) c.1)))
    clear hno hyes hz
    go_enter Tryz.func53, Tryz.ntmps53
    go_upto_region 5 with (fail)
    rw [← HS1.out]
    go_wp2
    go_ret2
    exact hN.out
  have h10 : 0 < s1.size := by omega
  by_cases h19 : 19 < s1.size
  · have hN := Lib.hid (NumDoes.no (w := w) (hno (fun c => not_canon_len (by omega) c.1)))
    clear hno hyes hz
    go_enter Tryz.func53, Tryz.ntmps53
    go_upto_region 5 with (fail)
    rw [← HS1.out]
    go_wp2
    go_ret2
    exact hN.out
  by_cases hlead : 1 < s1.size ∧ s1[0] = 48
  · have hN := Lib.hid (NumDoes.no (w := w) (hno (fun c => c.1.2.2.1 (by omega) (by rw [List.head?_eq_getElem?, ← HD.out, Lib.data_getElem? s1 0 h10, hlead.2]))))
    have hb1 : ((s1[0].toNat : Int) == 48) = true := by rw [hlead.2]; rfl
    obtain ⟨hl, _⟩ := hlead
    clear hno hyes hz
    go_enter Tryz.func53, Tryz.ntmps53
    go_upto_region 5 with (fail)
    rw [← HS1.out]
    go_wp2
    go_ret2
    exact hN.out
  by_cases hzero : d = [48]
  · have hN := Lib.hid (NumDoes.no (w := w) (hno (fun c => c.2 hzero)))
    have hone' : s1.size = 1 := by rw [hz, hzero]; rfl
    have hq : (s1.toList == [48]) = true := by rw [ByteArray.toList_eq, HD.out, hzero]; rfl
    clear hno hyes hz hzero
    go_enter Tryz.func53, Tryz.ntmps53
    go_upto_region 5 with (fail)
    rw [← HS1.out]
    go_wp2
    go_ret2
    exact hN.out
  have hq : (s1.toList == [48]) = false := by rw [ByteArray.toList_eq, HD.out]; simpa using hzero
  have HZERO := Lib.hid hzero
  clear hzero
  have HNO := Lib.hid hno
  have HYES := Lib.hid hyes
  have HZ := Lib.hid hz
  have h19' : s1.size ≤ 19 := by omega
  have HLEAD := Lib.hid hlead
  clear hno hyes hz h19
  by_cases hone : 1 < s1.size
  all_goals
    first
      | (have hb1 : ((s1[0].toNat : Int) == 48) = false := by
           rw [beq_eq_false_iff_ne]; intro e
           exact hlead ⟨hone, UInt8.toNat_inj.1 (by show (s1[0]).toNat = 48; omega)⟩)
      | skip
    clear hlead
    go_enter Tryz.func53, Tryz.ntmps53
    go_upto_region 5 with (fail)
    rw [← HS1.out]
    go_wp2
    go_loop [6, 7] (fun u v => ∃ k : Nat, k ≤ s1.size ∧ v = .int .i64 k ∧ u = .int .u64 (valD (d.take k) : Nat) ∧ ∀ c ∈ d.take k, digB c = true) (fun _ v => s1.size - (intOf v).toNat)
    case atStart => exact ⟨0, Nat.zero_le _, rfl, by simp [valD_nil], fun c hc => by simp at hc⟩
    case round =>
      obtain ⟨k, hk, rfl, rfl, hdig⟩ := hrel
      by_cases hlt : k < s1.size
      · have hx := Lib.data_getElem? s1 k hlt
        rw [HD.out] at hx
        obtain ⟨c, hc⟩ : ∃ c, c = s1[k] := ⟨_, rfl⟩
        rw [← hc] at hx
        have hval := valD_bound hdig (by simp; omega)
        have hsn := take_snoc' _ k c hx
        have hvs := valD_snoc (d.take k) c
        rw [← hsn] at hvs
        have HVS := Lib.hid hvs
        have HDIG := Lib.hid hdig
        have HSN := Lib.hid hsn
        have HX := Lib.hid hx
        have hc' : s1[k] = c := hc.symm
        clear hvs hdig hsn hx hc
        generalize valD (d.take k) = U at hval HVS ⊢
        have hcl : c.toNat < 256 := c.toNat_lt
        by_cases hd1 : c.toNat < 48
        · have e1 : (s1[k].toNat : Int) < 48 := by rw [hc']; omega
          have hN := Lib.hid (NumDoes.no (w := w) (HNO.out (fun cc => by
            have := digB_iff.1 (cc.1.2.2.2 c (List.mem_of_getElem? HX.out)); omega)))
          clear hc' hcl hd1 hval
          go_wp2
          go_ret2
          exact hN.out
        by_cases hd2 : 57 < c.toNat
        · have e1 : ¬ (s1[k].toNat : Int) < 48 := by rw [hc']; omega
          have e2 : (57 : Int) < (s1[k].toNat : Int) := by rw [hc']; omega
          have hN := Lib.hid (NumDoes.no (w := w) (HNO.out (fun cc => by
            have := digB_iff.1 (cc.1.2.2.2 c (List.mem_of_getElem? HX.out)); omega)))
          clear hc' hcl hd1 hd2 hval
          go_wp2
          go_ret2
          exact hN.out
        · have e1 : ¬ (s1[k].toNat : Int) < 48 := by rw [hc']; omega
          have e2 : ¬ (57 : Int) < (s1[k].toNat : Int) := by rw [hc']; omega
          have w1 : IntKind.u8.wrap ((s1[k].toNat : Int) - 48) = ((c.toNat - 48 : Nat) : Int) := by rw [hc']; simp only [IntKind.wrap, IntKind.bits, IntKind.signed]; simp; omega
          have w2 : IntKind.u64.wrap ((c.toNat - 48 : Nat) : Int) = ((c.toNat - 48 : Nat) : Int) := by simp only [IntKind.wrap, IntKind.bits, IntKind.signed]; simp; omega
          have w3 : IntKind.u64.wrap (10 * (U : Int)) = ((10 * U : Nat) : Int) := by simp only [IntKind.wrap, IntKind.bits, IntKind.signed]; simp; omega
          have w4 : IntKind.u64.wrap (((10 * U : Nat) : Int) + ((c.toNat - 48 : Nat) : Int)) = ((10 * U + (c.toNat - 48) : Nat) : Int) := by simp only [IntKind.wrap, IntKind.bits, IntKind.signed]; simp; omega
          go_wp2
          go_round
          case rel =>
            refine ⟨k + 1, by omega, by go_num, ?_, ?_⟩
            · rw [HVS.out]
              congr 1; omega
            · rw [HSN.out]
              intro x hx
              rcases List.mem_append.1 hx with hx | hx
              · exact HDIG.out x hx
              · obtain rfl : x = c := by simpa using hx
                exact digB_of (by omega) (by omega)
          case measure => simp [intOf]; omega
      · obtain rfl : k = s1.size := by omega
        have htk : d.take s1.size = d := List.take_of_length_le (by have := HZ.out; omega)
        rw [htk] at hdig ⊢
        have hcan : canonD d := by
          have hzz := HZ.out
          refine ⟨by omega, by omega, fun h1 h2 => HLEAD.out ⟨by omega, ?_⟩, hdig⟩
          rw [List.head?_eq_getElem?, ← HD.out, Lib.data_getElem? s1 0 h10] at h2
          injection h2
        obtain ⟨y1, y2⟩ := HYES.out ⟨hcan, HZERO.out⟩
        generalize valD d = U at y1 y2 ⊢
        have HY1 := Lib.hid y1
        have HY2 := Lib.hid y2
        clear htk hdig hcan y1 y2
        go_wp2
        go_ret2
        have hde : decide ((U : Int) ≤ 9223372036854775808) = decide (U ≤ 9223372036854775808) := by rw [decide_eq_decide]; omega
        refine ⟨wrap64 (IntKind.u64.wrap (-(U : Int))), show Ending.returned (.tuple #[.int .i64 (wrap64 (IntKind.u64.wrap (-(U : Int)))), .bool (decide ((U : Int) ≤ 9223372036854775808))]) = _ from by rw [HY1.out, hde], fun h => ?_, rfl⟩
        rw [HY2.out h]
        rw [HY1.out] at h
        exact wrap_neg64 U (of_decide_eq_true h)
theorem refNumber_any (s : ByteArray) (w : World) (hs : s.size ≤ maxLen) :
    Calls Tryz.prog 53 #[.string s] w (NumDoes s.data.toList w) := by
  by_cases h : s.data.toList.head? = some 45
  · obtain ⟨d, hd⟩ : ∃ d, s.data.toList = 45 :: d := by
      cases hl : s.data.toList with
      | nil => rw [hl] at h; cases h
      | cons c d => rw [hl] at h; injection h with h; subst h; exact ⟨d, rfl⟩
    exact refNumber_neg s w hs d hd
  · exact refNumber_pos s w hs h
end Go.Proofs.YtojgdabkdbchnaaGreatDoor
