/-
  strings.IndexAny at blank and tab: for every string of fewer than 2^32 - 15 bytes, of whatever bytes. No other condition.
  And: strings.IndexRune(" \t", c) for a rune that is no ASCII: -1. No condition.
-/
import Derived.Test.YtoiokbdipcecnaaGreatDoorEnv
import Derived.Test.YtoiokbdipcecnaaGreatDoorShelf
import Derived.Laws.Runes
import Derived.WalkMore
import Derived.Test.YtoiokbdipcecnaaGreatDoorCodeTrim
import Derived.Laws.RangeAny
import Derived.Lib.IndexAny
import Derived.Shelf.Strings.IndexAnyAll
import Derived.Shelf.Strings.SlTrimAscii
namespace Go.Proofs.YtoiokbdipcecnaaGreatDoor
open Go.RowKit
set_option maxRecDepth 100000

set_option maxHeartbeats 4000000 in
theorem IndexRune_no (s : ByteArray) (c : Int) (w : World) (h1 : 128 ≤ c) (h2 : c ≤ 2147483647) (hs : s.size = 2) (ha : ∀ (i : Nat) (h : i < s.size), (s[i]'h).toNat < 128) :
    Calls Tryz.prog 126 #[.string s, .int .i32 c] w fun e w' => e = .returned (.int .i64 (-1)) ∧ Below w.heap.size w w' := by
  have g0 : (0 : Int) ≤ c := by omega
  have g1 : ¬ c < 128 := by omega
  have HA := Lib.hid ha
  have HZ := Lib.hid hs
  by_cases hE : c = 65533
  · subst hE
    clear ha hs
    go_enter Tryz.func126, Tryz.ntmps126
    go_wp2_with (fail)
    go_loopg [5, 6] s.size (fun g _ _ wx => ∃ i : Nat, i + g = s.size ∧ wx = w.iter s i)
    case atStart => exact ⟨0, by omega, rfl⟩
    case round =>
      obtain ⟨i, hig, rfl⟩ := hrel
      cases gk with
      | zero =>
        obtain rfl : i = s.size := by omega
        have hnx := run_next_end (P := Tryz.prog) w s s.size
        go_wp2
        go_ret
        exact ⟨rfl, (Below.refl _ _).alloc (Nat.le_refl _) _⟩
      | succ g =>
        have hi : i < s.size := by omega
        have hx128 := HA.out i hi
        have hnx := fun ty => run_next_ascii (P := Tryz.prog) w s i ty hi hx128
        generalize (s[i]'hi) = x at hnx hx128
        have hne : ((x.toNat : Int) == 65533) = false := beq_eq_false_iff_ne.2 (by omega)
        go_wp2
        go_roundg g
        case measure => omega
        case rel => exact ⟨i + 1, by omega, rfl⟩
  · have e1 : (c == 65533) = false := by simpa using hE
    by_cases hv : Lib.validRune c = true
    · have hU : Utf8.valid c = true := by
        unfold Lib.validRune at hv
        unfold Utf8.valid
        simp at hv ⊢
        omega
      obtain ⟨q1, q2, q3⟩ := encode_facts c hU h1
      obtain ⟨R, hR⟩ : ∃ R, R = Utf8.encode c := ⟨_, rfl⟩
      rw [← hR] at q1 q2 q3
      have hR' : Utf8.encode c = R := hR.symm
      have k1 : IntKind.i64.wrap ((R.size : Int) - 1) = (R.size : Int) - 1 := IntWalk.i64_in _ (by omega)
      have Q3 := Lib.hid q3
      have HU := Lib.hid hU
      clear hR q3 hU ha
      go_enter Tryz.func126, Tryz.ntmps126
      go_wp2_with (go_at_call 147; go_must (refine (Tryz.utf8_ValidRune c _).mono ?_; rintro e w1 ⟨rfl, hw⟩; rw [hw, hv]))
      go_step3
      go_wp2
      go_loopw [9, 10] (fun u v wr => u = .int .i64 ((R.size : Int) - 1) ∧ v = .int .i64 0 ∧ wr = w) (fun _ _ _ => 0)
      case atStart => exact ⟨rfl, rfl, rfl⟩
      case round =>
        obtain ⟨rfl, rfl, rfl⟩ := hrel
        by_cases hq : R.size = 2
        · have z1 : (R.size : Int) - 1 = 1 := by omega
          rw [z1]
          have hb1 := HA.out 1 (by rw [HZ.out]; decide)
          have hr1 := Q3.out (by omega)
          have r0 : ¬ ((s[1]'(by rw [HZ.out]; decide)).toNat : Int) = ((R[R.size - 1]'(by omega)).toNat : Int) := by omega
          go_upto_region 6 with (fail)
          go_step3
          go_upto_region 6 with (fail)
          have i1 : (1 : Int) < (s.size : Int) := by rw [HZ.out]; decide
          have i2 : 1 < s.size := by rw [HZ.out]; decide
          have i3 : 1 < R.size := by omega
          have r1 : ¬ ((s[1]'i2).toNat : Int) = ((R[1]'i3).toNat : Int) := by
            have e : (R[R.size - 1]'(by omega)) = R[1]'i3 := by congr 1; omega
            rw [e] at hr1
            omega
          have r2 : ((s[1]'i2).toNat : Int) ≠ ((R[1]'i3).toNat : Int) := r1
          have rB : (((s[1]'i2).toNat : Int) != ((R[1]'i3).toNat : Int)) = true := by simpa using r1
          have HIB := Lib.hid (show ∀ (b : Int) (W : World), Calls Tryz.prog 146 #[.string .empty, .int .u8 b] W fun e w' => e = .returned (.int .i64 (-1)) ∧ w' = W from fun b W => Tryz.strings_IndexByte .empty b W)
          go_quiet (fail)
          go_upto_region 7 with (fail)
          have i4 : (2 : Int) ≤ (s.size : Int) := by rw [HZ.out]; decide
          have i5 : IntKind.i64.wrap (1 + 1) = 2 := by decide
          have i6 : IntKind.i64.wrap 2 = 2 := by decide
          have i7 : (1 : Int) + 1 = 2 := by decide
          obtain ⟨W0, hW0⟩ : ∃ W0, W0 = wr.drewN nq := ⟨_, rfl⟩
          rw [← hW0]
          have HB0 := Lib.hid (show Below wr.heap.size wr W0 by rw [hW0]; exact below_drewN _ _ _)
          clear hW0
          go_quiet ((go_at_call 146; exact Calls.quiet_of_same (HIB.out _ _)))
          go_wp2
          first | go_ret | ((simp (config := { zetaDelta := true }) only [Exit.noGoto_ret, Exit.inBlock, Exit.then]); go_ret)
          refine ⟨rfl, HB0.out.trans ?_⟩
          first | exact Below.refl _ _ | exact below_drewN _ _ _
        · have z1 : ¬ (R.size : Int) - 1 < 2 := by omega
          go_wp2
          first | go_ret | ((simp (config := { zetaDelta := true }) only [Exit.noGoto_ret, Exit.inBlock, Exit.then]); go_ret)
          exact ⟨rfl, Below.refl _ _⟩
    · have hv' : Lib.validRune c = false := by simpa using hv
      go_enter Tryz.func126, Tryz.ntmps126
      go_wp2_with (go_at_call 147; go_must (refine (Tryz.utf8_ValidRune c _).mono ?_; rintro e w1 ⟨rfl, rfl⟩; rw [hv']))
      go_ret
      exact ⟨rfl, Below.refl _ _⟩
end Go.Proofs.YtoiokbdipcecnaaGreatDoor
namespace Go.Proofs.YtoiokbdipcecnaaGreatDoor
open Go.RowKit
set_option maxRecDepth 100000

/-- a rune that begins at a byte from 128 on takes bytes from 128 on alone -/
theorem decode_span (s : ByteArray) (i : Nat) (h : i < s.size) (ha : 128 ≤ (s[i]'h).toNat) : i + (Utf8.decode s i).2 ≤ s.size ∧ ∀ (j : Nat) (hj : j < s.size), i ≤ j → j < i + (Utf8.decode s i).2 → 128 ≤ (s[j]'hj).toNat := by
  have g0 : s.get! (i + 0) = s[i]'h := get_at s i h
  have hn : ¬ (s.get! (i + 0)).toNat < 128 := by rw [g0]; omega
  have hc : ∀ k, (decide (i + k < s.size) && (s.get! (i + k)).toNat / 64 == 2) = true → ∃ hk : i + k < s.size, 128 ≤ (s[i + k]'hk).toNat := fun k hk => by
    simp only [Bool.and_eq_true, decide_eq_true_eq, beq_iff_eq] at hk
    refine ⟨hk.1, ?_⟩
    have := get_at s (i + k) hk.1
    rw [Nat.add_zero] at this
    rw [← this]
    omega
  have one : i + 1 ≤ s.size ∧ ∀ (j : Nat) (hj : j < s.size), i ≤ j → j < i + 1 → 128 ≤ (s[j]'hj).toNat :=
    ⟨by omega, fun j hj h1 h2 => by obtain rfl : j = i := by omega
                                    exact ha⟩
  have two : (∃ hk : i + 1 < s.size, 128 ≤ (s[i + 1]'hk).toNat) → i + 2 ≤ s.size ∧ ∀ (j : Nat) (hj : j < s.size), i ≤ j → j < i + 2 → 128 ≤ (s[j]'hj).toNat := fun ⟨k1, k2⟩ =>
    ⟨by omega, fun j hj h1 h2 => by
      by_cases e : j = i + 1
      · subst e; exact k2
      · exact one.2 j hj h1 (by omega)⟩
  have three : (∃ hk : i + 1 < s.size, 128 ≤ (s[i + 1]'hk).toNat) → (∃ hk : i + 2 < s.size, 128 ≤ (s[i + 2]'hk).toNat) → i + 3 ≤ s.size ∧ ∀ (j : Nat) (hj : j < s.size), i ≤ j → j < i + 3 → 128 ≤ (s[j]'hj).toNat := fun a1 ⟨k1, k2⟩ =>
    ⟨by omega, fun j hj h1 h2 => by
      by_cases e : j = i + 2
      · subst e; exact k2
      · exact (two a1).2 j hj h1 (by omega)⟩
  have four : (∃ hk : i + 1 < s.size, 128 ≤ (s[i + 1]'hk).toNat) → (∃ hk : i + 2 < s.size, 128 ≤ (s[i + 2]'hk).toNat) → (∃ hk : i + 3 < s.size, 128 ≤ (s[i + 3]'hk).toNat) → i + 4 ≤ s.size ∧ ∀ (j : Nat) (hj : j < s.size), i ≤ j → j < i + 4 → 128 ≤ (s[j]'hj).toNat := fun a1 a2 ⟨k1, k2⟩ =>
    ⟨by omega, fun j hj h1 h2 => by
      by_cases e : j = i + 3
      · subst e; exact k2
      · exact (three a1 a2).2 j hj h1 (by omega)⟩
  simp only [Utf8.decode]
  rw [if_neg hn]
  split
  · rename_i hx
    rw [Bool.and_eq_true] at hx
    split
    · exact two (hc 1 hx.2)
    · exact one
  · split
    · rename_i hx
      rw [Bool.and_eq_true, Bool.and_eq_true] at hx
      split
      · exact three (hc 1 hx.1.2) (hc 2 hx.2)
      · exact one
    · split
      · rename_i hx
        rw [Bool.and_eq_true, Bool.and_eq_true, Bool.and_eq_true] at hx
        split
        · exact four (hc 1 hx.1.1.2) (hc 2 hx.1.2) (hc 3 hx.2)
        · exact one
      · exact one

theorem blanks_not {b : UInt8} (h : 128 ≤ b.toNat) : ([32, 9] : List UInt8).contains b = false := by
  cases hc : ([32, 9] : List UInt8).contains b with
  | false => rfl
  | true =>
    simp at hc
    rcases hc with rfl | rfl <;> exact absurd h (by decide)
theorem noAny_span {s : ByteArray} {i d : Nat} (h : Lib.NoAny s.data.toList [32, 9] i) (hd : ∀ (j : Nat) (hj : j < s.size), i ≤ j → j < i + d → 128 ≤ (s[j]'hj).toNat) : Lib.NoAny s.data.toList [32, 9] (i + d) := fun j b hj hb => by
  by_cases hji : j < i
  · exact h j b hji hb
  · obtain ⟨hlt, he⟩ := List.getElem?_eq_some_iff.1 hb
    have hlt' : j < s.size := by simpa using hlt
    have := hd j hlt' (by omega) hj
    refine blanks_not ?_
    rw [← he]
    exact this

/-- the world with the iterator of block b at place p -/
def turnIter (U : World) (b : Nat) (s : ByteArray) (p : Nat) : World := { U with heap := U.heap.setIfInBounds b (.stringIter s p) }
theorem turnIter_heap {U : World} {b : Nat} {o : Obj} (h : U.heap[b]? = some o) (s : ByteArray) (p : Nat) : (turnIter U b s p).heap[b]? = some (.stringIter s p) := by
  have hlt : b < U.heap.size := lt_of_block h
  show (U.heap.setIfInBounds b _)[b]? = _
  simp [hlt]
theorem turnIter_below (U : World) (b : Nat) (s : ByteArray) (p : Nat) : Below b U (turnIter U b s p) :=
  ⟨rfl, rfl, rfl, by simp [turnIter], fun k hk => by show (U.heap.setIfInBounds b _)[k]? = _; rw [Array.getElem?_setIfInBounds_ne (by omega)]⟩
theorem turnIter_size (U : World) (b : Nat) (s : ByteArray) (p : Nat) : (turnIter U b s p).heap.size = U.heap.size := by simp [turnIter]
theorem run_next_at {P : Program} {U : World} {b : Nat} {s : ByteArray} {pos : Nat} (hU : U.heap[b]? = some (.stringIter s pos)) (h : pos < s.size) (ty : TypeId) :
    (Instr.next (.pointer (some ⟨b, 0, none⟩)) true ty).run P U = .ok (.tuple #[.bool true, .int .i64 pos, .int .i32 (Utf8.decode s pos).1]) (turnIter U b s (pos + (Utf8.decode s pos).2)) := by
  simp [Instr.next, getObj, setObj, Sem.run_bind, Sem.run, hU, Result.andThen, h, goInt, turnIter]
theorem run_next_at_end {P : Program} {U : World} {b : Nat} {s : ByteArray} {pos : Nat} (hU : U.heap[b]? = some (.stringIter s pos)) (h : ¬ pos < s.size) (ty : TypeId) :
    (Instr.next (.pointer (some ⟨b, 0, none⟩)) true ty).run P U = .ok (.tuple #[.bool false]) U := by
  simp [Instr.next, getObj, Sem.run, hU, h]

theorem blanks_ascii (i : Nat) (h : i < (⟨#[32, 9]⟩ : ByteArray).size) : ((⟨#[32, 9]⟩ : ByteArray)[i]'h).toNat < 128 := by
  match i, h with
  | 0, _ => exact (by decide : (32 : UInt8).toNat < 128)
  | 1, _ => exact (by decide : (9 : UInt8).toNat < 128)
  | n + 2, h => exact absurd h (by show ¬ n + 2 < 2; omega)
set_option maxHeartbeats 4000000 in
theorem IndexAny_short (s : ByteArray) (w : World) (h8 : s.size ≤ 8) :
    Calls Tryz.prog 131 #[.string s, .string ⟨#[32, 9]⟩] w fun e w' => e = .returned (.int .i64 (Lib.indexAny s.data.toList [32, 9])) ∧ Below w.heap.size w w' := by
  have h8z : decide ((8 : Int) < (s.size : Int)) = false := decide_eq_false (by omega)
  have HR := Lib.hid (fun (c : Int) (W : World) (h1 : 128 ≤ c) (h2 : c ≤ 2147483647) => IndexRune_no ⟨#[32, 9]⟩ c W h1 h2 rfl blanks_ascii)
  go_enter Tryz.func131, Tryz.ntmps131
  go_wp2_with (go_at_call 149; refine (Tryz.strings_shouldUseASCIISet _ _).mono ?_; rintro e w' ⟨rfl, hw⟩; rw [hw, h8z])
  go_loopg [9, 10] s.size (fun g _ _ wx => ∃ i : Nat, i + g = s.size ∧ wx.heap[w.heap.size]? = some (.stringIter s i) ∧ Lib.NoAny s.data.toList [32, 9] i ∧ Below w.heap.size w wx)
  case atStart => exact ⟨0, by omega, World.iter_heap _ _ _, Lib.NoAny.zero _ _, (Below.refl _ _).alloc (Nat.le_refl _) _⟩
  case round =>
    obtain ⟨i, hig, hit, hno, hB⟩ := hrel
    have HN := Lib.hid hno
    have HB := Lib.hid hB
    have HIT := Lib.hid hit
    clear hno hB
    cases gk with
    | zero =>
      obtain rfl : i = s.size := by omega
      have hnx := fun ty => run_next_at_end (P := Tryz.prog) hit (by omega) ty
      clear hit
      go_wp2
      go_ret
      exact ⟨by rw [Lib.indexAny_none (by rw [← Lib.size_eq]; exact HN.out)]; rfl, HB.out⟩
    | succ g =>
      have hi : i < s.size := by omega
      obtain ⟨x, hx⟩ : ∃ x : UInt8, s[i]'hi = x := ⟨_, rfl⟩
      have hxl : s.data.toList[i]? = some x := by rw [← hx]; exact Lib.data_getElem? s i hi
      have hnx := fun ty => run_next_at (P := Tryz.prog) hit hi ty
      have HX := Lib.hid hxl
      have hlt := lt_of_block hit
      clear hit hxl
      by_cases hx128 : x.toNat < 128
      · rw [decode_ascii s i hi (by rw [hx]; exact hx128), hx] at hnx
        simp only at hnx
        have hcon := Lib.contains_iff_indexByte [32, 9] x
        have hback : ((x.toNat : Int)).toNat.toUInt8 = x := by simp
        have HBK := Lib.hid hback
        have HXE := Lib.hid hx
        clear hback hx
        cases hin : ([32, 9] : List UInt8).contains x
        · rw [hin] at hcon
          have hneg : ¬ ((0 : Int) ≤ Lib.indexByte [32, 9] x) := of_decide_eq_false hcon.symm
          have HIN := Lib.hid hin
          clear hcon hin
          go_wp2_with (go_at_call 126; refine (Tryz.strings_IndexRune_ascii _ _ _ (by omega) (by omega)).mono ?_; rintro e w' ⟨rfl, hw⟩; rw [hw, HBK.out]; clear hw)
          go_roundg g
          case measure => omega
          case rel => exact ⟨i + 1, by omega, turnIter_heap HIT.out _ _, HN.out.succ HX.out HIN.out, HB.out.trans (turnIter_below _ _ _ _)⟩
        · rw [hin] at hcon
          have hge : (0 : Int) ≤ Lib.indexByte [32, 9] x := of_decide_eq_true hcon.symm
          have HIN := Lib.hid hin
          clear hcon hin
          go_wp2_with (go_at_call 126; refine (Tryz.strings_IndexRune_ascii _ _ _ (by omega) (by omega)).mono ?_; rintro e w' ⟨rfl, hw⟩; rw [hw, HBK.out]; clear hw)
          go_ret
          exact ⟨by rw [Lib.indexAny_hit HN.out HX.out HIN.out]; rfl, HB.out.trans (turnIter_below _ _ _ _)⟩
      · have hx2 : 128 ≤ (s[i]'hi).toNat := by rw [hx]; omega
        obtain ⟨d1, d2⟩ := decode_high s i hi hx2
        have d3 := decode_le s i
        obtain ⟨d4, d5⟩ := decode_span s i hi hx2
        have HD5 := Lib.hid d5
        clear d5 hx
        generalize Utf8.decode s i = D at *
        obtain ⟨c, d⟩ := D
        simp only at d1 d2 d3 d4 HD5 hnx
        go_wp2_with (go_at_call 126; refine (HR.out (c : Int) _ (by omega) (by omega)).mono ?_; rintro e w' ⟨rfl, hb⟩)
        go_roundg (s.size - (i + d))
        case measure => omega
        case rel => exact ⟨i + d, by omega, (hb.block _ (by rw [turnIter_size]; exact hlt)).trans (turnIter_heap HIT.out _ _), noAny_span HN.out HD5.out, (HB.out.trans (turnIter_below _ _ _ _)).trans (hb.mono (by rw [turnIter_size]; omega))⟩
theorem IndexAny_every (s : ByteArray) (w : World) (hs : s.size < 4294967281) :
    Calls Tryz.prog 131 #[.string s, .string ⟨#[32, 9]⟩] w fun e w' => e = .returned (.int .i64 (Lib.indexAny s.data.toList [32, 9])) ∧ Below w.heap.size w w' := by
  by_cases h8 : s.size ≤ 8
  · exact IndexAny_short s w h8
  · have h116 : (Tryz.prog.info? (Tryz.lays153_ren.t 116)).map (fun i => (i.zero, i.size)) = some (some (.agg (Array.replicate 256 (.bool false))), 256) := by kernel_rfl
    refine (Any.strings_IndexAny_long Tryz.lays153 (zero_of_info h116).1 (zero_of_info h116).2 s ⟨#[32, 9]⟩ w (by decide) (by omega) hs (by decide) (ascii_of_all (by decide))).mono fun e w' ⟨h1, h2⟩ => ⟨h1, ?_⟩
    rw [h2]
    exact ((Below.refl _ _).alloc (Nat.le_refl _) _).alloc (by simp) _
end Go.Proofs.YtoiokbdipcecnaaGreatDoor
