/-
  strings.Trim at blank and tab, IndexAny at them (for texts of ASCII), CutSuffix at the colon, Cut at the semicolon, Split at the line's end and at the mark #: as functions on lists of bytes. Condition: the library's variables (Env), sizes.
  And: number: for every text. Condition: the library's variables (Env).
-/
import Derived.Test.YtoiokbdipcecnaaGreatDoorEnv
import Derived.Lib.AtoiErrMem
import Derived.Shelf.Strings.SlTrimAscii
namespace Go.Proofs.YtoiokbdipcecnaaGreatDoor
open Go.RowKit
set_option maxRecDepth 100000

def numberB (l : List UInt8) : Int × Bool :=
  match Lib.parseIntB 64 l with
  | .ok v => (v, decide (Lib.itoa v = l))
  | .range => (Lib.intSat 64 l, false)
  | _ => (0, false)
theorem below_drewN (B : Nat) (w : World) (n : Nat) : Below B w (w.drewN n) := ⟨rfl, rfl, rfl, Nat.le_refl _, fun _ _ => rfl⟩
theorem below_grow (w : World) (os : Array Obj) : Below w.heap.size w (Sort.grow w os) :=
  ⟨rfl, rfl, rfl, by simp [Sort.grow], fun k hk => by simp [Sort.grow, Array.getElem?_append, hk]⟩
theorem FormatInt_any (n : Int) (w : World) (h1 : -9223372036854775808 ≤ n) (h2 : n ≤ 9223372036854775807) (he : Env w) :
    Calls Tryz.prog 40 #[.int .i64 n, .int .i64 10] w fun e w' => e = .returned (.string (S (Lib.itoa n))) ∧ Below w.heap.size w w' := by
  refine (Tryz.strconv_FormatInt_10 n h1 h2 w he.pow).mono ?_
  rintro e w' ⟨rfl, k, os, rfl⟩
  exact ⟨rfl, (below_drewN _ w k).trans ((below_grow (w.drewN k) os).mono (Nat.le_refl _))⟩
theorem ParseInt_ok (s : ByteArray) (v : Int) (w : World) (hs : s.size ≤ 65536) (h : Lib.parseIntB 64 s.data.toList = .ok v) :
    Calls Tryz.prog 82 #[.string s, .int .i64 10, .int .i64 64] w fun e w' => e = .returned (.tuple #[.int .i64 v, .nilIface]) ∧ Below w.heap.size w w' := by
  refine (Tryz.strconv_ParseInt_10_at64_ok s (by omega) v h w).mono ?_
  rintro e w' ⟨rfl, rfl | ⟨t, rfl⟩⟩
  · exact ⟨rfl, Below.refl _ _⟩
  · exact ⟨rfl, Lib.bytesWorld_below _ _ _⟩
theorem parse_ok_bounds {l : List UInt8} {v : Int} (h : Lib.parseIntB 64 l = .ok v) : -9223372036854775808 ≤ v ∧ v ≤ 9223372036854775807 := by
  unfold Lib.parseIntB at h
  cases l with
  | nil => cases h
  | cons c r =>
    simp only at h
    split at h
    · cases h
    · cases h
    · rename_i u _
      split at h
      · cases h
      · split at h
        · cases h
        · injection h with h
          subst h
          split <;> omega

set_option maxHeartbeats 1000000 in
theorem number_any (s : ByteArray) (w : World) (hs : s.size ≤ 65536) (he : Env w) :
    Calls Tryz.prog 151 #[.string s] w fun e w' => e = .returned (.tuple #[.int .i64 (numberB s.data.toList).1, .bool (numberB s.data.toList).2]) ∧ Below w.heap.size w w' := by
  have hnn := @run_eql_nil_nil Tryz.prog
  have hhn := @run_eql_held_nil Tryz.prog
  cases hp : Lib.parseIntB 64 s.data.toList
  · rename_i v
    obtain ⟨b1, b2⟩ := parse_ok_bounds hp
    have HP := Lib.hid hp
    clear hp
    go_enter Tryz.func151, Tryz.ntmps151
    go_wp2_with (first | (go_at_call 82; refine (ParseInt_ok s v _ hs HP.out).mono ?_; rintro e w1 ⟨rfl, hb⟩) | (go_at_call 40; refine (FormatInt_any v _ b1 b2 (he.below hb)).mono ?_; rintro e w2 ⟨rfl, hb2⟩))
    go_ret2
    refine ⟨?_, hb.trans (hb2.mono hb.size)⟩
    have e : numberB s.data.toList = (v, decide (Lib.itoa v = s.data.toList)) := by unfold numberB; rw [HP.out]
    rw [e]
    have e2 : ((S (Lib.itoa v)).toList == s.toList) = decide (Lib.itoa v = s.data.toList) := by
      rw [ByteArray.toList_eq, ByteArray.toList_eq, Bool.eq_iff_iff]; simp [S]
    simp only [Array.getD_eq_getD_getElem?, List.getElem?_toArray, List.getElem?_cons_succ, List.getElem?_cons_zero, Option.getD_some, e2]
  · obtain ⟨tp, p, hv⟩ := he.syn
    have e : numberB s.data.toList = (0, false) := by unfold numberB; rw [hp]
    rw [e]
    clear e
    have HP := Lib.hid hp
    clear hp
    go_enter Tryz.func151, Tryz.ntmps151
    go_wp2_with (go_at_call 82; refine (Any.strconv_ParseInt_10_at64_syntax_var Tryz.laysC174 s (by omega) HP.out tp p _ hv).mono ?_; rintro e w1 ⟨n1, rfl, h1, h2, hb⟩; clear h2)
    go_ret2
    exact ⟨rfl, hb⟩
  · obtain ⟨tp, p, hv⟩ := he.rng
    have e : numberB s.data.toList = (Lib.intSat 64 s.data.toList, false) := by unfold numberB; rw [hp]
    rw [e]
    clear e
    have HP := Lib.hid hp
    clear hp
    go_enter Tryz.func151, Tryz.ntmps151
    go_wp2_with (go_at_call 82; refine (Tryz.strconv_ParseInt_10_at64_range_var s (by omega) HP.out tp p _ hv).mono ?_; rintro e w1 ⟨n1, rfl, h1, h2, hb⟩; clear h2)
    go_ret2
    exact ⟨rfl, hb⟩
end Go.Proofs.YtoiokbdipcecnaaGreatDoor
namespace Go.Proofs.YtoiokbdipcecnaaGreatDoor
open Go.RowKit
set_option maxRecDepth 100000

theorem Trim_any (s : ByteArray) (w : World) (hs : s.size ≤ 65536) :
    Calls Tryz.prog 49 #[.string s, .string ⟨#[32, 9]⟩] w fun e w' => e = .returned (.string (S (Lib.trimS s.data.toList [32, 9]))) ∧ Below w.heap.size w w' :=
  Any.strings_Trim_laid Tryz.lays160 (by kernel_rfl) s ⟨#[32, 9]⟩ w (by omega) (by decide) (ascii_of_all (by decide))
theorem Cut_any (s : ByteArray) (w : World) (hs : s.size ≤ 65536) (he : Env w) :
    Calls Tryz.prog 48 #[.string s, .string ⟨#[59]⟩] w fun e w' => ∃ t b, e = .returned (.tuple #[.string (S (Lib.cut s.data.toList [59]).1), .string t, .bool b]) ∧ Below w.heap.size w w' := by
  obtain ⟨m, hm⟩ := he.len
  refine (Tryz.strings_Cut s ⟨#[59]⟩ m w (by omega) hm).mono ?_
  rintro e w' ⟨rfl, n, rfl⟩
  exact ⟨_, _, rfl, below_drewN _ _ _⟩
theorem CutSuffix_any (s : ByteArray) (w : World) (hs : s.size ≤ 65536) :
    Calls Tryz.prog 128 #[.string s, .string ⟨#[58]⟩] w fun e w' => e = .returned (.tuple #[.string (S (Lib.trimSuffix s.data.toList [58])), .bool (Lib.hasSuffix s.data.toList [58])]) ∧ w = w' := by
  refine (Tryz.strings_CutSuffix s ⟨#[58]⟩ w (by omega)).mono ?_
  rintro e w' ⟨rfl, rfl⟩
  exact ⟨rfl, rfl⟩
end Go.Proofs.YtoiokbdipcecnaaGreatDoor
