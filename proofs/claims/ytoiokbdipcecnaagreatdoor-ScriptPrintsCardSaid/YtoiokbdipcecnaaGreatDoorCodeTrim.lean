/-
  strings.Trim at blank and tab, IndexAny at them (for texts of ASCII), CutSuffix at the colon, Cut at the semicolon, Split at the line's end and at the mark #: as functions on lists of bytes. Condition: the library's variables (Env), sizes.
-/
import Derived.Test.YtoiokbdipcecnaaGreatDoorCodeNum
import Derived.Shelf.Strings.SlTrimAscii
namespace Go.Proofs.YtoiokbdipcecnaaGreatDoor
open Go.RowKit
set_option maxRecDepth 100000

theorem Trim_any (s : ByteArray) (w : World) (hs : s.size ≤ 65536) :
    Calls Tryz.prog 49 #[.string s, .string ⟨#[32, 9]⟩] w fun e w' => e = .returned (.string (S (Lib.trimS s.data.toList [32, 9]))) ∧ Below w.heap.size w w' :=
  Any.strings_Trim_laid Tryz.lays160 (by kernel_rfl) s ⟨#[32, 9]⟩ w (by omega) (by decide) (ascii_of_all (by decide))
theorem Cut_any (s : ByteArray) (w : World) (hs : s.size ≤ 65536) (he : Env w) :
    Calls Tryz.prog 48 #[.string s, .string ⟨#[59]⟩] w fun e w' => ∃ t b, e = .returned (.tuple #[.string (S (Lib.cut s.data.toList [59]).1), .string t, .bool b]) ∧ Below w.heap.size w w' := by
  obtain ⟨m, hm⟩ := he.len
  refine (Tryz.strings_Cut s ⟨#[59]⟩ m w (by omega) hm).mono ?_
  rintro e w' ⟨rfl, n, rfl⟩
  exact ⟨_, _, rfl, below_drewN _ _ _⟩
theorem CutSuffix_any (s : ByteArray) (w : World) (hs : s.size ≤ 65536) :
    Calls Tryz.prog 128 #[.string s, .string ⟨#[58]⟩] w fun e w' => e = .returned (.tuple #[.string (S (Lib.trimSuffix s.data.toList [58])), .bool (Lib.hasSuffix s.data.toList [58])]) ∧ w = w' := by
  refine (Tryz.strings_CutSuffix s ⟨#[58]⟩ w (by omega)).mono ?_
  rintro e w' ⟨rfl, rfl⟩
  exact ⟨rfl, rfl⟩
end Go.Proofs.YtoiokbdipcecnaaGreatDoor
