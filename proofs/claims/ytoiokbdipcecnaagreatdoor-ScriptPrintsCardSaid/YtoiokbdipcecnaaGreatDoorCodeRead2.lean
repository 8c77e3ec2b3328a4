/-
  (*reader).read, walked path by path: a line that is an instruction: one that is none. Condition: the reader's place in memory (Rd), the library's variables (Env), a line of at most 65536 bytes.
-/
import Derived.Test.YtoiokbdipcecnaaGreatDoorCodeRead1
import Derived.Deep.DeepCutAuto
namespace Go.Proofs.YtoiokbdipcecnaaGreatDoor
open Go.RowKit Go.Maps Go.WideMaps
set_option maxRecDepth 100000
section
variable {w : World} {B rb lb nb : Nat} {vl vls : Value} {st : RS} {line : Int}
set_option maxHeartbeats 4000000 in
theorem read_noneA (s0 s nm0 : ByteArray) (i : Int) (op tk : Int) (_hs : s0.size ≤ 65536) (_hz : s.size ≤ 65536) (htrim0 : ∀ w, Calls Tryz.prog 49 #[.string s0, .string ⟨#[32, 9]⟩] w fun e w' => e = .returned (.string s) ∧ Below w.heap.size w w') (hempty : s.toList.isEmpty = false) (hsuf0 : ∀ w, Calls Tryz.prog 128 #[.string s, .string ⟨#[58]⟩] w fun e w' => e = .returned (.tuple #[.string nm0, .bool false]) ∧ w = w') (hany0 : ∀ w, Calls Tryz.prog 131 #[.string s, .string ⟨#[32, 9]⟩] w fun e w' => e = .returned (.int .i64 i) ∧ Below w.heap.size w w') (hi : i < 0) (hop0 : ∀ w, Calls Tryz.prog 132 #[.string s] w fun e w' => e = .returned (.int .i64 op) ∧ Below w.heap.size w w') (htk0 : ∀ w, Calls Tryz.prog 81 #[.int .i64 op] w fun e w' => e = .returned (.int .i64 tk) ∧ Below w.heap.size w w') (o0 : (op == 0) = true) (h : Rd w B rb lb nb vl vls st line) :
    Calls Tryz.prog 96 #[.pointer (some ⟨rb, 0, none⟩), .string s0] w fun e w' => e = fault 153 line ∧ Below w.heap.size w w' := by
  have htrim := Lib.hid htrim0
  clear htrim0
  have hsuf := Lib.hid hsuf0
  clear hsuf0
  have hany := Lib.hid hany0
  clear hany0
  have hop := Lib.hid hop0
  clear hop0
  have htk := Lib.hid htk0
  clear htk0
  go_enter Tryz.func96, Tryz.ntmps96
  go_wp2_with (first | (go_at_call 49; (with_reducible refine (htrim.out _).mono ?_); rintro e w1 ⟨rfl, hB1⟩) | (go_at_call 128; refine (hsuf.out _).mono ?_; rintro e w2 ⟨rfl, rfl⟩) | (go_at_call 131; (with_reducible refine (hany.out _).mono ?_); rintro e w3 ⟨rfl, hb3⟩; have hB3 := (hB1).trans (hb3.mono hB1.size)) | (go_at_call 132; (with_reducible refine (hop.out _).mono ?_); rintro e w5 ⟨rfl, hb5⟩; have hB5 := (hB3).trans (hb5.mono hB3.size)) | (go_at_call 81; (with_reducible refine (htk.out _).mono ?_); rintro e w6 ⟨rfl, hb6⟩; have hB6 := (hB5).trans (hb6.mono hB5.size); have h6 := h.below hB6; obtain ⟨c0, c1, c2, c3, c4⟩ := h6.cells; have hrb := h6.lt (.inl rfl)) | (go_at_call 130; refine (fail_any rb _ line _ (by assumption)).mono ?_; rintro e w2 ⟨rfl, rfl⟩))
  exact ⟨rfl, rfl, hB6⟩
set_option maxHeartbeats 4000000 in
theorem read_lacksA (s0 s nm0 : ByteArray) (i : Int) (op tk : Int) (_hs : s0.size ≤ 65536) (_hz : s.size ≤ 65536) (htrim0 : ∀ w, Calls Tryz.prog 49 #[.string s0, .string ⟨#[32, 9]⟩] w fun e w' => e = .returned (.string s) ∧ Below w.heap.size w w') (hempty : s.toList.isEmpty = false) (hsuf0 : ∀ w, Calls Tryz.prog 128 #[.string s, .string ⟨#[58]⟩] w fun e w' => e = .returned (.tuple #[.string nm0, .bool false]) ∧ w = w') (hany0 : ∀ w, Calls Tryz.prog 131 #[.string s, .string ⟨#[32, 9]⟩] w fun e w' => e = .returned (.int .i64 i) ∧ Below w.heap.size w w') (hi : i < 0) (hop0 : ∀ w, Calls Tryz.prog 132 #[.string s] w fun e w' => e = .returned (.int .i64 op) ∧ Below w.heap.size w w') (htk0 : ∀ w, Calls Tryz.prog 81 #[.int .i64 op] w fun e w' => e = .returned (.int .i64 tk) ∧ Below w.heap.size w w') (o0 : (op == 0) = false) (t0 : (tk == 0) = false) (h : Rd w B rb lb nb vl vls st line) :
    Calls Tryz.prog 96 #[.pointer (some ⟨rb, 0, none⟩), .string s0] w fun e w' => e = fault 153 line ∧ Below w.heap.size w w' := by
  have htrim := Lib.hid htrim0
  clear htrim0
  have hsuf := Lib.hid hsuf0
  clear hsuf0
  have hany := Lib.hid hany0
  clear hany0
  have hop := Lib.hid hop0
  clear hop0
  have htk := Lib.hid htk0
  clear htk0
  go_enter Tryz.func96, Tryz.ntmps96
  go_wp2_with (first | (go_at_call 49; (with_reducible refine (htrim.out _).mono ?_); rintro e w1 ⟨rfl, hB1⟩) | (go_at_call 128; refine (hsuf.out _).mono ?_; rintro e w2 ⟨rfl, rfl⟩) | (go_at_call 131; (with_reducible refine (hany.out _).mono ?_); rintro e w3 ⟨rfl, hb3⟩; have hB3 := (hB1).trans (hb3.mono hB1.size)) | (go_at_call 132; (with_reducible refine (hop.out _).mono ?_); rintro e w5 ⟨rfl, hb5⟩; have hB5 := (hB3).trans (hb5.mono hB3.size)) | (go_at_call 81; (with_reducible refine (htk.out _).mono ?_); rintro e w6 ⟨rfl, hb6⟩; have hB6 := (hB5).trans (hb6.mono hB5.size); have h6 := h.below hB6; obtain ⟨c0, c1, c2, c3, c4⟩ := h6.cells; have hrb := h6.lt (.inl rfl)) | (go_at_call 130; refine (fail_any rb _ line _ (by assumption)).mono ?_; rintro e w2 ⟨rfl, rfl⟩))
  exact ⟨rfl, rfl, hB6⟩
set_option maxHeartbeats 4000000 in
theorem read_noneB (s0 s nm0 rest : ByteArray) (i : Nat) (op tk : Int) (_hs : s0.size ≤ 65536) (_hz : s.size ≤ 65536) (htrim0 : ∀ w, Calls Tryz.prog 49 #[.string s0, .string ⟨#[32, 9]⟩] w fun e w' => e = .returned (.string s) ∧ Below w.heap.size w w') (hempty : s.toList.isEmpty = false) (hsuf0 : ∀ w, Calls Tryz.prog 128 #[.string s, .string ⟨#[58]⟩] w fun e w' => e = .returned (.tuple #[.string nm0, .bool false]) ∧ w = w') (hany0 : ∀ w, Calls Tryz.prog 131 #[.string s, .string ⟨#[32, 9]⟩] w fun e w' => e = .returned (.int .i64 (i : Nat)) ∧ Below w.heap.size w w') (hi : i < s.size) (htrib0 : ∀ w, Calls Tryz.prog 49 #[.string (s.extract i s.size), .string ⟨#[32, 9]⟩] w fun e w' => e = .returned (.string rest) ∧ Below w.heap.size w w') (_hrz : rest.size ≤ 65536) (hop0 : ∀ w, Calls Tryz.prog 132 #[.string (s.extract 0 i)] w fun e w' => e = .returned (.int .i64 op) ∧ Below w.heap.size w w') (htk0 : ∀ w, Calls Tryz.prog 81 #[.int .i64 op] w fun e w' => e = .returned (.int .i64 tk) ∧ Below w.heap.size w w') (o0 : (op == 0) = true) (h : Rd w B rb lb nb vl vls st line) :
    Calls Tryz.prog 96 #[.pointer (some ⟨rb, 0, none⟩), .string s0] w fun e w' => e = fault 153 line ∧ Below w.heap.size w w' := by
  have htrim := Lib.hid htrim0
  clear htrim0
  have hsuf := Lib.hid hsuf0
  clear hsuf0
  have hany := Lib.hid hany0
  clear hany0
  have hop := Lib.hid hop0
  clear hop0
  have htk := Lib.hid htk0
  clear htk0
  have htrib := Lib.hid htrib0
  clear htrib0
  go_enter Tryz.func96, Tryz.ntmps96
  go_upto_region 15 with (first | (go_at_call 49; (with_reducible refine (htrim.out _).mono ?_); rintro e w1 ⟨rfl, hB1⟩) | (go_at_call 128; refine (hsuf.out _).mono ?_; rintro e w2 ⟨rfl, rfl⟩) | (go_at_call 131; (with_reducible refine (hany.out _).mono ?_); rintro e w3 ⟨rfl, hb3⟩; have hB3 := (hB1).trans (hb3.mono hB1.size)) | (go_at_call 49; (with_reducible refine (htrib.out _).mono ?_); rintro e w4 ⟨rfl, hb4⟩; have hB4 := (hB3.drew).trans (hb4.mono hB3.size)) | (go_at_call 132; (with_reducible refine (hop.out _).mono ?_); rintro e w5 ⟨rfl, hb5⟩; have hB5 := (hB4).trans (hb5.mono hB4.size)) | (go_at_call 81; (with_reducible refine (htk.out _).mono ?_); rintro e w6 ⟨rfl, hb6⟩; have hB6 := (hB5).trans (hb6.mono hB5.size); have h6 := h.below hB6; obtain ⟨c0, c1, c2, c3, c4⟩ := h6.cells; have hrb := h6.lt (.inl rfl)) | (go_at_call 130; refine (fail_any rb _ line _ (by assumption)).mono ?_; rintro e w2 ⟨rfl, rfl⟩))
  go_cut [8, 9] (fun v8 v9 wx => v8 = .string (s.extract 0 i) ∧ v9 = .string rest ∧ Below w.heap.size w wx)
  case first =>
    go_region_with (first | (go_at_call 49; (with_reducible refine (htrim.out _).mono ?_); rintro e w1 ⟨rfl, hB1⟩) | (go_at_call 128; refine (hsuf.out _).mono ?_; rintro e w2 ⟨rfl, rfl⟩) | (go_at_call 131; (with_reducible refine (hany.out _).mono ?_); rintro e w3 ⟨rfl, hb3⟩; have hB3 := (hB1).trans (hb3.mono hB1.size)) | (go_at_call 49; (with_reducible refine (htrib.out _).mono ?_); rintro e w4 ⟨rfl, hb4⟩; have hB4 := (hB3.drew).trans (hb4.mono hB3.size)) | (go_at_call 132; (with_reducible refine (hop.out _).mono ?_); rintro e w5 ⟨rfl, hb5⟩; have hB5 := (hB4).trans (hb5.mono hB4.size)) | (go_at_call 81; (with_reducible refine (htk.out _).mono ?_); rintro e w6 ⟨rfl, hb6⟩; have hB6 := (hB5).trans (hb6.mono hB5.size); have h6 := h.below hB6; obtain ⟨c0, c1, c2, c3, c4⟩ := h6.cells; have hrb := h6.lt (.inl rfl)) | (go_at_call 130; refine (fail_any rb _ line _ (by assumption)).mono ?_; rintro e w2 ⟨rfl, rfl⟩))
    all_goals (go_wp2_with fail; go_meet; exact ⟨rfl, rfl, hB4⟩)
  case rest =>
    obtain ⟨rfl, rfl, hB4⟩ := hcut
    go_wp2_with (first | (go_at_call 49; (with_reducible refine (htrim.out _).mono ?_); rintro e w1 ⟨rfl, hB1⟩) | (go_at_call 128; refine (hsuf.out _).mono ?_; rintro e w2 ⟨rfl, rfl⟩) | (go_at_call 131; (with_reducible refine (hany.out _).mono ?_); rintro e w3 ⟨rfl, hb3⟩; have hB3 := (hB1).trans (hb3.mono hB1.size)) | (go_at_call 49; (with_reducible refine (htrib.out _).mono ?_); rintro e w4 ⟨rfl, hb4⟩; have hB4 := (hB3.drew).trans (hb4.mono hB3.size)) | (go_at_call 132; (with_reducible refine (hop.out _).mono ?_); rintro e w5 ⟨rfl, hb5⟩; have hB5 := (hB4).trans (hb5.mono hB4.size)) | (go_at_call 81; (with_reducible refine (htk.out _).mono ?_); rintro e w6 ⟨rfl, hb6⟩; have hB6 := (hB5).trans (hb6.mono hB5.size); have h6 := h.below hB6; obtain ⟨c0, c1, c2, c3, c4⟩ := h6.cells; have hrb := h6.lt (.inl rfl)) | (go_at_call 130; refine (fail_any rb _ line _ (by assumption)).mono ?_; rintro e w2 ⟨rfl, rfl⟩))
    exact ⟨rfl, rfl, hB6⟩
set_option maxHeartbeats 4000000 in
theorem read_moreB (s0 s nm0 rest : ByteArray) (i : Nat) (op tk : Int) (_hs : s0.size ≤ 65536) (_hz : s.size ≤ 65536) (htrim0 : ∀ w, Calls Tryz.prog 49 #[.string s0, .string ⟨#[32, 9]⟩] w fun e w' => e = .returned (.string s) ∧ Below w.heap.size w w') (hempty : s.toList.isEmpty = false) (hsuf0 : ∀ w, Calls Tryz.prog 128 #[.string s, .string ⟨#[58]⟩] w fun e w' => e = .returned (.tuple #[.string nm0, .bool false]) ∧ w = w') (hany0 : ∀ w, Calls Tryz.prog 131 #[.string s, .string ⟨#[32, 9]⟩] w fun e w' => e = .returned (.int .i64 (i : Nat)) ∧ Below w.heap.size w w') (hi : i < s.size) (htrib0 : ∀ w, Calls Tryz.prog 49 #[.string (s.extract i s.size), .string ⟨#[32, 9]⟩] w fun e w' => e = .returned (.string rest) ∧ Below w.heap.size w w') (_hrz : rest.size ≤ 65536) (hop0 : ∀ w, Calls Tryz.prog 132 #[.string (s.extract 0 i)] w fun e w' => e = .returned (.int .i64 op) ∧ Below w.heap.size w w') (htk0 : ∀ w, Calls Tryz.prog 81 #[.int .i64 op] w fun e w' => e = .returned (.int .i64 tk) ∧ Below w.heap.size w w') (o0 : (op == 0) = false) (t0 : (tk == 0) = true) (hr : rest.toList.isEmpty = false) (h : Rd w B rb lb nb vl vls st line) :
    Calls Tryz.prog 96 #[.pointer (some ⟨rb, 0, none⟩), .string s0] w fun e w' => e = fault 153 line ∧ Below w.heap.size w w' := by
  have htrim := Lib.hid htrim0
  clear htrim0
  have hsuf := Lib.hid hsuf0
  clear hsuf0
  have hany := Lib.hid hany0
  clear hany0
  have hop := Lib.hid hop0
  clear hop0
  have htk := Lib.hid htk0
  clear htk0
  have htrib := Lib.hid htrib0
  clear htrib0
  go_enter Tryz.func96, Tryz.ntmps96
  go_upto_region 15 with (first | (go_at_call 49; (with_reducible refine (htrim.out _).mono ?_); rintro e w1 ⟨rfl, hB1⟩) | (go_at_call 128; refine (hsuf.out _).mono ?_; rintro e w2 ⟨rfl, rfl⟩) | (go_at_call 131; (with_reducible refine (hany.out _).mono ?_); rintro e w3 ⟨rfl, hb3⟩; have hB3 := (hB1).trans (hb3.mono hB1.size)) | (go_at_call 49; (with_reducible refine (htrib.out _).mono ?_); rintro e w4 ⟨rfl, hb4⟩; have hB4 := (hB3.drew).trans (hb4.mono hB3.size)) | (go_at_call 132; (with_reducible refine (hop.out _).mono ?_); rintro e w5 ⟨rfl, hb5⟩; have hB5 := (hB4).trans (hb5.mono hB4.size)) | (go_at_call 81; (with_reducible refine (htk.out _).mono ?_); rintro e w6 ⟨rfl, hb6⟩; have hB6 := (hB5).trans (hb6.mono hB5.size); have h6 := h.below hB6; obtain ⟨c0, c1, c2, c3, c4⟩ := h6.cells; have hrb := h6.lt (.inl rfl)) | (go_at_call 130; refine (fail_any rb _ line _ (by assumption)).mono ?_; rintro e w2 ⟨rfl, rfl⟩))
  go_cut [8, 9] (fun v8 v9 wx => v8 = .string (s.extract 0 i) ∧ v9 = .string rest ∧ Below w.heap.size w wx)
  case first =>
    go_region_with (first | (go_at_call 49; (with_reducible refine (htrim.out _).mono ?_); rintro e w1 ⟨rfl, hB1⟩) | (go_at_call 128; refine (hsuf.out _).mono ?_; rintro e w2 ⟨rfl, rfl⟩) | (go_at_call 131; (with_reducible refine (hany.out _).mono ?_); rintro e w3 ⟨rfl, hb3⟩; have hB3 := (hB1).trans (hb3.mono hB1.size)) | (go_at_call 49; (with_reducible refine (htrib.out _).mono ?_); rintro e w4 ⟨rfl, hb4⟩; have hB4 := (hB3.drew).trans (hb4.mono hB3.size)) | (go_at_call 132; (with_reducible refine (hop.out _).mono ?_); rintro e w5 ⟨rfl, hb5⟩; have hB5 := (hB4).trans (hb5.mono hB4.size)) | (go_at_call 81; (with_reducible refine (htk.out _).mono ?_); rintro e w6 ⟨rfl, hb6⟩; have hB6 := (hB5).trans (hb6.mono hB5.size); have h6 := h.below hB6; obtain ⟨c0, c1, c2, c3, c4⟩ := h6.cells; have hrb := h6.lt (.inl rfl)) | (go_at_call 130; refine (fail_any rb _ line _ (by assumption)).mono ?_; rintro e w2 ⟨rfl, rfl⟩))
    all_goals (go_wp2_with fail; go_meet; exact ⟨rfl, rfl, hB4⟩)
  case rest =>
    obtain ⟨rfl, rfl, hB4⟩ := hcut
    go_wp2_with (first | (go_at_call 49; (with_reducible refine (htrim.out _).mono ?_); rintro e w1 ⟨rfl, hB1⟩) | (go_at_call 128; refine (hsuf.out _).mono ?_; rintro e w2 ⟨rfl, rfl⟩) | (go_at_call 131; (with_reducible refine (hany.out _).mono ?_); rintro e w3 ⟨rfl, hb3⟩; have hB3 := (hB1).trans (hb3.mono hB1.size)) | (go_at_call 49; (with_reducible refine (htrib.out _).mono ?_); rintro e w4 ⟨rfl, hb4⟩; have hB4 := (hB3.drew).trans (hb4.mono hB3.size)) | (go_at_call 132; (with_reducible refine (hop.out _).mono ?_); rintro e w5 ⟨rfl, hb5⟩; have hB5 := (hB4).trans (hb5.mono hB4.size)) | (go_at_call 81; (with_reducible refine (htk.out _).mono ?_); rintro e w6 ⟨rfl, hb6⟩; have hB6 := (hB5).trans (hb6.mono hB5.size); have h6 := h.below hB6; obtain ⟨c0, c1, c2, c3, c4⟩ := h6.cells; have hrb := h6.lt (.inl rfl)) | (go_at_call 130; refine (fail_any rb _ line _ (by assumption)).mono ?_; rintro e w2 ⟨rfl, rfl⟩))
    exact ⟨rfl, rfl, hB6⟩
set_option maxHeartbeats 4000000 in
theorem read_lacksB (s0 s nm0 rest : ByteArray) (i : Nat) (op tk : Int) (_hs : s0.size ≤ 65536) (_hz : s.size ≤ 65536) (htrim0 : ∀ w, Calls Tryz.prog 49 #[.string s0, .string ⟨#[32, 9]⟩] w fun e w' => e = .returned (.string s) ∧ Below w.heap.size w w') (hempty : s.toList.isEmpty = false) (hsuf0 : ∀ w, Calls Tryz.prog 128 #[.string s, .string ⟨#[58]⟩] w fun e w' => e = .returned (.tuple #[.string nm0, .bool false]) ∧ w = w') (hany0 : ∀ w, Calls Tryz.prog 131 #[.string s, .string ⟨#[32, 9]⟩] w fun e w' => e = .returned (.int .i64 (i : Nat)) ∧ Below w.heap.size w w') (hi : i < s.size) (htrib0 : ∀ w, Calls Tryz.prog 49 #[.string (s.extract i s.size), .string ⟨#[32, 9]⟩] w fun e w' => e = .returned (.string rest) ∧ Below w.heap.size w w') (_hrz : rest.size ≤ 65536) (hop0 : ∀ w, Calls Tryz.prog 132 #[.string (s.extract 0 i)] w fun e w' => e = .returned (.int .i64 op) ∧ Below w.heap.size w w') (htk0 : ∀ w, Calls Tryz.prog 81 #[.int .i64 op] w fun e w' => e = .returned (.int .i64 tk) ∧ Below w.heap.size w w') (o0 : (op == 0) = false) (t0 : (tk == 0) = false) (hr : rest.toList.isEmpty = true) (h : Rd w B rb lb nb vl vls st line) :
    Calls Tryz.prog 96 #[.pointer (some ⟨rb, 0, none⟩), .string s0] w fun e w' => e = fault 153 line ∧ Below w.heap.size w w' := by
  have htrim := Lib.hid htrim0
  clear htrim0
  have hsuf := Lib.hid hsuf0
  clear hsuf0
  have hany := Lib.hid hany0
  clear hany0
  have hop := Lib.hid hop0
  clear hop0
  have htk := Lib.hid htk0
  clear htk0
  have htrib := Lib.hid htrib0
  clear htrib0
  go_enter Tryz.func96, Tryz.ntmps96
  go_upto_region 15 with (first | (go_at_call 49; (with_reducible refine (htrim.out _).mono ?_); rintro e w1 ⟨rfl, hB1⟩) | (go_at_call 128; refine (hsuf.out _).mono ?_; rintro e w2 ⟨rfl, rfl⟩) | (go_at_call 131; (with_reducible refine (hany.out _).mono ?_); rintro e w3 ⟨rfl, hb3⟩; have hB3 := (hB1).trans (hb3.mono hB1.size)) | (go_at_call 49; (with_reducible refine (htrib.out _).mono ?_); rintro e w4 ⟨rfl, hb4⟩; have hB4 := (hB3.drew).trans (hb4.mono hB3.size)) | (go_at_call 132; (with_reducible refine (hop.out _).mono ?_); rintro e w5 ⟨rfl, hb5⟩; have hB5 := (hB4).trans (hb5.mono hB4.size)) | (go_at_call 81; (with_reducible refine (htk.out _).mono ?_); rintro e w6 ⟨rfl, hb6⟩; have hB6 := (hB5).trans (hb6.mono hB5.size); have h6 := h.below hB6; obtain ⟨c0, c1, c2, c3, c4⟩ := h6.cells; have hrb := h6.lt (.inl rfl)) | (go_at_call 130; refine (fail_any rb _ line _ (by assumption)).mono ?_; rintro e w2 ⟨rfl, rfl⟩))
  go_cut [8, 9] (fun v8 v9 wx => v8 = .string (s.extract 0 i) ∧ v9 = .string rest ∧ Below w.heap.size w wx)
  case first =>
    go_region_with (first | (go_at_call 49; (with_reducible refine (htrim.out _).mono ?_); rintro e w1 ⟨rfl, hB1⟩) | (go_at_call 128; refine (hsuf.out _).mono ?_; rintro e w2 ⟨rfl, rfl⟩) | (go_at_call 131; (with_reducible refine (hany.out _).mono ?_); rintro e w3 ⟨rfl, hb3⟩; have hB3 := (hB1).trans (hb3.mono hB1.size)) | (go_at_call 49; (with_reducible refine (htrib.out _).mono ?_); rintro e w4 ⟨rfl, hb4⟩; have hB4 := (hB3.drew).trans (hb4.mono hB3.size)) | (go_at_call 132; (with_reducible refine (hop.out _).mono ?_); rintro e w5 ⟨rfl, hb5⟩; have hB5 := (hB4).trans (hb5.mono hB4.size)) | (go_at_call 81; (with_reducible refine (htk.out _).mono ?_); rintro e w6 ⟨rfl, hb6⟩; have hB6 := (hB5).trans (hb6.mono hB5.size); have h6 := h.below hB6; obtain ⟨c0, c1, c2, c3, c4⟩ := h6.cells; have hrb := h6.lt (.inl rfl)) | (go_at_call 130; refine (fail_any rb _ line _ (by assumption)).mono ?_; rintro e w2 ⟨rfl, rfl⟩))
    all_goals (go_wp2_with fail; go_meet; exact ⟨rfl, rfl, hB4⟩)
  case rest =>
    obtain ⟨rfl, rfl, hB4⟩ := hcut
    go_wp2_with (first | (go_at_call 49; (with_reducible refine (htrim.out _).mono ?_); rintro e w1 ⟨rfl, hB1⟩) | (go_at_call 128; refine (hsuf.out _).mono ?_; rintro e w2 ⟨rfl, rfl⟩) | (go_at_call 131; (with_reducible refine (hany.out _).mono ?_); rintro e w3 ⟨rfl, hb3⟩; have hB3 := (hB1).trans (hb3.mono hB1.size)) | (go_at_call 49; (with_reducible refine (htrib.out _).mono ?_); rintro e w4 ⟨rfl, hb4⟩; have hB4 := (hB3.drew).trans (hb4.mono hB3.size)) | (go_at_call 132; (with_reducible refine (hop.out _).mono ?_); rintro e w5 ⟨rfl, hb5⟩; have hB5 := (hB4).trans (hb5.mono hB4.size)) | (go_at_call 81; (with_reducible refine (htk.out _).mono ?_); rintro e w6 ⟨rfl, hb6⟩; have hB6 := (hB5).trans (hb6.mono hB5.size); have h6 := h.below hB6; obtain ⟨c0, c1, c2, c3, c4⟩ := h6.cells; have hrb := h6.lt (.inl rfl)) | (go_at_call 130; refine (fail_any rb _ line _ (by assumption)).mono ?_; rintro e w2 ⟨rfl, rfl⟩))
    exact ⟨rfl, rfl, hB6⟩
end
end Go.Proofs.YtoiokbdipcecnaaGreatDoor
