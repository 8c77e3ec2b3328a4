/-
  (*reader).read, walked path by path: a line that is an instruction: one that is none. Condition: the reader's place in memory (Rd), the library's variables (Env), a line of at most 65536 bytes.
  And: (*reader).read, walked path by path: an empty line, a label. Condition: the reader's place in memory (Rd), the library's variables (Env), a line of at most 65536 bytes.
-/
import Derived.Test.YtoiokbdipcecnaaGreatDoorCodeOperand
import Derived.Deep.RegionLaw
import Derived.Deep.DeepMust
import Derived.Deep.DeepCutAuto
namespace Go.Proofs.YtoiokbdipcecnaaGreatDoor
open Go.RowKit Go.Maps Go.WideMaps
set_option maxRecDepth 100000
section
variable {w : World} {B rb lb nb : Nat} {vl vls : Value} {st : RS} {line : Int}

theorem Rd.put_label {w' : World} (h : Rd w B rb lb nb vl vls st line) (n : List UInt8) (hn : st.labels.length < 400) (hhas : Maps.has (labD st.labels) (.string n) = false)
    (hown : w'.ownsMap Tryz.prog 9 (plainElem Tryz.prog 3) lb (st.labels.length + 1) ((labD st.labels).put (.string n) (.lit (.int .i64 st.l.length)))) (hg : w.grownBy w' (some lb)) :
    Rd w' B rb lb nb vl vls { st with labels := (n, st.l.length) :: st.labels } line := by
  have k : ∀ g o, w.heap[g]? = some o → (∀ (es : Array MapEntry) (c : Nat), o ≠ Obj.map es c) → w'.heap[g]? = w.heap[g]? := fun g o hg' hne => by
    refine hg.block g (lt_of_block hg') ?_
    intro e
    injection e with e
    obtain ⟨es, c, h2⟩ := map_block h.lab
    rw [e, h2] at hg'
    injection hg' with hg'
    exact hne es c hg'.symm
  refine ⟨(k rb _ h.blk (by intros; simp)).trans h.blk, ownsRow_at h.own (fun g hg' => ?_), ownsRow_at h.ownl (fun g hg' => ?_), hown, h.nam.kept hg (by have := h.ne; intro e; injection e with e; omega), h.ne, h.b1, h.b2, h.b3, h.n1, by simp; omega, h.n3, h.n4, ?_, h.ap⟩
  · obtain ⟨_, hc⟩ := own_block h.own hg'; exact k g _ hc (by intros; simp)
  · obtain ⟨_, hc⟩ := own_block h.ownl hg'; exact k g _ hc (by intros; simp)
  · have := (lab_has n st.labels).1
    rw [hhas] at this
    exact Option.isNone_iff_eq_none.1 (by simpa using this.symm)

set_option maxHeartbeats 1000000 in
theorem read_empty (s0 s : ByteArray) (_hs : s0.size ≤ 65536) (_hz : s.size ≤ 65536) (htrim0 : ∀ w, Calls Tryz.prog 49 #[.string s0, .string ⟨#[32, 9]⟩] w fun e w' => e = .returned (.string s) ∧ Below w.heap.size w w') (hempty : s.toList.isEmpty = true) (h : Rd w B rb lb nb vl vls st line) :
    Calls Tryz.prog 96 #[.pointer (some ⟨rb, 0, none⟩), .string s0] w fun e w' => e = .returned (.tuple #[]) ∧ Below w.heap.size w w' := by
  have htrim := Lib.hid htrim0
  clear htrim0
  go_enter Tryz.func96, Tryz.ntmps96
  go_wp2_with (first | (go_at_call 49; refine (htrim.out _).mono ?_; rintro e w1 ⟨rfl, hb⟩; have h1 := h.below hb; obtain ⟨c0, c1, c2, c3, c4⟩ := h1.cells))
  refine bodyPost_ret (results_none rfl _ _ _) rfl ⟨rfl, hb⟩
set_option maxHeartbeats 1000000 in
theorem read_label_bad (s0 s nm : ByteArray) (_hs : s0.size ≤ 65536) (_hz : s.size ≤ 65536) (htrim0 : ∀ w, Calls Tryz.prog 49 #[.string s0, .string ⟨#[32, 9]⟩] w fun e w' => e = .returned (.string s) ∧ Below w.heap.size w w') (hsuf0 : ∀ w, Calls Tryz.prog 128 #[.string s, .string ⟨#[58]⟩] w fun e w' => e = .returned (.tuple #[.string nm, .bool true]) ∧ w = w') (hempty : s.toList.isEmpty = false) (hnz : nm.size ≤ 65536) (hn : isNameB nm.data.toList = false) (h : Rd w B rb lb nb vl vls st line) :
    Calls Tryz.prog 96 #[.pointer (some ⟨rb, 0, none⟩), .string s0] w fun e w' => e = fault 153 line ∧ Below w.heap.size w w' := by
  have htrim := Lib.hid htrim0
  clear htrim0
  have hsuf := Lib.hid hsuf0
  clear hsuf0
  go_enter Tryz.func96, Tryz.ntmps96
  go_wp2_with (first | (go_at_call 49; refine (htrim.out _).mono ?_; rintro e w1 ⟨rfl, hb⟩; have h1 := h.below hb; obtain ⟨c0, c1, c2, c3, c4⟩ := h1.cells) | (go_at_call 128; refine (hsuf.out _).mono ?_; rintro e w2 ⟨rfl, rfl⟩) | (go_at_call 129; refine (isName_any nm _ (by unfold maxLen; omega)).mono ?_; rintro e w2 ⟨rfl, rfl⟩) | (go_at_call 130; refine (fail_any rb _ line _ (by assumption)).mono ?_; rintro e w2 ⟨rfl, rfl⟩))
  exact ⟨rfl, rfl, hb⟩
set_option maxHeartbeats 1000000 in
theorem read_label_twice (s0 s nm : ByteArray) (_hs : s0.size ≤ 65536) (_hz : s.size ≤ 65536) (htrim0 : ∀ w, Calls Tryz.prog 49 #[.string s0, .string ⟨#[32, 9]⟩] w fun e w' => e = .returned (.string s) ∧ Below w.heap.size w w') (hsuf0 : ∀ w, Calls Tryz.prog 128 #[.string s, .string ⟨#[58]⟩] w fun e w' => e = .returned (.tuple #[.string nm, .bool true]) ∧ w = w') (hempty : s.toList.isEmpty = false) (hnz : nm.size ≤ 65536) (hn : isNameB nm.data.toList = true)
    (hhas : Maps.has (labD st.labels) (.string nm.data.toList) = true) (h : Rd w B rb lb nb vl vls st line) :
    Calls Tryz.prog 96 #[.pointer (some ⟨rb, 0, none⟩), .string s0] w fun e w' => e = fault 154 line ∧ Below w.heap.size w w' := by
  have htrim := Lib.hid htrim0
  clear htrim0
  have hsuf := Lib.hid hsuf0
  clear hsuf0
  go_enter Tryz.func96, Tryz.ntmps96
  go_wp2_with (first | (go_at_call 49; refine (htrim.out _).mono ?_; rintro e w1 ⟨rfl, hb⟩; have h1 := h.below hb; obtain ⟨c0, c1, c2, c3, c4⟩ := h1.cells) | (go_at_call 128; refine (hsuf.out _).mono ?_; rintro e w2 ⟨rfl, rfl⟩) | (go_at_call 129; refine (isName_any nm _ (by unfold maxLen; omega)).mono ?_; rintro e w2 ⟨rfl, rfl⟩) | (go_at_call 130; refine (fail_any rb _ line _ (by assumption)).mono ?_; rintro e w2 ⟨rfl, rfl⟩) | (at_lookup; go_must (refine wpList_lookup_own_ok_int (H := Unit) _ rfl _ _ 155 rfl 9 3 .i64 strLaw Tryz.underlying155 Tryz.underlying3 (zeroInt _) lb st.labels.length (labD st.labels) rfl h1.lab (.string nm) (.string nm.data.toList) rfl (keyOf_string_mk (s := nm) Tryz.underlying9 (by unfold maxLen; omega)) ?_); intro c hat hwc; clear hat))
  exact ⟨rfl, rfl, hb⟩
set_option maxHeartbeats 1000000 in
theorem read_label_full (s0 s nm : ByteArray) (_hs : s0.size ≤ 65536) (_hz : s.size ≤ 65536) (htrim0 : ∀ w, Calls Tryz.prog 49 #[.string s0, .string ⟨#[32, 9]⟩] w fun e w' => e = .returned (.string s) ∧ Below w.heap.size w w') (hsuf0 : ∀ w, Calls Tryz.prog 128 #[.string s, .string ⟨#[58]⟩] w fun e w' => e = .returned (.tuple #[.string nm, .bool true]) ∧ w = w') (hempty : s.toList.isEmpty = false) (hnz : nm.size ≤ 65536) (hn : isNameB nm.data.toList = true)
    (hhas : Maps.has (labD st.labels) (.string nm.data.toList) = false) (hfull : st.labels.length = 400) (h : Rd w B rb lb nb vl vls st line) :
    Calls Tryz.prog 96 #[.pointer (some ⟨rb, 0, none⟩), .string s0] w fun e w' => e = fault 150 line ∧ Below w.heap.size w w' := by
  have hsize := Lib.hid (size_labD st.labels h.ap)
  have hful : ((st.labels.length : Int) == 400) = true := by rw [hfull]; rfl
  clear hfull
  have htrim := Lib.hid htrim0
  clear htrim0
  have hsuf := Lib.hid hsuf0
  clear hsuf0
  go_enter Tryz.func96, Tryz.ntmps96
  go_wp2_with (first | (go_at_call 49; refine (htrim.out _).mono ?_; rintro e w1 ⟨rfl, hb⟩; have h1 := h.below hb; obtain ⟨c0, c1, c2, c3, c4⟩ := h1.cells) | (go_at_call 128; refine (hsuf.out _).mono ?_; rintro e w2 ⟨rfl, rfl⟩) | (go_at_call 129; refine (isName_any nm _ (by unfold maxLen; omega)).mono ?_; rintro e w2 ⟨rfl, rfl⟩) | (go_at_call 130; refine (fail_any rb _ line _ (by assumption)).mono ?_; rintro e w2 ⟨rfl, rfl⟩) | (at_lookup; go_must (refine wpList_lookup_own_ok_int (H := Unit) _ rfl _ _ 155 rfl 9 3 .i64 strLaw Tryz.underlying155 Tryz.underlying3 (zeroInt _) lb st.labels.length (labD st.labels) rfl h1.lab (.string nm) (.string nm.data.toList) rfl (keyOf_string_mk (s := nm) Tryz.underlying9 (by unfold maxLen; omega)) ?_); intro c hat hwc; clear hat) | (at_len; go_must (refine wpList_len_own (H := Unit) _ rfl _ 155 rfl 9 3 Tryz.underlying155 _ lb st.labels.length (labD st.labels) rfl h1.lab ?_); rw [hsize.out]))
  exact ⟨rfl, rfl, hb⟩
set_option maxHeartbeats 1000000 in
theorem read_label_put (s0 s nm : ByteArray) (_hs : s0.size ≤ 65536) (_hz : s.size ≤ 65536) (htrim0 : ∀ w, Calls Tryz.prog 49 #[.string s0, .string ⟨#[32, 9]⟩] w fun e w' => e = .returned (.string s) ∧ Below w.heap.size w w') (hsuf0 : ∀ w, Calls Tryz.prog 128 #[.string s, .string ⟨#[58]⟩] w fun e w' => e = .returned (.tuple #[.string nm, .bool true]) ∧ w = w') (hempty : s.toList.isEmpty = false) (hnz : nm.size ≤ 65536) (hn : isNameB nm.data.toList = true)
    (hhas : Maps.has (labD st.labels) (.string nm.data.toList) = false) (hfull : st.labels.length < 400) (h : Rd w B rb lb nb vl vls st line) :
    Calls Tryz.prog 96 #[.pointer (some ⟨rb, 0, none⟩), .string s0] w
      fun e w' => e = .returned (.tuple #[]) ∧ Rd w' B rb lb nb vl vls { st with labels := (nm.data.toList, st.l.length) :: st.labels } line ∧ Below B w w' ∧ w.heap.size ≤ w'.heap.size ∧ Keep w w' rb lb nb vl vls := by
  have hsize := Lib.hid (size_labD st.labels h.ap)
  obtain ⟨ao, cap, rfl⟩ := (vl_form h).1
  have hl := h.n1
  have htrim := Lib.hid htrim0
  clear htrim0
  have hsuf := Lib.hid hsuf0
  clear hsuf0
  go_enter Tryz.func96, Tryz.ntmps96
  go_wp2_with (first | (go_at_call 49; refine (htrim.out _).mono ?_; rintro e w1 ⟨rfl, hb⟩; have h1 := h.below hb; obtain ⟨c0, c1, c2, c3, c4⟩ := h1.cells) | (go_at_call 128; refine (hsuf.out _).mono ?_; rintro e w2 ⟨rfl, rfl⟩) | (go_at_call 129; refine (isName_any nm _ (by unfold maxLen; omega)).mono ?_; rintro e w2 ⟨rfl, rfl⟩) | (go_at_call 130; refine (fail_any rb _ line _ (by assumption)).mono ?_; rintro e w2 ⟨rfl, rfl⟩) | (at_lookup; go_must (refine wpList_lookup_own_ok_int (H := Unit) _ rfl _ _ 155 rfl 9 3 .i64 strLaw Tryz.underlying155 Tryz.underlying3 (zeroInt _) lb st.labels.length (labD st.labels) rfl h1.lab (.string nm) (.string nm.data.toList) rfl (keyOf_string_mk (s := nm) Tryz.underlying9 (by unfold maxLen; omega)) ?_); intro c hat hwc; clear hat) | (at_len; go_must (refine wpList_len_own (H := Unit) _ rfl _ 155 rfl 9 3 Tryz.underlying155 _ lb st.labels.length (labD st.labels) rfl h1.lab ?_); rw [hsize.out]))
  go_still_tail 10, (by kernel_rfl)
  refine wpList_mapUpdate_own (H := Unit) w1.drew rfl _ _ _ 155 rfl 9 3 strLaw Tryz.underlying155 _ lb st.labels.length (labD st.labels) rfl h1.lab.drew (by unfold maxLen; omega) (.string nm) (.int .i64 st.l.length) (.string nm.data.toList) rfl rfl (keyOf_string_mk (s := nm) Tryz.underlying9 (by unfold maxLen; omega)) _ _ (plainElem_int Tryz.underlying3 (a := (st.l.length : Int)) (WalkArith.wf_i64 (by omega))) ?_
  intro w3 hown3 hg3'
  have hg3 : w1.grownBy w3 (some lb) := ⟨hg3'.os, hg3'.tape, hg3'.output, hg3'.size, hg3'.block⟩
  have h3 := h1.put_label nm.data.toList (by omega) hhas hown3 hg3
  have hb3 : Below B w w3 := (hb.mono (by have := lt_of_block h.blk; have := h.b1; omega)).grown hg3 (by have := lt_of_block h1.blk; have := h.b1; omega) (fun k e => by injection e with e; have := h.b2; omega)
  have hz3 : w.heap.size ≤ w3.heap.size := Nat.le_trans hb.size hg3.size
  have hk3 : Keep w w3 rb lb nb (.slice ao st.l.length cap) vls := fun g hg hn => (hg3.block g (by have := hb.size; omega) (fun e => hn (.inr (.inl (by injection e))))).trans (hb.block g hg)
  clear hown3 hg3' hg3 c0 c1 c2 c3 c4
  go_wp2
  refine bodyPost_ret (results_none rfl _ _ _) rfl ⟨rfl, h3, hb3, hz3, hk3⟩
end
end Go.Proofs.YtoiokbdipcecnaaGreatDoor
namespace Go.Proofs.YtoiokbdipcecnaaGreatDoor
open Go.RowKit Go.Maps Go.WideMaps
set_option maxRecDepth 100000
section
variable {w : World} {B rb lb nb : Nat} {vl vls : Value} {st : RS} {line : Int}
set_option maxHeartbeats 4000000 in
theorem read_noneA (s0 s nm0 : ByteArray) (i : Int) (op tk : Int) (_hs : s0.size ≤ 65536) (_hz : s.size ≤ 65536) (htrim0 : ∀ w, Calls Tryz.prog 49 #[.string s0, .string ⟨#[32, 9]⟩] w fun e w' => e = .returned (.string s) ∧ Below w.heap.size w w') (hempty : s.toList.isEmpty = false) (hsuf0 : ∀ w, Calls Tryz.prog 128 #[.string s, .string ⟨#[58]⟩] w fun e w' => e = .returned (.tuple #[.string nm0, .bool false]) ∧ w = w') (hany0 : ∀ w, Calls Tryz.prog 131 #[.string s, .string ⟨#[32, 9]⟩] w fun e w' => e = .returned (.int .i64 i) ∧ Below w.heap.size w w') (hi : i < 0) (hop0 : ∀ w, Calls Tryz.prog 132 #[.string s] w fun e w' => e = .returned (.int .i64 op) ∧ Below w.heap.size w w') (htk0 : ∀ w, Calls Tryz.prog 81 #[.int .i64 op] w fun e w' => e = .returned (.int .i64 tk) ∧ Below w.heap.size w w') (o0 : (op == 0) = true) (h : Rd w B rb lb nb vl vls st line) :
    Calls Tryz.prog 96 #[.pointer (some ⟨rb, 0, none⟩), .string s0] w fun e w' => e = fault 153 line ∧ Below w.heap.size w w' := by
  have htrim := Lib.hid htrim0
  clear htrim0
  have hsuf := Lib.hid hsuf0
  clear hsuf0
  have hany := Lib.hid hany0
  clear hany0
  have hop := Lib.hid hop0
  clear hop0
  have htk := Lib.hid htk0
  clear htk0
  go_enter Tryz.func96, Tryz.ntmps96
  go_wp2_with (first | (go_at_call 49; (with_reducible refine (htrim.out _).mono ?_); rintro e w1 ⟨rfl, hB1⟩) | (go_at_call 128; refine (hsuf.out _).mono ?_; rintro e w2 ⟨rfl, rfl⟩) | (go_at_call 131; (with_reducible refine (hany.out _).mono ?_); rintro e w3 ⟨rfl, hb3⟩; have hB3 := (hB1).trans (hb3.mono hB1.size)) | (go_at_call 132; (with_reducible refine (hop.out _).mono ?_); rintro e w5 ⟨rfl, hb5⟩; have hB5 := (hB3).trans (hb5.mono hB3.size)) | (go_at_call 81; (with_reducible refine (htk.out _).mono ?_); rintro e w6 ⟨rfl, hb6⟩; have hB6 := (hB5).trans (hb6.mono hB5.size); have h6 := h.below hB6; obtain ⟨c0, c1, c2, c3, c4⟩ := h6.cells; have hrb := h6.lt (.inl rfl)) | (go_at_call 130; refine (fail_any rb _ line _ (by assumption)).mono ?_; rintro e w2 ⟨rfl, rfl⟩))
  exact ⟨rfl, rfl, hB6⟩
set_option maxHeartbeats 4000000 in
theorem read_lacksA (s0 s nm0 : ByteArray) (i : Int) (op tk : Int) (_hs : s0.size ≤ 65536) (_hz : s.size ≤ 65536) (htrim0 : ∀ w, Calls Tryz.prog 49 #[.string s0, .string ⟨#[32, 9]⟩] w fun e w' => e = .returned (.string s) ∧ Below w.heap.size w w') (hempty : s.toList.isEmpty = false) (hsuf0 : ∀ w, Calls Tryz.prog 128 #[.string s, .string ⟨#[58]⟩] w fun e w' => e = .returned (.tuple #[.string nm0, .bool false]) ∧ w = w') (hany0 : ∀ w, Calls Tryz.prog 131 #[.string s, .string ⟨#[32, 9]⟩] w fun e w' => e = .returned (.int .i64 i) ∧ Below w.heap.size w w') (hi : i < 0) (hop0 : ∀ w, Calls Tryz.prog 132 #[.string s] w fun e w' => e = .returned (.int .i64 op) ∧ Below w.heap.size w w') (htk0 : ∀ w, Calls Tryz.prog 81 #[.int .i64 op] w fun e w' => e = .returned (.int .i64 tk) ∧ Below w.heap.size w w') (o0 : (op == 0) = false) (t0 : (tk == 0) = false) (h : Rd w B rb lb nb vl vls st line) :
    Calls Tryz.prog 96 #[.pointer (some ⟨rb, 0, none⟩), .string s0] w fun e w' => e = fault 153 line ∧ Below w.heap.size w w' := by
  have htrim := Lib.hid htrim0
  clear htrim0
  have hsuf := Lib.hid hsuf0
  clear hsuf0
  have hany := Lib.hid hany0
  clear hany0
  have hop := Lib.hid hop0
  clear hop0
  have htk := Lib.hid htk0
  clear htk0
  go_enter Tryz.func96, Tryz.ntmps96
  go_wp2_with (first | (go_at_call 49; (with_reducible refine (htrim.out _).mono ?_); rintro e w1 ⟨rfl, hB1⟩) | (go_at_call 128; refine (hsuf.out _).mono ?_; rintro e w2 ⟨rfl, rfl⟩) | (go_at_call 131; (with_reducible refine (hany.out _).mono ?_); rintro e w3 ⟨rfl, hb3⟩; have hB3 := (hB1).trans (hb3.mono hB1.size)) | (go_at_call 132; (with_reducible refine (hop.out _).mono ?_); rintro e w5 ⟨rfl, hb5⟩; have hB5 := (hB3).trans (hb5.mono hB3.size)) | (go_at_call 81; (with_reducible refine (htk.out _).mono ?_); rintro e w6 ⟨rfl, hb6⟩; have hB6 := (hB5).trans (hb6.mono hB5.size); have h6 := h.below hB6; obtain ⟨c0, c1, c2, c3, c4⟩ := h6.cells; have hrb := h6.lt (.inl rfl)) | (go_at_call 130; refine (fail_any rb _ line _ (by assumption)).mono ?_; rintro e w2 ⟨rfl, rfl⟩))
  exact ⟨rfl, rfl, hB6⟩
set_option maxHeartbeats 4000000 in
theorem read_noneB (s0 s nm0 rest : ByteArray) (i : Nat) (op tk : Int) (_hs : s0.size ≤ 65536) (_hz : s.size ≤ 65536) (htrim0 : ∀ w, Calls Tryz.prog 49 #[.string s0, .string ⟨#[32, 9]⟩] w fun e w' => e = .returned (.string s) ∧ Below w.heap.size w w') (hempty : s.toList.isEmpty = false) (hsuf0 : ∀ w, Calls Tryz.prog 128 #[.string s, .string ⟨#[58]⟩] w fun e w' => e = .returned (.tuple #[.string nm0, .bool false]) ∧ w = w') (hany0 : ∀ w, Calls Tryz.prog 131 #[.string s, .string ⟨#[32, 9]⟩] w fun e w' => e = .returned (.int .i64 (i : Nat)) ∧ Below w.heap.size w w') (hi : i < s.size) (htrib0 : ∀ w, Calls Tryz.prog 49 #[.string (s.extract i s.size), .string ⟨#[32, 9]⟩] w fun e w' => e = .returned (.string rest) ∧ Below w.heap.size w w') (_hrz : rest.size ≤ 65536) (hop0 : ∀ w, Calls Tryz.prog 132 #[.string (s.extract 0 i)] w fun e w' => e = .returned (.int .i64 op) ∧ Below w.heap.size w w') (htk0 : ∀ w, Calls Tryz.prog 81 #[.int .i64 op] w fun e w' => e = .returned (.int .i64 tk) ∧ Below w.heap.size w w') (o0 : (op == 0) = true) (h : Rd w B rb lb nb vl vls st line) :
    Calls Tryz.prog 96 #[.pointer (some ⟨rb, 0, none⟩), .string s0] w fun e w' => e = fault 153 line ∧ Below w.heap.size w w' := by
  have htrim := Lib.hid htrim0
  clear htrim0
  have hsuf := Lib.hid hsuf0
  clear hsuf0
  have hany := Lib.hid hany0
  clear hany0
  have hop := Lib.hid hop0
  clear hop0
  have htk := Lib.hid htk0
  clear htk0
  have htrib := Lib.hid htrib0
  clear htrib0
  go_enter Tryz.func96, Tryz.ntmps96
  go_upto_region 15 with (first | (go_at_call 49; (with_reducible refine (htrim.out _).mono ?_); rintro e w1 ⟨rfl, hB1⟩) | (go_at_call 128; refine (hsuf.out _).mono ?_; rintro e w2 ⟨rfl, rfl⟩) | (go_at_call 131; (with_reducible refine (hany.out _).mono ?_); rintro e w3 ⟨rfl, hb3⟩; have hB3 := (hB1).trans (hb3.mono hB1.size)) | (go_at_call 49; (with_reducible refine (htrib.out _).mono ?_); rintro e w4 ⟨rfl, hb4⟩; have hB4 := (hB3.drew).trans (hb4.mono hB3.size)) | (go_at_call 132; (with_reducible refine (hop.out _).mono ?_); rintro e w5 ⟨rfl, hb5⟩; have hB5 := (hB4).trans (hb5.mono hB4.size)) | (go_at_call 81; (with_reducible refine (htk.out _).mono ?_); rintro e w6 ⟨rfl, hb6⟩; have hB6 := (hB5).trans (hb6.mono hB5.size); have h6 := h.below hB6; obtain ⟨c0, c1, c2, c3, c4⟩ := h6.cells; have hrb := h6.lt (.inl rfl)) | (go_at_call 130; refine (fail_any rb _ line _ (by assumption)).mono ?_; rintro e w2 ⟨rfl, rfl⟩))
  go_cut [8, 9] (fun v8 v9 wx => v8 = .string (s.extract 0 i) ∧ v9 = .string rest ∧ Below w.heap.size w wx)
  case first =>
    go_region_with (first | (go_at_call 49; (with_reducible refine (htrim.out _).mono ?_); rintro e w1 ⟨rfl, hB1⟩) | (go_at_call 128; refine (hsuf.out _).mono ?_; rintro e w2 ⟨rfl, rfl⟩) | (go_at_call 131; (with_reducible refine (hany.out _).mono ?_); rintro e w3 ⟨rfl, hb3⟩; have hB3 := (hB1).trans (hb3.mono hB1.size)) | (go_at_call 49; (with_reducible refine (htrib.out _).mono ?_); rintro e w4 ⟨rfl, hb4⟩; have hB4 := (hB3.drew).trans (hb4.mono hB3.size)) | (go_at_call 132; (with_reducible refine (hop.out _).mono ?_); rintro e w5 ⟨rfl, hb5⟩; have hB5 := (hB4).trans (hb5.mono hB4.size)) | (go_at_call 81; (with_reducible refine (htk.out _).mono ?_); rintro e w6 ⟨rfl, hb6⟩; have hB6 := (hB5).trans (hb6.mono hB5.size); have h6 := h.below hB6; obtain ⟨c0, c1, c2, c3, c4⟩ := h6.cells; have hrb := h6.lt (.inl rfl)) | (go_at_call 130; refine (fail_any rb _ line _ (by assumption)).mono ?_; rintro e w2 ⟨rfl, rfl⟩))
    all_goals (go_wp2_with fail; go_meet; exact ⟨rfl, rfl, hB4⟩)
  case rest =>
    obtain ⟨rfl, rfl, hB4⟩ := hcut
    go_wp2_with (first | (go_at_call 49; (with_reducible refine (htrim.out _).mono ?_); rintro e w1 ⟨rfl, hB1⟩) | (go_at_call 128; refine (hsuf.out _).mono ?_; rintro e w2 ⟨rfl, rfl⟩) | (go_at_call 131; (with_reducible refine (hany.out _).mono ?_); rintro e w3 ⟨rfl, hb3⟩; have hB3 := (hB1).trans (hb3.mono hB1.size)) | (go_at_call 49; (with_reducible refine (htrib.out _).mono ?_); rintro e w4 ⟨rfl, hb4⟩; have hB4 := (hB3.drew).trans (hb4.mono hB3.size)) | (go_at_call 132; (with_reducible refine (hop.out _).mono ?_); rintro e w5 ⟨rfl, hb5⟩; have hB5 := (hB4).trans (hb5.mono hB4.size)) | (go_at_call 81; (with_reducible refine (htk.out _).mono ?_); rintro e w6 ⟨rfl, hb6⟩; have hB6 := (hB5).trans (hb6.mono hB5.size); have h6 := h.below hB6; obtain ⟨c0, c1, c2, c3, c4⟩ := h6.cells; have hrb := h6.lt (.inl rfl)) | (go_at_call 130; refine (fail_any rb _ line _ (by assumption)).mono ?_; rintro e w2 ⟨rfl, rfl⟩))
    exact ⟨rfl, rfl, hB6⟩
set_option maxHeartbeats 4000000 in
theorem read_moreB (s0 s nm0 rest : ByteArray) (i : Nat) (op tk : Int) (_hs : s0.size ≤ 65536) (_hz : s.size ≤ 65536) (htrim0 : ∀ w, Calls Tryz.prog 49 #[.string s0, .string ⟨#[32, 9]⟩] w fun e w' => e = .returned (.string s) ∧ Below w.heap.size w w') (hempty : s.toList.isEmpty = false) (hsuf0 : ∀ w, Calls Tryz.prog 128 #[.string s, .string ⟨#[58]⟩] w fun e w' => e = .returned (.tuple #[.string nm0, .bool false]) ∧ w = w') (hany0 : ∀ w, Calls Tryz.prog 131 #[.string s, .string ⟨#[32, 9]⟩] w fun e w' => e = .returned (.int .i64 (i : Nat)) ∧ Below w.heap.size w w') (hi : i < s.size) (htrib0 : ∀ w, Calls Tryz.prog 49 #[.string (s.extract i s.size), .string ⟨#[32, 9]⟩] w fun e w' => e = .returned (.string rest) ∧ Below w.heap.size w w') (_hrz : rest.size ≤ 65536) (hop0 : ∀ w, Calls Tryz.prog 132 #[.string (s.extract 0 i)] w fun e w' => e = .returned (.int .i64 op) ∧ Below w.heap.size w w') (htk0 : ∀ w, Calls Tryz.prog 81 #[.int .i64 op] w fun e w' => e = .returned (.int .i64 tk) ∧ Below w.heap.size w w') (o0 : (op == 0) = false) (t0 : (tk == 0) = true) (hr : rest.toList.isEmpty = false) (h : Rd w B rb lb nb vl vls st line) :
    Calls Tryz.prog 96 #[.pointer (some ⟨rb, 0, none⟩), .string s0] w fun e w' => e = fault 153 line ∧ Below w.heap.size w w' := by
  have htrim := Lib.hid htrim0
  clear htrim0
  have hsuf := Lib.hid hsuf0
  clear hsuf0
  have hany := Lib.hid hany0
  clear hany0
  have hop := Lib.hid hop0
  clear hop0
  have htk := Lib.hid htk0
  clear htk0
  have htrib := Lib.hid htrib0
  clear htrib0
  go_enter Tryz.func96, Tryz.ntmps96
  go_upto_region 15 with (first | (go_at_call 49; (with_reducible refine (htrim.out _).mono ?_); rintro e w1 ⟨rfl, hB1⟩) | (go_at_call 128; refine (hsuf.out _).mono ?_; rintro e w2 ⟨rfl, rfl⟩) | (go_at_call 131; (with_reducible refine (hany.out _).mono ?_); rintro e w3 ⟨rfl, hb3⟩; have hB3 := (hB1).trans (hb3.mono hB1.size)) | (go_at_call 49; (with_reducible refine (htrib.out _).mono ?_); rintro e w4 ⟨rfl, hb4⟩; have hB4 := (hB3.drew).trans (hb4.mono hB3.size)) | (go_at_call 132; (with_reducible refine (hop.out _).mono ?_); rintro e w5 ⟨rfl, hb5⟩; have hB5 := (hB4).trans (hb5.mono hB4.size)) | (go_at_call 81; (with_reducible refine (htk.out _).mono ?_); rintro e w6 ⟨rfl, hb6⟩; have hB6 := (hB5).trans (hb6.mono hB5.size); have h6 := h.below hB6; obtain ⟨c0, c1, c2, c3, c4⟩ := h6.cells; have hrb := h6.lt (.inl rfl)) | (go_at_call 130; refine (fail_any rb _ line _ (by assumption)).mono ?_; rintro e w2 ⟨rfl, rfl⟩))
  go_cut [8, 9] (fun v8 v9 wx => v8 = .string (s.extract 0 i) ∧ v9 = .string rest ∧ Below w.heap.size w wx)
  case first =>
    go_region_with (first | (go_at_call 49; (with_reducible refine (htrim.out _).mono ?_); rintro e w1 ⟨rfl, hB1⟩) | (go_at_call 128; refine (hsuf.out _).mono ?_; rintro e w2 ⟨rfl, rfl⟩) | (go_at_call 131; (with_reducible refine (hany.out _).mono ?_); rintro e w3 ⟨rfl, hb3⟩; have hB3 := (hB1).trans (hb3.mono hB1.size)) | (go_at_call 49; (with_reducible refine (htrib.out _).mono ?_); rintro e w4 ⟨rfl, hb4⟩; have hB4 := (hB3.drew).trans (hb4.mono hB3.size)) | (go_at_call 132; (with_reducible refine (hop.out _).mono ?_); rintro e w5 ⟨rfl, hb5⟩; have hB5 := (hB4).trans (hb5.mono hB4.size)) | (go_at_call 81; (with_reducible refine (htk.out _).mono ?_); rintro e w6 ⟨rfl, hb6⟩; have hB6 := (hB5).trans (hb6.mono hB5.size); have h6 := h.below hB6; obtain ⟨c0, c1, c2, c3, c4⟩ := h6.cells; have hrb := h6.lt (.inl rfl)) | (go_at_call 130; refine (fail_any rb _ line _ (by assumption)).mono ?_; rintro e w2 ⟨rfl, rfl⟩))
    all_goals (go_wp2_with fail; go_meet; exact ⟨rfl, rfl, hB4⟩)
  case rest =>
    obtain ⟨rfl, rfl, hB4⟩ := hcut
    go_wp2_with (first | (go_at_call 49; (with_reducible refine (htrim.out _).mono ?_); rintro e w1 ⟨rfl, hB1⟩) | (go_at_call 128; refine (hsuf.out _).mono ?_; rintro e w2 ⟨rfl, rfl⟩) | (go_at_call 131; (with_reducible refine (hany.out _).mono ?_); rintro e w3 ⟨rfl, hb3⟩; have hB3 := (hB1).trans (hb3.mono hB1.size)) | (go_at_call 49; (with_reducible refine (htrib.out _).mono ?_); rintro e w4 ⟨rfl, hb4⟩; have hB4 := (hB3.drew).trans (hb4.mono hB3.size)) | (go_at_call 132; (with_reducible refine (hop.out _).mono ?_); rintro e w5 ⟨rfl, hb5⟩; have hB5 := (hB4).trans (hb5.mono hB4.size)) | (go_at_call 81; (with_reducible refine (htk.out _).mono ?_); rintro e w6 ⟨rfl, hb6⟩; have hB6 := (hB5).trans (hb6.mono hB5.size); have h6 := h.below hB6; obtain ⟨c0, c1, c2, c3, c4⟩ := h6.cells; have hrb := h6.lt (.inl rfl)) | (go_at_call 130; refine (fail_any rb _ line _ (by assumption)).mono ?_; rintro e w2 ⟨rfl, rfl⟩))
    exact ⟨rfl, rfl, hB6⟩
set_option maxHeartbeats 4000000 in
theorem read_lacksB (s0 s nm0 rest : ByteArray) (i : Nat) (op tk : Int) (_hs : s0.size ≤ 65536) (_hz : s.size ≤ 65536) (htrim0 : ∀ w, Calls Tryz.prog 49 #[.string s0, .string ⟨#[32, 9]⟩] w fun e w' => e = .returned (.string s) ∧ Below w.heap.size w w') (hempty : s.toList.isEmpty = false) (hsuf0 : ∀ w, Calls Tryz.prog 128 #[.string s, .string ⟨#[58]⟩] w fun e w' => e = .returned (.tuple #[.string nm0, .bool false]) ∧ w = w') (hany0 : ∀ w, Calls Tryz.prog 131 #[.string s, .string ⟨#[32, 9]⟩] w fun e w' => e = .returned (.int .i64 (i : Nat)) ∧ Below w.heap.size w w') (hi : i < s.size) (htrib0 : ∀ w, Calls Tryz.prog 49 #[.string (s.extract i s.size), .string ⟨#[32, 9]⟩] w fun e w' => e = .returned (.string rest) ∧ Below w.heap.size w w') (_hrz : rest.size ≤ 65536) (hop0 : ∀ w, Calls Tryz.prog 132 #[.string (s.extract 0 i)] w fun e w' => e = .returned (.int .i64 op) ∧ Below w.heap.size w w') (htk0 : ∀ w, Calls Tryz.prog 81 #[.int .i64 op] w fun e w' => e = .returned (.int .i64 tk) ∧ Below w.heap.size w w') (o0 : (op == 0) = false) (t0 : (tk == 0) = false) (hr : rest.toList.isEmpty = true) (h : Rd w B rb lb nb vl vls st line) :
    Calls Tryz.prog 96 #[.pointer (some ⟨rb, 0, none⟩), .string s0] w fun e w' => e = fault 153 line ∧ Below w.heap.size w w' := by
  have htrim := Lib.hid htrim0
  clear htrim0
  have hsuf := Lib.hid hsuf0
  clear hsuf0
  have hany := Lib.hid hany0
  clear hany0
  have hop := Lib.hid hop0
  clear hop0
  have htk := Lib.hid htk0
  clear htk0
  have htrib := Lib.hid htrib0
  clear htrib0
  go_enter Tryz.func96, Tryz.ntmps96
  go_upto_region 15 with (first | (go_at_call 49; (with_reducible refine (htrim.out _).mono ?_); rintro e w1 ⟨rfl, hB1⟩) | (go_at_call 128; refine (hsuf.out _).mono ?_; rintro e w2 ⟨rfl, rfl⟩) | (go_at_call 131; (with_reducible refine (hany.out _).mono ?_); rintro e w3 ⟨rfl, hb3⟩; have hB3 := (hB1).trans (hb3.mono hB1.size)) | (go_at_call 49; (with_reducible refine (htrib.out _).mono ?_); rintro e w4 ⟨rfl, hb4⟩; have hB4 := (hB3.drew).trans (hb4.mono hB3.size)) | (go_at_call 132; (with_reducible refine (hop.out _).mono ?_); rintro e w5 ⟨rfl, hb5⟩; have hB5 := (hB4).trans (hb5.mono hB4.size)) | (go_at_call 81; (with_reducible refine (htk.out _).mono ?_); rintro e w6 ⟨rfl, hb6⟩; have hB6 := (hB5).trans (hb6.mono hB5.size); have h6 := h.below hB6; obtain ⟨c0, c1, c2, c3, c4⟩ := h6.cells; have hrb := h6.lt (.inl rfl)) | (go_at_call 130; refine (fail_any rb _ line _ (by assumption)).mono ?_; rintro e w2 ⟨rfl, rfl⟩))
  go_cut [8, 9] (fun v8 v9 wx => v8 = .string (s.extract 0 i) ∧ v9 = .string rest ∧ Below w.heap.size w wx)
  case first =>
    go_region_with (first | (go_at_call 49; (with_reducible refine (htrim.out _).mono ?_); rintro e w1 ⟨rfl, hB1⟩) | (go_at_call 128; refine (hsuf.out _).mono ?_; rintro e w2 ⟨rfl, rfl⟩) | (go_at_call 131; (with_reducible refine (hany.out _).mono ?_); rintro e w3 ⟨rfl, hb3⟩; have hB3 := (hB1).trans (hb3.mono hB1.size)) | (go_at_call 49; (with_reducible refine (htrib.out _).mono ?_); rintro e w4 ⟨rfl, hb4⟩; have hB4 := (hB3.drew).trans (hb4.mono hB3.size)) | (go_at_call 132; (with_reducible refine (hop.out _).mono ?_); rintro e w5 ⟨rfl, hb5⟩; have hB5 := (hB4).trans (hb5.mono hB4.size)) | (go_at_call 81; (with_reducible refine (htk.out _).mono ?_); rintro e w6 ⟨rfl, hb6⟩; have hB6 := (hB5).trans (hb6.mono hB5.size); have h6 := h.below hB6; obtain ⟨c0, c1, c2, c3, c4⟩ := h6.cells; have hrb := h6.lt (.inl rfl)) | (go_at_call 130; refine (fail_any rb _ line _ (by assumption)).mono ?_; rintro e w2 ⟨rfl, rfl⟩))
    all_goals (go_wp2_with fail; go_meet; exact ⟨rfl, rfl, hB4⟩)
  case rest =>
    obtain ⟨rfl, rfl, hB4⟩ := hcut
    go_wp2_with (first | (go_at_call 49; (with_reducible refine (htrim.out _).mono ?_); rintro e w1 ⟨rfl, hB1⟩) | (go_at_call 128; refine (hsuf.out _).mono ?_; rintro e w2 ⟨rfl, rfl⟩) | (go_at_call 131; (with_reducible refine (hany.out _).mono ?_); rintro e w3 ⟨rfl, hb3⟩; have hB3 := (hB1).trans (hb3.mono hB1.size)) | (go_at_call 49; (with_reducible refine (htrib.out _).mono ?_); rintro e w4 ⟨rfl, hb4⟩; have hB4 := (hB3.drew).trans (hb4.mono hB3.size)) | (go_at_call 132; (with_reducible refine (hop.out _).mono ?_); rintro e w5 ⟨rfl, hb5⟩; have hB5 := (hB4).trans (hb5.mono hB4.size)) | (go_at_call 81; (with_reducible refine (htk.out _).mono ?_); rintro e w6 ⟨rfl, hb6⟩; have hB6 := (hB5).trans (hb6.mono hB5.size); have h6 := h.below hB6; obtain ⟨c0, c1, c2, c3, c4⟩ := h6.cells; have hrb := h6.lt (.inl rfl)) | (go_at_call 130; refine (fail_any rb _ line _ (by assumption)).mono ?_; rintro e w2 ⟨rfl, rfl⟩))
    exact ⟨rfl, rfl, hB6⟩
end
end Go.Proofs.YtoiokbdipcecnaaGreatDoor
