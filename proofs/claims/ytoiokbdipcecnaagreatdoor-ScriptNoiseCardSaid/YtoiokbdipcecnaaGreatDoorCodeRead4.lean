/-
  (*reader).read, walked path by path: a line that is an instruction: one that is read. Condition: the reader's place in memory (Rd), the library's variables (Env), a line of at most 65536 bytes.
  And: (*reader).read, walked path by path: a line that is an instruction: one that is read. Condition: the reader's place in memory (Rd), the library's variables (Env), a line of at most 65536 bytes.
-/
import Derived.Test.YtoiokbdipcecnaaGreatDoorCodeRead2
import Derived.Deep.CutBlock
import Derived.Deep.DeepCutAuto
namespace Go.Proofs.YtoiokbdipcecnaaGreatDoor
open Go.RowKit Go.Maps Go.WideMaps
set_option maxRecDepth 100000
section
variable {w : World} {B rb lb nb : Nat} {vl vls : Value} {st : RS} {line : Int}
theorem two_cells {w : World} {b : Nat} {x y : Value} {t : TypeId} (h : w.heap[b]? = some (.cells #[x, y] t)) : w.cell? ⟨b, 0, none⟩ = some x ∧ w.cell? ⟨b, 1, none⟩ = some y ∧ ∀ k, w.frozen? ⟨b, k, none⟩ = false := by
  refine ⟨?_, ?_, fun k => ?_⟩ <;> simp [World.cell?, World.frozen?, h]
theorem set_second {w : World} {b : Nat} {x y z : Value} {t : TypeId} (h : w.heap[b]? = some (.cells #[x, y] t)) : (w.setCell ⟨b, 1, none⟩ z).heap[b]? = some (.cells #[x, z] t) := by
  rw [heap_setCell_same w b 1 _ _ _ h]; rfl
theorem add_none (g j : Nat) : (⟨g, 0, none⟩ : Addr).add j = ⟨g, j, none⟩ := by unfold Addr.add; split <;> simp_all
theorem news_two (w : World) (x y : Value) (t : TypeId) : ∀ (j : Nat) u, [x, y][j]? = some u → (w.alloc (.cells #[x, y] t)).cell? ((⟨w.heap.size, 0, none⟩ : Addr).add j) = some u := by
  intro j u hj
  rw [add_none, cell_of_row _ _ _ _ _ _ (heap_alloc_new w _)]
  simpa using hj
theorem news_one (w : World) (x : Value) (t : TypeId) : ∀ (j : Nat) u, [x][j]? = some u → (w.alloc (.cells #[x] t)).cell? ((⟨w.heap.size, 0, none⟩ : Addr).add j) = some u := by
  intro j u hj
  rw [add_none, cell_of_row _ _ _ _ _ _ (heap_alloc_new w _)]
  simpa using hj
set_option maxHeartbeats 4000000 in
theorem read_badB (s0 s nm0 rest : ByteArray) (i : Nat) (op tk : Int) (_hs : s0.size ≤ 65536) (_hz : s.size ≤ 65536) (htrim0 : ∀ w, Calls Tryz.prog 49 #[.string s0, .string ⟨#[32, 9]⟩] w fun e w' => e = .returned (.string s) ∧ Below w.heap.size w w') (hempty : s.toList.isEmpty = false) (hsuf0 : ∀ w, Calls Tryz.prog 128 #[.string s, .string ⟨#[58]⟩] w fun e w' => e = .returned (.tuple #[.string nm0, .bool false]) ∧ w = w') (hany0 : ∀ w, Calls Tryz.prog 131 #[.string s, .string ⟨#[32, 9]⟩] w fun e w' => e = .returned (.int .i64 (i : Nat)) ∧ Below w.heap.size w w') (hi : i < s.size) (htrib0 : ∀ w, Calls Tryz.prog 49 #[.string (s.extract i s.size), .string ⟨#[32, 9]⟩] w fun e w' => e = .returned (.string rest) ∧ Below w.heap.size w w') (hrz : rest.size ≤ 65536) (hop0 : ∀ w, Calls Tryz.prog 132 #[.string (s.extract 0 i)] w fun e w' => e = .returned (.int .i64 op) ∧ Below w.heap.size w w') (htk0 : ∀ w, Calls Tryz.prog 81 #[.int .i64 op] w fun e w' => e = .returned (.int .i64 tk) ∧ Below w.heap.size w w') (o0 : (op == 0) = false) (t0 : (tk == 0) = false) (hr : rest.toList.isEmpty = false) (he : Env w) (_hn3 : st.named.length ≤ 400) (ho : operandS st tk rest.data.toList = none) (h : Rd w B rb lb nb vl vls st line) :
    Calls Tryz.prog 96 #[.pointer (some ⟨rb, 0, none⟩), .string s0] w fun e w' => e = fault 153 line ∧ Below w.heap.size w w' := by
  have htrim := Lib.hid htrim0
  clear htrim0
  have hsuf := Lib.hid hsuf0
  clear hsuf0
  have hany := Lib.hid hany0
  clear hany0
  have hop := Lib.hid hop0
  clear hop0
  have htk := Lib.hid htk0
  clear htk0
  have htrib := Lib.hid htrib0
  clear htrib0
  go_enter Tryz.func96, Tryz.ntmps96
  go_upto_region 15 with (first | (go_at_call 49; (with_reducible refine (htrim.out _).mono ?_); rintro e w1 ⟨rfl, hB1⟩) | (go_at_call 128; refine (hsuf.out _).mono ?_; rintro e w2 ⟨rfl, rfl⟩) | (go_at_call 131; (with_reducible refine (hany.out _).mono ?_); rintro e w3 ⟨rfl, hb3⟩; have hB3 := (hB1).trans (hb3.mono hB1.size)) | (go_at_call 49; (with_reducible refine (htrib.out _).mono ?_); rintro e w4 ⟨rfl, hb4⟩; have hB4 := (hB3.drew).trans (hb4.mono hB3.size)) | (go_at_call 132; (with_reducible refine (hop.out _).mono ?_); rintro e w5 ⟨rfl, hb5⟩; have hB5 := (hB4).trans (hb5.mono hB4.size)) | (go_at_call 81; (with_reducible refine (htk.out _).mono ?_); rintro e w6 ⟨rfl, hb6⟩; have hB6 := (hB5).trans (hb6.mono hB5.size); have h6 := h.below hB6; obtain ⟨c0, c1, c2, c3, c4⟩ := h6.cells; have hrb := h6.lt (.inl rfl)) | (go_at_call 133; refine (operand_fails rest tk hrz (he.below (Below.alloc hB6 (by have := hB6.size; omega) (.cells #[.int .i64 op, .int .i64 0] 82))) (h6.below (Below.alloc (Below.refl _ _) (Nat.le_refl _) _)) ho).mono ?_; rintro e w7 ⟨rfl, hb7⟩; simp only [fault]))
  go_cut [8, 9] (fun v8 v9 wx => v8 = .string (s.extract 0 i) ∧ v9 = .string rest ∧ Below w.heap.size w wx)
  case first =>
    go_region_with (first | (go_at_call 49; (with_reducible refine (htrim.out _).mono ?_); rintro e w1 ⟨rfl, hB1⟩) | (go_at_call 128; refine (hsuf.out _).mono ?_; rintro e w2 ⟨rfl, rfl⟩) | (go_at_call 131; (with_reducible refine (hany.out _).mono ?_); rintro e w3 ⟨rfl, hb3⟩; have hB3 := (hB1).trans (hb3.mono hB1.size)) | (go_at_call 49; (with_reducible refine (htrib.out _).mono ?_); rintro e w4 ⟨rfl, hb4⟩; have hB4 := (hB3.drew).trans (hb4.mono hB3.size)) | (go_at_call 132; (with_reducible refine (hop.out _).mono ?_); rintro e w5 ⟨rfl, hb5⟩; have hB5 := (hB4).trans (hb5.mono hB4.size)) | (go_at_call 81; (with_reducible refine (htk.out _).mono ?_); rintro e w6 ⟨rfl, hb6⟩; have hB6 := (hB5).trans (hb6.mono hB5.size); have h6 := h.below hB6; obtain ⟨c0, c1, c2, c3, c4⟩ := h6.cells; have hrb := h6.lt (.inl rfl)) | (go_at_call 133; refine (operand_fails rest tk hrz (he.below (Below.alloc hB6 (by have := hB6.size; omega) (.cells #[.int .i64 op, .int .i64 0] 82))) (h6.below (Below.alloc (Below.refl _ _) (Nat.le_refl _) _)) ho).mono ?_; rintro e w7 ⟨rfl, hb7⟩; simp only [fault]))
    all_goals (go_wp2_with fail; go_meet; exact ⟨rfl, rfl, hB4⟩)
  case rest =>
    obtain ⟨rfl, rfl, hB4⟩ := hcut
    go_wp2_with (first | (go_at_call 49; (with_reducible refine (htrim.out _).mono ?_); rintro e w1 ⟨rfl, hB1⟩) | (go_at_call 128; refine (hsuf.out _).mono ?_; rintro e w2 ⟨rfl, rfl⟩) | (go_at_call 131; (with_reducible refine (hany.out _).mono ?_); rintro e w3 ⟨rfl, hb3⟩; have hB3 := (hB1).trans (hb3.mono hB1.size)) | (go_at_call 49; (with_reducible refine (htrib.out _).mono ?_); rintro e w4 ⟨rfl, hb4⟩; have hB4 := (hB3.drew).trans (hb4.mono hB3.size)) | (go_at_call 132; (with_reducible refine (hop.out _).mono ?_); rintro e w5 ⟨rfl, hb5⟩; have hB5 := (hB4).trans (hb5.mono hB4.size)) | (go_at_call 81; (with_reducible refine (htk.out _).mono ?_); rintro e w6 ⟨rfl, hb6⟩; have hB6 := (hB5).trans (hb6.mono hB5.size); have h6 := h.below hB6; obtain ⟨c0, c1, c2, c3, c4⟩ := h6.cells; have hrb := h6.lt (.inl rfl)) | (go_at_call 133; refine (operand_fails rest tk hrz (he.below (Below.alloc hB6 (by have := hB6.size; omega) (.cells #[.int .i64 op, .int .i64 0] 82))) (h6.below (Below.alloc (Below.refl _ _) (Nat.le_refl _) _)) ho).mono ?_; rintro e w7 ⟨rfl, hb7⟩; simp only [fault]))
    exact ⟨rfl, rfl, hB6.trans ((Below.alloc (Below.refl w6.heap.size w6) (Nat.le_refl _) _).trans (hb7.mono (by simp)) |>.mono hB6.size)⟩
set_option maxHeartbeats 4000000 in
theorem read_full0A (s0 s nm0 : ByteArray) (i : Int) (op tk : Int) (_hs : s0.size ≤ 65536) (_hz : s.size ≤ 65536) (htrim0 : ∀ w, Calls Tryz.prog 49 #[.string s0, .string ⟨#[32, 9]⟩] w fun e w' => e = .returned (.string s) ∧ Below w.heap.size w w') (hempty : s.toList.isEmpty = false) (hsuf0 : ∀ w, Calls Tryz.prog 128 #[.string s, .string ⟨#[58]⟩] w fun e w' => e = .returned (.tuple #[.string nm0, .bool false]) ∧ w = w') (hany0 : ∀ w, Calls Tryz.prog 131 #[.string s, .string ⟨#[32, 9]⟩] w fun e w' => e = .returned (.int .i64 i) ∧ Below w.heap.size w w') (hi : i < 0) (hop0 : ∀ w, Calls Tryz.prog 132 #[.string s] w fun e w' => e = .returned (.int .i64 op) ∧ Below w.heap.size w w') (htk0 : ∀ w, Calls Tryz.prog 81 #[.int .i64 op] w fun e w' => e = .returned (.int .i64 tk) ∧ Below w.heap.size w w') (o0 : (op == 0) = false) (t0 : (tk == 0) = true) (hl : st.l.length = 400) (h : Rd w B rb lb nb vl vls st line) :
    Calls Tryz.prog 96 #[.pointer (some ⟨rb, 0, none⟩), .string s0] w fun e w' => e = fault 150 line ∧ Below B w w' ∧ w.heap.size ≤ w'.heap.size := by
  have htrim := Lib.hid htrim0
  clear htrim0
  have hsuf := Lib.hid hsuf0
  clear hsuf0
  have hany := Lib.hid hany0
  clear hany0
  have hop := Lib.hid hop0
  clear hop0
  have htk := Lib.hid htk0
  clear htk0
  go_enter Tryz.func96, Tryz.ntmps96
  go_upto_region 23 with (first | (go_at_call 49; (with_reducible refine (htrim.out _).mono ?_); rintro e w1 ⟨rfl, hB1⟩) | (go_at_call 128; refine (hsuf.out _).mono ?_; rintro e w2 ⟨rfl, rfl⟩) | (go_at_call 131; (with_reducible refine (hany.out _).mono ?_); rintro e w3 ⟨rfl, hb3⟩; have hB3 := (hB1).trans (hb3.mono hB1.size)) | (go_at_call 132; (with_reducible refine (hop.out _).mono ?_); rintro e w5 ⟨rfl, hb5⟩; have hB5 := (hB3).trans (hb5.mono hB3.size)) | (go_at_call 81; (with_reducible refine (htk.out _).mono ?_); rintro e w6 ⟨rfl, hb6⟩; have hB6 := (hB5).trans (hb6.mono hB5.size); have h6 := h.below hB6; obtain ⟨c0, c1, c2, c3, c4⟩ := h6.cells; have hrb := h6.lt (.inl rfl)))
  refine wp_gen (fun W => Rd W B rb lb nb vl vls { st with named := st.named } line ∧ W.heap[w6.heap.size]? = some (.cells #[.int .i64 op, .int .i64 0] 82) ∧ Below B w W ∧ w.heap.size ≤ W.heap.size ∧ Keep w W rb lb nb vl vls) ⟨h6.below (Below.alloc (Below.refl _ _) (Nat.le_refl _) _), heap_alloc_new w6 _, ((hB6.mono (by have := lt_of_block h.blk; have := h.b1; omega)).alloc (by have := lt_of_block h6.blk; have := h6.b1; omega) _), by have := hB6.size; simp; omega, fun g hg _ => (Below.heap_alloc w6 _ g (by have := hB6.size; omega)).trans (hB6.block g hg)⟩ ?_
  generalize w6.heap.size = xb
  rintro W ⟨hR, hx, hBW, hzW, hKW⟩
  clear c0 c1 c2 c3 c4 h6
  obtain ⟨ao, cap, hvl⟩ := (vl_form hR).1
  subst hvl
  obtain ⟨c0, c1, c2, c3, c4⟩ := hR.cells
  have hful : ((st.l.length : Int) == 400) = true := by rw [hl]; rfl
  clear hl
  go_wp2_with (go_at_call 130; refine (fail_any rb _ line _ (by assumption)).mono ?_; rintro e w2 ⟨rfl, rfl⟩)
  exact ⟨rfl, rfl, hBW, hzW⟩
set_option maxHeartbeats 4000000 in
theorem read_full0B (s0 s nm0 rest : ByteArray) (i : Nat) (op tk : Int) (_hs : s0.size ≤ 65536) (_hz : s.size ≤ 65536) (htrim0 : ∀ w, Calls Tryz.prog 49 #[.string s0, .string ⟨#[32, 9]⟩] w fun e w' => e = .returned (.string s) ∧ Below w.heap.size w w') (hempty : s.toList.isEmpty = false) (hsuf0 : ∀ w, Calls Tryz.prog 128 #[.string s, .string ⟨#[58]⟩] w fun e w' => e = .returned (.tuple #[.string nm0, .bool false]) ∧ w = w') (hany0 : ∀ w, Calls Tryz.prog 131 #[.string s, .string ⟨#[32, 9]⟩] w fun e w' => e = .returned (.int .i64 (i : Nat)) ∧ Below w.heap.size w w') (hi : i < s.size) (htrib0 : ∀ w, Calls Tryz.prog 49 #[.string (s.extract i s.size), .string ⟨#[32, 9]⟩] w fun e w' => e = .returned (.string rest) ∧ Below w.heap.size w w') (_hrz : rest.size ≤ 65536) (hop0 : ∀ w, Calls Tryz.prog 132 #[.string (s.extract 0 i)] w fun e w' => e = .returned (.int .i64 op) ∧ Below w.heap.size w w') (htk0 : ∀ w, Calls Tryz.prog 81 #[.int .i64 op] w fun e w' => e = .returned (.int .i64 tk) ∧ Below w.heap.size w w') (o0 : (op == 0) = false) (t0 : (tk == 0) = true) (hr : rest.toList.isEmpty = true) (hl : st.l.length = 400) (h : Rd w B rb lb nb vl vls st line) :
    Calls Tryz.prog 96 #[.pointer (some ⟨rb, 0, none⟩), .string s0] w fun e w' => e = fault 150 line ∧ Below B w w' ∧ w.heap.size ≤ w'.heap.size := by
  have htrim := Lib.hid htrim0
  clear htrim0
  have hsuf := Lib.hid hsuf0
  clear hsuf0
  have hany := Lib.hid hany0
  clear hany0
  have hop := Lib.hid hop0
  clear hop0
  have htk := Lib.hid htk0
  clear htk0
  have htrib := Lib.hid htrib0
  clear htrib0
  go_enter Tryz.func96, Tryz.ntmps96
  go_upto_region 15 with (first | (go_at_call 49; (with_reducible refine (htrim.out _).mono ?_); rintro e w1 ⟨rfl, hB1⟩) | (go_at_call 128; refine (hsuf.out _).mono ?_; rintro e w2 ⟨rfl, rfl⟩) | (go_at_call 131; (with_reducible refine (hany.out _).mono ?_); rintro e w3 ⟨rfl, hb3⟩; have hB3 := (hB1).trans (hb3.mono hB1.size)) | (go_at_call 49; (with_reducible refine (htrib.out _).mono ?_); rintro e w4 ⟨rfl, hb4⟩; have hB4 := (hB3.drew).trans (hb4.mono hB3.size)) | (go_at_call 132; (with_reducible refine (hop.out _).mono ?_); rintro e w5 ⟨rfl, hb5⟩; have hB5 := (hB4).trans (hb5.mono hB4.size)) | (go_at_call 81; (with_reducible refine (htk.out _).mono ?_); rintro e w6 ⟨rfl, hb6⟩; have hB6 := (hB5).trans (hb6.mono hB5.size); have h6 := h.below hB6; obtain ⟨c0, c1, c2, c3, c4⟩ := h6.cells; have hrb := h6.lt (.inl rfl)))
  go_cut [8, 9] (fun v8 v9 wx => v8 = .string (s.extract 0 i) ∧ v9 = .string rest ∧ Below w.heap.size w wx)
  case first =>
    go_region_with (first | (go_at_call 49; (with_reducible refine (htrim.out _).mono ?_); rintro e w1 ⟨rfl, hB1⟩) | (go_at_call 128; refine (hsuf.out _).mono ?_; rintro e w2 ⟨rfl, rfl⟩) | (go_at_call 131; (with_reducible refine (hany.out _).mono ?_); rintro e w3 ⟨rfl, hb3⟩; have hB3 := (hB1).trans (hb3.mono hB1.size)) | (go_at_call 49; (with_reducible refine (htrib.out _).mono ?_); rintro e w4 ⟨rfl, hb4⟩; have hB4 := (hB3.drew).trans (hb4.mono hB3.size)) | (go_at_call 132; (with_reducible refine (hop.out _).mono ?_); rintro e w5 ⟨rfl, hb5⟩; have hB5 := (hB4).trans (hb5.mono hB4.size)) | (go_at_call 81; (with_reducible refine (htk.out _).mono ?_); rintro e w6 ⟨rfl, hb6⟩; have hB6 := (hB5).trans (hb6.mono hB5.size); have h6 := h.below hB6; obtain ⟨c0, c1, c2, c3, c4⟩ := h6.cells; have hrb := h6.lt (.inl rfl)))
    all_goals (go_wp2_with fail; go_meet; exact ⟨rfl, rfl, hB4⟩)
  case rest =>
    obtain ⟨rfl, rfl, hB4⟩ := hcut
    go_upto_region 23 with (first | (go_at_call 49; (with_reducible refine (htrim.out _).mono ?_); rintro e w1 ⟨rfl, hB1⟩) | (go_at_call 128; refine (hsuf.out _).mono ?_; rintro e w2 ⟨rfl, rfl⟩) | (go_at_call 131; (with_reducible refine (hany.out _).mono ?_); rintro e w3 ⟨rfl, hb3⟩; have hB3 := (hB1).trans (hb3.mono hB1.size)) | (go_at_call 49; (with_reducible refine (htrib.out _).mono ?_); rintro e w4 ⟨rfl, hb4⟩; have hB4 := (hB3.drew).trans (hb4.mono hB3.size)) | (go_at_call 132; (with_reducible refine (hop.out _).mono ?_); rintro e w5 ⟨rfl, hb5⟩; have hB5 := (hB4).trans (hb5.mono hB4.size)) | (go_at_call 81; (with_reducible refine (htk.out _).mono ?_); rintro e w6 ⟨rfl, hb6⟩; have hB6 := (hB5).trans (hb6.mono hB5.size); have h6 := h.below hB6; obtain ⟨c0, c1, c2, c3, c4⟩ := h6.cells; have hrb := h6.lt (.inl rfl)))
    refine wp_gen (fun W => Rd W B rb lb nb vl vls { st with named := st.named } line ∧ W.heap[w6.heap.size]? = some (.cells #[.int .i64 op, .int .i64 0] 82) ∧ Below B w W ∧ w.heap.size ≤ W.heap.size ∧ Keep w W rb lb nb vl vls) ⟨h6.below (Below.alloc (Below.refl _ _) (Nat.le_refl _) _), heap_alloc_new w6 _, ((hB6.mono (by have := lt_of_block h.blk; have := h.b1; omega)).alloc (by have := lt_of_block h6.blk; have := h6.b1; omega) _), by have := hB6.size; simp; omega, fun g hg _ => (Below.heap_alloc w6 _ g (by have := hB6.size; omega)).trans (hB6.block g hg)⟩ ?_
    generalize w6.heap.size = xb
    rintro W ⟨hR, hx, hBW, hzW, hKW⟩
    clear c0 c1 c2 c3 c4 h6
    obtain ⟨ao, cap, hvl⟩ := (vl_form hR).1
    subst hvl
    obtain ⟨c0, c1, c2, c3, c4⟩ := hR.cells
    have hful : ((st.l.length : Int) == 400) = true := by rw [hl]; rfl
    clear hl
    go_wp2_with (go_at_call 130; refine (fail_any rb _ line _ (by assumption)).mono ?_; rintro e w2 ⟨rfl, rfl⟩)
    exact ⟨rfl, rfl, hBW, hzW⟩
set_option maxHeartbeats 4000000 in
theorem read_fullnB (s0 s nm0 rest : ByteArray) (i : Nat) (op tk a : Int) (nm : List (Nat × List UInt8)) (_hs : s0.size ≤ 65536) (_hz : s.size ≤ 65536) (htrim0 : ∀ w, Calls Tryz.prog 49 #[.string s0, .string ⟨#[32, 9]⟩] w fun e w' => e = .returned (.string s) ∧ Below w.heap.size w w') (hempty : s.toList.isEmpty = false) (hsuf0 : ∀ w, Calls Tryz.prog 128 #[.string s, .string ⟨#[58]⟩] w fun e w' => e = .returned (.tuple #[.string nm0, .bool false]) ∧ w = w') (hany0 : ∀ w, Calls Tryz.prog 131 #[.string s, .string ⟨#[32, 9]⟩] w fun e w' => e = .returned (.int .i64 (i : Nat)) ∧ Below w.heap.size w w') (hi : i < s.size) (htrib0 : ∀ w, Calls Tryz.prog 49 #[.string (s.extract i s.size), .string ⟨#[32, 9]⟩] w fun e w' => e = .returned (.string rest) ∧ Below w.heap.size w w') (hrz : rest.size ≤ 65536) (hop0 : ∀ w, Calls Tryz.prog 132 #[.string (s.extract 0 i)] w fun e w' => e = .returned (.int .i64 op) ∧ Below w.heap.size w w') (htk0 : ∀ w, Calls Tryz.prog 81 #[.int .i64 op] w fun e w' => e = .returned (.int .i64 tk) ∧ Below w.heap.size w w') (o0 : (op == 0) = false) (t0 : (tk == 0) = false) (hr : rest.toList.isEmpty = false) (he : Env w) (hn3 : st.named.length ≤ 400) (hl : st.l.length = 400) (ho : operandS st tk rest.data.toList = some (a, nm)) (h : Rd w B rb lb nb vl vls st line) :
    Calls Tryz.prog 96 #[.pointer (some ⟨rb, 0, none⟩), .string s0] w fun e w' => e = fault 150 line ∧ Below B w w' ∧ w.heap.size ≤ w'.heap.size := by
  have htrim := Lib.hid htrim0
  clear htrim0
  have hsuf := Lib.hid hsuf0
  clear hsuf0
  have hany := Lib.hid hany0
  clear hany0
  have hop := Lib.hid hop0
  clear hop0
  have htk := Lib.hid htk0
  clear htk0
  have htrib := Lib.hid htrib0
  clear htrib0
  go_enter Tryz.func96, Tryz.ntmps96
  go_upto_region 15 with (first | (go_at_call 49; (with_reducible refine (htrim.out _).mono ?_); rintro e w1 ⟨rfl, hB1⟩) | (go_at_call 128; refine (hsuf.out _).mono ?_; rintro e w2 ⟨rfl, rfl⟩) | (go_at_call 131; (with_reducible refine (hany.out _).mono ?_); rintro e w3 ⟨rfl, hb3⟩; have hB3 := (hB1).trans (hb3.mono hB1.size)) | (go_at_call 49; (with_reducible refine (htrib.out _).mono ?_); rintro e w4 ⟨rfl, hb4⟩; have hB4 := (hB3.drew).trans (hb4.mono hB3.size)) | (go_at_call 132; (with_reducible refine (hop.out _).mono ?_); rintro e w5 ⟨rfl, hb5⟩; have hB5 := (hB4).trans (hb5.mono hB4.size)) | (go_at_call 81; (with_reducible refine (htk.out _).mono ?_); rintro e w6 ⟨rfl, hb6⟩; have hB6 := (hB5).trans (hb6.mono hB5.size); have h6 := h.below hB6; obtain ⟨c0, c1, c2, c3, c4⟩ := h6.cells; have hrb := h6.lt (.inl rfl)) | (go_at_call 133; refine (operand_ok rest tk a nm hrz (he.below (Below.alloc hB6 (by have := hB6.size; omega) (.cells #[.int .i64 op, .int .i64 0] 82))) (h6.below (Below.alloc (Below.refl _ _) (Nat.le_refl _) _)) hn3 ho).mono ?_; rintro e w7 ⟨rfl, h7, hb7, hz7, hk7⟩; have hx7 := (hk7 w6.heap.size (by simp) (by have := h6.lt (.inr (.inr (.inl rfl))); omega)).trans (heap_alloc_new w6 _); have hHK := Lib.hid hk7; clear hk7; obtain ⟨x0, x1, xf⟩ := two_cells hx7; have hH7 := Lib.hid hx7; clear hx7))
  go_cut [8, 9] (fun v8 v9 wx => v8 = .string (s.extract 0 i) ∧ v9 = .string rest ∧ Below w.heap.size w wx)
  case first =>
    go_region_with (first | (go_at_call 49; (with_reducible refine (htrim.out _).mono ?_); rintro e w1 ⟨rfl, hB1⟩) | (go_at_call 128; refine (hsuf.out _).mono ?_; rintro e w2 ⟨rfl, rfl⟩) | (go_at_call 131; (with_reducible refine (hany.out _).mono ?_); rintro e w3 ⟨rfl, hb3⟩; have hB3 := (hB1).trans (hb3.mono hB1.size)) | (go_at_call 49; (with_reducible refine (htrib.out _).mono ?_); rintro e w4 ⟨rfl, hb4⟩; have hB4 := (hB3.drew).trans (hb4.mono hB3.size)) | (go_at_call 132; (with_reducible refine (hop.out _).mono ?_); rintro e w5 ⟨rfl, hb5⟩; have hB5 := (hB4).trans (hb5.mono hB4.size)) | (go_at_call 81; (with_reducible refine (htk.out _).mono ?_); rintro e w6 ⟨rfl, hb6⟩; have hB6 := (hB5).trans (hb6.mono hB5.size); have h6 := h.below hB6; obtain ⟨c0, c1, c2, c3, c4⟩ := h6.cells; have hrb := h6.lt (.inl rfl)) | (go_at_call 133; refine (operand_ok rest tk a nm hrz (he.below (Below.alloc hB6 (by have := hB6.size; omega) (.cells #[.int .i64 op, .int .i64 0] 82))) (h6.below (Below.alloc (Below.refl _ _) (Nat.le_refl _) _)) hn3 ho).mono ?_; rintro e w7 ⟨rfl, h7, hb7, hz7, hk7⟩; have hx7 := (hk7 w6.heap.size (by simp) (by have := h6.lt (.inr (.inr (.inl rfl))); omega)).trans (heap_alloc_new w6 _); have hHK := Lib.hid hk7; clear hk7; obtain ⟨x0, x1, xf⟩ := two_cells hx7; have hH7 := Lib.hid hx7; clear hx7))
    all_goals (go_wp2_with fail; go_meet; exact ⟨rfl, rfl, hB4⟩)
  case rest =>
    obtain ⟨rfl, rfl, hB4⟩ := hcut
    go_upto_region 23 with (first | (go_at_call 49; (with_reducible refine (htrim.out _).mono ?_); rintro e w1 ⟨rfl, hB1⟩) | (go_at_call 128; refine (hsuf.out _).mono ?_; rintro e w2 ⟨rfl, rfl⟩) | (go_at_call 131; (with_reducible refine (hany.out _).mono ?_); rintro e w3 ⟨rfl, hb3⟩; have hB3 := (hB1).trans (hb3.mono hB1.size)) | (go_at_call 49; (with_reducible refine (htrib.out _).mono ?_); rintro e w4 ⟨rfl, hb4⟩; have hB4 := (hB3.drew).trans (hb4.mono hB3.size)) | (go_at_call 132; (with_reducible refine (hop.out _).mono ?_); rintro e w5 ⟨rfl, hb5⟩; have hB5 := (hB4).trans (hb5.mono hB4.size)) | (go_at_call 81; (with_reducible refine (htk.out _).mono ?_); rintro e w6 ⟨rfl, hb6⟩; have hB6 := (hB5).trans (hb6.mono hB5.size); have h6 := h.below hB6; obtain ⟨c0, c1, c2, c3, c4⟩ := h6.cells; have hrb := h6.lt (.inl rfl)) | (go_at_call 133; refine (operand_ok rest tk a nm hrz (he.below (Below.alloc hB6 (by have := hB6.size; omega) (.cells #[.int .i64 op, .int .i64 0] 82))) (h6.below (Below.alloc (Below.refl _ _) (Nat.le_refl _) _)) hn3 ho).mono ?_; rintro e w7 ⟨rfl, h7, hb7, hz7, hk7⟩; have hx7 := (hk7 w6.heap.size (by simp) (by have := h6.lt (.inr (.inr (.inl rfl))); omega)).trans (heap_alloc_new w6 _); have hHK := Lib.hid hk7; clear hk7; obtain ⟨x0, x1, xf⟩ := two_cells hx7; have hH7 := Lib.hid hx7; clear hx7))
    refine wp_gen (fun W => Rd W B rb lb nb vl vls { st with named := nm } line ∧ W.heap[w6.heap.size]? = some (.cells #[.int .i64 op, .int .i64 a] 82) ∧ Below B w W ∧ w.heap.size ≤ W.heap.size ∧ Keep w W rb lb nb vl vls) ⟨h7.same (fun g hg => heap_setCell_other _ _ _ _ (by have := h6.lt hg; show g ≠ w6.heap.size; omega)), set_second hH7.out, ((((hB6.mono (by have := lt_of_block h.blk; have := h.b1; omega)).alloc (by have := lt_of_block h6.blk; have := h6.b1; omega) _).trans hb7).setCell (p := ⟨w6.heap.size, 1, none⟩) (by have := lt_of_block h6.blk; have := h6.b1; show B ≤ w6.heap.size; omega) _), by have := hB6.size; simp at hz7; simp; omega, fun g hg hn => (heap_setCell_other _ _ _ _ (by have := hB6.size; show g ≠ w6.heap.size; omega)).trans ((hHK.out g (by have := hB6.size; simp; omega) (fun e => hn (.inr (.inr (.inl e))))).trans ((Below.heap_alloc w6 _ g (by have := hB6.size; omega)).trans (hB6.block g hg)))⟩ ?_
    generalize w6.heap.size = xb
    rintro W ⟨hR, hx, hBW, hzW, hKW⟩
    clear c0 c1 c2 c3 c4 h6 x0 x1 xf
    obtain ⟨ao, cap, hvl⟩ := (vl_form hR).1
    subst hvl
    obtain ⟨c0, c1, c2, c3, c4⟩ := hR.cells
    have hful : ((st.l.length : Int) == 400) = true := by rw [hl]; rfl
    clear hl
    go_wp2_with (go_at_call 130; refine (fail_any rb _ line _ (by assumption)).mono ?_; rintro e w2 ⟨rfl, rfl⟩)
    exact ⟨rfl, rfl, hBW, hzW⟩
end
end Go.Proofs.YtoiokbdipcecnaaGreatDoor
namespace Go.Proofs.YtoiokbdipcecnaaGreatDoor
open Go.RowKit Go.Maps Go.WideMaps
set_option maxRecDepth 100000
section
variable {w : World} {B rb lb nb : Nat} {vl vls : Value} {st : RS} {line : Int}
theorem info82 : (Tryz.prog.info? 82).map (fun i => (i.zero, i.size, i.bytes)) = some (some (.agg #[.int .i64 0, .int .i64 0]), 2, 16) := by kernel_rfl
theorem info3 : (Tryz.prog.info? 3).map (fun i => (i.zero, i.size, i.bytes)) = some (some (.int .i64 0), 1, 8) := by kernel_rfl
theorem grow_keep {W w2 : World} {O : Obj} {row : Option Nat} (hg : (W.alloc O).drew.grownBy w2 row) (g : Nat) (h : g < W.heap.size) (hne : some g ≠ row) : w2.heap[g]? = W.heap[g]? :=
  (hg.block g (by show g < (W.alloc O).heap.size; simp; omega) hne).trans (Below.heap_alloc W O g h)
theorem own_base {w : World} {base : Nat} {e : TypeId} {size n : Nat} {v : Value} {xs : List Value} (h : w.ownsRow base e size v n xs) {g : Nat} (hg : some g = v.ownBlock) : base ≤ g := by
  rcases h.2 with ⟨hv, _⟩ | ⟨g', cap, cur, hv, hb, _⟩
  · rw [hv] at hg; cases hg
  · rw [hv] at hg
    have e1 : g = g' := by simpa [Value.ownBlock] using hg
    omega
theorem Rd.push1 {W w2 : World} {v' : Value} {x y : Int} (h : Rd W B rb lb nb vl vls st line) (hl : st.l.length < 400)
    (hown : w2.ownsRow B 82 2 v' (st.l.length + 1) (instrCells st.l ++ [.int .i64 x, .int .i64 y])) (hk : ∀ g, g < W.heap.size → some g ≠ vl.ownBlock → w2.heap[g]? = W.heap[g]?) :
    Rd (w2.setCell ⟨rb, 0, none⟩ v') B rb lb nb v' vls { st with l := st.l ++ [(x, y)] } line := by
  have ne : ∀ g o, W.heap[g]? = some o → (∀ cur : Array Value, o ≠ Obj.cells cur 82) → w2.heap[g]? = some o := fun g o ho hne => by
    rw [hk g (lt_of_block ho) (fun e => ?_)]
    · exact ho
    · obtain ⟨cur, hc⟩ := own_block h.own e.symm
      rw [ho] at hc; injection hc with hc
      exact hne _ hc
  have hrb := ne rb _ h.blk (fun cur e => by injection e with _ e2 _; exact absurd e2 (by decide))
  have off : ∀ g, g ≠ rb → (w2.setCell ⟨rb, 0, none⟩ v').heap[g]? = w2.heap[g]? := fun g hg => heap_setCell_other _ _ _ _ hg
  obtain ⟨e1, c1, m1⟩ := map_block h.lab
  obtain ⟨e2, c2, m2⟩ := map_block h.nam
  have k1 := ne lb _ m1 (fun cur e => by cases e)
  have k2 := ne nb _ m2 (fun cur e => by cases e)
  have r1 : lb ≠ rb := fun e => by rw [e, h.blk] at m1; cases m1
  have r2 : nb ≠ rb := fun e => by rw [e, h.blk] at m2; cases m2
  refine ⟨?_, ?_, ?_, ownsMap_at h.lab ((off _ r1).trans (k1.trans m1.symm)), ownsMap_at h.nam ((off _ r2).trans (k2.trans m2.symm)), h.ne, h.b1, h.b2, h.b3, by simp; omega, h.n2, h.n3, h.n4, h.ap⟩
  · rw [heap_setCell_same w2 rb 0 _ _ _ hrb]; rfl
  · have e : instrCells (st.l ++ [(x, y)]) = instrCells st.l ++ [.int .i64 x, .int .i64 y] := instrCells_snoc _ _
    show (w2.setCell _ _).ownsRow _ _ _ _ (st.l ++ [(x, y)]).length (instrCells (st.l ++ [(x, y)]))
    rw [e, List.length_append]
    refine ownsRow_at hown (fun g hg => off g (fun e => ?_))
    obtain ⟨cur, hc⟩ := own_block hown hg
    rw [e, hrb] at hc; injection hc with hc; injection hc with _ hc _; exact absurd hc (by decide)
  · refine ownsRow_at h.ownl (fun g hg => ?_)
    obtain ⟨cur, hc⟩ := own_block h.ownl hg
    have hc2 := ne g _ hc (fun cur e => by injection e with _ e2 _; exact absurd e2 (by decide))
    refine (off g (fun e => ?_)).trans (hc2.trans hc.symm)
    rw [e, h.blk] at hc; injection hc with hc; injection hc with _ hc _; exact absurd hc (by decide)
theorem Rd.push2 {W w2 : World} {v' : Value} {x : Int} (h : Rd W B rb lb nb vl vls st line) (hl : st.lines.length < 400)
    (hown : w2.ownsRow B 3 1 v' (st.lines.length + 1) (intCells st.lines ++ [.int .i64 x])) (hk : ∀ g, g < W.heap.size → some g ≠ vls.ownBlock → w2.heap[g]? = W.heap[g]?) :
    Rd (w2.setCell ⟨rb, 3, none⟩ v') B rb lb nb vl v' { st with lines := st.lines ++ [x] } line := by
  have ne : ∀ g o, W.heap[g]? = some o → (∀ cur : Array Value, o ≠ Obj.cells cur 3) → w2.heap[g]? = some o := fun g o ho hne => by
    rw [hk g (lt_of_block ho) (fun e => ?_)]
    · exact ho
    · obtain ⟨cur, hc⟩ := own_block h.ownl e.symm
      rw [ho] at hc; injection hc with hc
      exact hne _ hc
  have hrb := ne rb _ h.blk (fun cur e => by injection e with _ e2 _; exact absurd e2 (by decide))
  have off : ∀ g, g ≠ rb → (w2.setCell ⟨rb, 3, none⟩ v').heap[g]? = w2.heap[g]? := fun g hg => heap_setCell_other _ _ _ _ hg
  obtain ⟨e1, c1, m1⟩ := map_block h.lab
  obtain ⟨e2, c2, m2⟩ := map_block h.nam
  have k1 := ne lb _ m1 (fun cur e => by cases e)
  have k2 := ne nb _ m2 (fun cur e => by cases e)
  have r1 : lb ≠ rb := fun e => by rw [e, h.blk] at m1; cases m1
  have r2 : nb ≠ rb := fun e => by rw [e, h.blk] at m2; cases m2
  refine ⟨?_, ?_, ?_, ownsMap_at h.lab ((off _ r1).trans (k1.trans m1.symm)), ownsMap_at h.nam ((off _ r2).trans (k2.trans m2.symm)), h.ne, h.b1, h.b2, h.b3, h.n1, h.n2, h.n3, by simp; omega, h.ap⟩
  · rw [heap_setCell_same w2 rb 3 _ _ _ hrb]; rfl
  · refine ownsRow_at h.own (fun g hg => ?_)
    obtain ⟨cur, hc⟩ := own_block h.own hg
    have hc2 := ne g _ hc (fun cur e => by injection e with _ e2 _; exact absurd e2 (by decide))
    refine (off g (fun e => ?_)).trans (hc2.trans hc.symm)
    rw [e, h.blk] at hc; injection hc with hc; injection hc with _ hc _; exact absurd hc (by decide)
  · have e : intCells (st.lines ++ [x]) = intCells st.lines ++ [.int .i64 x] := by simp [intCells]
    show (w2.setCell _ _).ownsRow _ _ _ _ (st.lines ++ [x]).length (intCells (st.lines ++ [x]))
    rw [e, List.length_append]
    refine ownsRow_at hown (fun g hg => off g (fun e => ?_))
    obtain ⟨cur, hc⟩ := own_block hown hg
    rw [e, hrb] at hc; injection hc with hc; injection hc with _ hc _; exact absurd hc (by decide)
/-- the reader has gone on -/
def Pushed (w : World) (B rb lb nb : Nat) (vl vls : Value) (st' : RS) (line : Int) (e : Ending) (w' : World) : Prop :=
  e = .returned (.tuple #[]) ∧ ∃ v v', Rd w' B rb lb nb v v' st' line ∧ Below B w w' ∧ w.heap.size ≤ w'.heap.size ∧ Keep w w' rb lb nb vl vls
theorem int_one {x : Int} : ∀ u ∈ [Value.int .i64 x], u.oneCell' = true := by intro u hu; simp at hu; subst hu; rfl
theorem int_two {x y : Int} : ∀ u ∈ [Value.int .i64 x, Value.int .i64 y], u.oneCell' = true := by intro u hu; simp at hu; rcases hu with rfl | rfl <;> rfl
end
end Go.Proofs.YtoiokbdipcecnaaGreatDoor
