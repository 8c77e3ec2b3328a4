/-
  (*reader).read, walked path by path: a line that is an instruction: one that is read. Condition: the reader's place in memory (Rd), the library's variables (Env), a line of at most 65536 bytes.
-/
import Derived.Test.YtoiokbdipcecnaaGreatDoorCodeRead2
import Derived.Deep.CutBlock
import Derived.Deep.DeepCutAuto
namespace Go.Proofs.YtoiokbdipcecnaaGreatDoor
open Go.RowKit Go.Maps Go.WideMaps
set_option maxRecDepth 100000
section
variable {w : World} {B rb lb nb : Nat} {vl vls : Value} {st : RS} {line : Int}
theorem two_cells {w : World} {b : Nat} {x y : Value} {t : TypeId} (h : w.heap[b]? = some (.cells #[x, y] t)) : w.cell? ⟨b, 0, none⟩ = some x ∧ w.cell? ⟨b, 1, none⟩ = some y ∧ ∀ k, w.frozen? ⟨b, k, none⟩ = false := by
  refine ⟨?_, ?_, fun k => ?_⟩ <;> simp [World.cell?, World.frozen?, h]
theorem set_second {w : World} {b : Nat} {x y z : Value} {t : TypeId} (h : w.heap[b]? = some (.cells #[x, y] t)) : (w.setCell ⟨b, 1, none⟩ z).heap[b]? = some (.cells #[x, z] t) := by
  rw [heap_setCell_same w b 1 _ _ _ h]; rfl
theorem add_none (g j : Nat) : (⟨g, 0, none⟩ : Addr).add j = ⟨g, j, none⟩ := by unfold Addr.add; split <;> simp_all
theorem news_two (w : World) (x y : Value) (t : TypeId) : ∀ (j : Nat) u, [x, y][j]? = some u → (w.alloc (.cells #[x, y] t)).cell? ((⟨w.heap.size, 0, none⟩ : Addr).add j) = some u := by
  intro j u hj
  rw [add_none, cell_of_row _ _ _ _ _ _ (heap_alloc_new w _)]
  simpa using hj
theorem news_one (w : World) (x : Value) (t : TypeId) : ∀ (j : Nat) u, [x][j]? = some u → (w.alloc (.cells #[x] t)).cell? ((⟨w.heap.size, 0, none⟩ : Addr).add j) = some u := by
  intro j u hj
  rw [add_none, cell_of_row _ _ _ _ _ _ (heap_alloc_new w _)]
  simpa using hj
set_option maxHeartbeats 4000000 in
theorem read_badB (s0 s nm0 rest : ByteArray) (i : Nat) (op tk : Int) (_hs : s0.size ≤ 65536) (_hz : s.size ≤ 65536) (htrim0 : ∀ w, Calls Tryz.prog 49 #[.string s0, .string ⟨#[32, 9]⟩] w fun e w' => e = .returned (.string s) ∧ Below w.heap.size w w') (hempty : s.toList.isEmpty = false) (hsuf0 : ∀ w, Calls Tryz.prog 128 #[.string s, .string ⟨#[58]⟩] w fun e w' => e = .returned (.tuple #[.string nm0, .bool false]) ∧ w = w') (hany0 : ∀ w, Calls Tryz.prog 131 #[.string s, .string ⟨#[32, 9]⟩] w fun e w' => e = .returned (.int .i64 (i : Nat)) ∧ Below w.heap.size w w') (hi : i < s.size) (htrib0 : ∀ w, Calls Tryz.prog 49 #[.string (s.extract i s.size), .string ⟨#[32, 9]⟩] w fun e w' => e = .returned (.string rest) ∧ Below w.heap.size w w') (hrz : rest.size ≤ 65536) (hop0 : ∀ w, Calls Tryz.prog 132 #[.string (s.extract 0 i)] w fun e w' => e = .returned (.int .i64 op) ∧ Below w.heap.size w w') (htk0 : ∀ w, Calls Tryz.prog 81 #[.int .i64 op] w fun e w' => e = .returned (.int .i64 tk) ∧ Below w.heap.size w w') (o0 : (op == 0) = false) (t0 : (tk == 0) = false) (hr : rest.toList.isEmpty = false) (he : Env w) (_hn3 : st.named.length ≤ 400) (ho : operandS st tk rest.data.toList = none) (h : Rd w B rb lb nb vl vls st line) :
    Calls Tryz.prog 96 #[.pointer (some ⟨rb, 0, none⟩), .string s0] w fun e w' => e = fault 153 line ∧ Below w.heap.size w w' := by
  have htrim := Lib.hid htrim0
  clear htrim0
  have hsuf := Lib.hid hsuf0
  clear hsuf0
  have hany := Lib.hid hany0
  clear hany0
  have hop := Lib.hid hop0
  clear hop0
  have htk := Lib.hid htk0
  clear htk0
  have htrib := Lib.hid htrib0
  clear htrib0
  go_enter Tryz.func96, Tryz.ntmps96
  go_upto_region 15 with (first | (go_at_call 49; (with_reducible refine (htrim.out _).mono ?_); rintro e w1 ⟨rfl, hB1⟩) | (go_at_call 128; refine (hsuf.out _).mono ?_; rintro e w2 ⟨rfl, rfl⟩) | (go_at_call 131; (with_reducible refine (hany.out _).mono ?_); rintro e w3 ⟨rfl, hb3⟩; have hB3 := (hB1).trans (hb3.mono hB1.size)) | (go_at_call 49; (with_reducible refine (htrib.out _).mono ?_); rintro e w4 ⟨rfl, hb4⟩; have hB4 := (hB3.drew).trans (hb4.mono hB3.size)) | (go_at_call 132; (with_reducible refine (hop.out _).mono ?_); rintro e w5 ⟨rfl, hb5⟩; have hB5 := (hB4).trans (hb5.mono hB4.size)) | (go_at_call 81; (with_reducible refine (htk.out _).mono ?_); rintro e w6 ⟨rfl, hb6⟩; have hB6 := (hB5).trans (hb6.mono hB5.size); have h6 := h.below hB6; obtain ⟨c0, c1, c2, c3, c4⟩ := h6.cells; have hrb := h6.lt (.inl rfl)) | (go_at_call 133; refine (operand_fails rest tk hrz (he.below (Below.alloc hB6 (by have := hB6.size; omega) (.cells #[.int .i64 op, .int .i64 0] 82))) (h6.below (Below.alloc (Below.refl _ _) (Nat.le_refl _) _)) ho).mono ?_; rintro e w7 ⟨rfl, hb7⟩; simp only [fault]))
  go_cut [8, 9] (fun v8 v9 wx => v8 = .string (s.extract 0 i) ∧ v9 = .string rest ∧ Below w.heap.size w wx)
  case first =>
    go_region_with (first | (go_at_call 49; (with_reducible refine (htrim.out _).mono ?_); rintro e w1 ⟨rfl, hB1⟩) | (go_at_call 128; refine (hsuf.out _).mono ?_; rintro e w2 ⟨rfl, rfl⟩) | (go_at_call 131; (with_reducible refine (hany.out _).mono ?_); rintro e w3 ⟨rfl, hb3⟩; have hB3 := (hB1).trans (hb3.mono hB1.size)) | (go_at_call 49; (with_reducible refine (htrib.out _).mono ?_); rintro e w4 ⟨rfl, hb4⟩; have hB4 := (hB3.drew).trans (hb4.mono hB3.size)) | (go_at_call 132; (with_reducible refine (hop.out _).mono ?_); rintro e w5 ⟨rfl, hb5⟩; have hB5 := (hB4).trans (hb5.mono hB4.size)) | (go_at_call 81; (with_reducible refine (htk.out _).mono ?_); rintro e w6 ⟨rfl, hb6⟩; have hB6 := (hB5).trans (hb6.mono hB5.size); have h6 := h.below hB6; obtain ⟨c0, c1, c2, c3, c4⟩ := h6.cells; have hrb := h6.lt (.inl rfl)) | (go_at_call 133; refine (operand_fails rest tk hrz (he.below (Below.alloc hB6 (by have := hB6.size; omega) (.cells #[.int .i64 op, .int .i64 0] 82))) (h6.below (Below.alloc (Below.refl _ _) (Nat.le_refl _) _)) ho).mono ?_; rintro e w7 ⟨rfl, hb7⟩; simp only [fault]))
    all_goals (go_wp2_with fail; go_meet; exact ⟨rfl, rfl, hB4⟩)
  case rest =>
    obtain ⟨rfl, rfl, hB4⟩ := hcut
    go_wp2_with (first | (go_at_call 49; (with_reducible refine (htrim.out _).mono ?_); rintro e w1 ⟨rfl, hB1⟩) | (go_at_call 128; refine (hsuf.out _).mono ?_; rintro e w2 ⟨rfl, rfl⟩) | (go_at_call 131; (with_reducible refine (hany.out _).mono ?_); rintro e w3 ⟨rfl, hb3⟩; have hB3 := (hB1).trans (hb3.mono hB1.size)) | (go_at_call 49; (with_reducible refine (htrib.out _).mono ?_); rintro e w4 ⟨rfl, hb4⟩; have hB4 := (hB3.drew).trans (hb4.mono hB3.size)) | (go_at_call 132; (with_reducible refine (hop.out _).mono ?_); rintro e w5 ⟨rfl, hb5⟩; have hB5 := (hB4).trans (hb5.mono hB4.size)) | (go_at_call 81; (with_reducible refine (htk.out _).mono ?_); rintro e w6 ⟨rfl, hb6⟩; have hB6 := (hB5).trans (hb6.mono hB5.size); have h6 := h.below hB6; obtain ⟨c0, c1, c2, c3, c4⟩ := h6.cells; have hrb := h6.lt (.inl rfl)) | (go_at_call 133; refine (operand_fails rest tk hrz (he.below (Below.alloc hB6 (by have := hB6.size; omega) (.cells #[.int .i64 op, .int .i64 0] 82))) (h6.below (Below.alloc (Below.refl _ _) (Nat.le_refl _) _)) ho).mono ?_; rintro e w7 ⟨rfl, hb7⟩; simp only [fault]))
    exact ⟨rfl, rfl, hB6.trans ((Below.alloc (Below.refl w6.heap.size w6) (Nat.le_refl _) _).trans (hb7.mono (by simp)) |>.mono hB6.size)⟩
set_option maxHeartbeats 4000000 in
theorem read_full0A (s0 s nm0 : ByteArray) (i : Int) (op tk : Int) (_hs : s0.size ≤ 65536) (_hz : s.size ≤ 65536) (htrim0 : ∀ w, Calls Tryz.prog 49 #[.string s0, .string ⟨#[32, 9]⟩] w fun e w' => e = .returned (.string s) ∧ Below w.heap.size w w') (hempty : s.toList.isEmpty = false) (hsuf0 : ∀ w, Calls Tryz.prog 128 #[.string s, .string ⟨#[58]⟩] w fun e w' => e = .returned (.tuple #[.string nm0, .bool false]) ∧ w = w') (hany0 : ∀ w, Calls Tryz.prog 131 #[.string s, .string ⟨#[32, 9]⟩] w fun e w' => e = .returned (.int .i64 i) ∧ Below w.heap.size w w') (hi : i < 0) (hop0 : ∀ w, Calls Tryz.prog 132 #[.string s] w fun e w' => e = .returned (.int .i64 op) ∧ Below w.heap.size w w') (htk0 : ∀ w, Calls Tryz.prog 81 #[.int .i64 op] w fun e w' => e = .returned (.int .i64 tk) ∧ Below w.heap.size w w') (o0 : (op == 0) = false) (t0 : (tk == 0) = true) (hl : st.l.length = 400) (h : Rd w B rb lb nb vl vls st line) :
    Calls Tryz.prog 96 #[.pointer (some ⟨rb, 0, none⟩), .string s0] w fun e w' => e = fault 150 line ∧ Below B w w' ∧ w.heap.size ≤ w'.heap.size := by
  have htrim := Lib.hid htrim0
  clear htrim0
  have hsuf := Lib.hid hsuf0
  clear hsuf0
  have hany := Lib.hid hany0
  clear hany0
  have hop := Lib.hid hop0
  clear hop0
  have htk := Lib.hid htk0
  clear htk0
  go_enter Tryz.func96, Tryz.ntmps96
  go_upto_region 23 with (first | (go_at_call 49; (with_reducible refine (htrim.out _).mono ?_); rintro e w1 ⟨rfl, hB1⟩) | (go_at_call 128; refine (hsuf.out _).mono ?_; rintro e w2 ⟨rfl, rfl⟩) | (go_at_call 131; (with_reducible refine (hany.out _).mono ?_); rintro e w3 ⟨rfl, hb3⟩; have hB3 := (hB1).trans (hb3.mono hB1.size)) | (go_at_call 132; (with_reducible refine (hop.out _).mono ?_); rintro e w5 ⟨rfl, hb5⟩; have hB5 := (hB3).trans (hb5.mono hB3.size)) | (go_at_call 81; (with_reducible refine (htk.out _).mono ?_); rintro e w6 ⟨rfl, hb6⟩; have hB6 := (hB5).trans (hb6.mono hB5.size); have h6 := h.below hB6; obtain ⟨c0, c1, c2, c3, c4⟩ := h6.cells; have hrb := h6.lt (.inl rfl)))
  refine wp_gen (fun W => Rd W B rb lb nb vl vls { st with named := st.named } line ∧ W.heap[w6.heap.size]? = some (.cells #[.int .i64 op, .int .i64 0] 82) ∧ Below B w W ∧ w.heap.size ≤ W.heap.size ∧ Keep w W rb lb nb vl vls) ⟨h6.below (Below.alloc (Below.refl _ _) (Nat.le_refl _) _), heap_alloc_new w6 _, ((hB6.mono (by have := lt_of_block h.blk; have := h.b1; omega)).alloc (by have := lt_of_block h6.blk; have := h6.b1; omega) _), by have := hB6.size; simp; omega, fun g hg _ => (Below.heap_alloc w6 _ g (by have := hB6.size; omega)).trans (hB6.block g hg)⟩ ?_
  generalize w6.heap.size = xb
  rintro W ⟨hR, hx, hBW, hzW, hKW⟩
  clear c0 c1 c2 c3 c4 h6
  obtain ⟨ao, cap, hvl⟩ := (vl_form hR).1
  subst hvl
  obtain ⟨c0, c1, c2, c3, c4⟩ := hR.cells
  have hful : ((st.l.length : Int) == 400) = true := by rw [hl]; rfl
  clear hl
  go_wp2_with (go_at_call 130; refine (fail_any rb _ line _ (by assumption)).mono ?_; rintro e w2 ⟨rfl, rfl⟩)
  exact ⟨rfl, rfl, hBW, hzW⟩
set_option maxHeartbeats 4000000 in
theorem read_full0B (s0 s nm0 rest : ByteArray) (i : Nat) (op tk : Int) (_hs : s0.size ≤ 65536) (_hz : s.size ≤ 65536) (htrim0 : ∀ w, Calls Tryz.prog 49 #[.string s0, .string ⟨#[32, 9]⟩] w fun e w' => e = .returned (.string s) ∧ Below w.heap.size w w') (hempty : s.toList.isEmpty = false) (hsuf0 : ∀ w, Calls Tryz.prog 128 #[.string s, .string ⟨#[58]⟩] w fun e w' => e = .returned (.tuple #[.string nm0, .bool false]) ∧ w = w') (hany0 : ∀ w, Calls Tryz.prog 131 #[.string s, .string ⟨#[32, 9]⟩] w fun e w' => e = .returned (.int .i64 (i : Nat)) ∧ Below w.heap.size w w') (hi : i < s.size) (htrib0 : ∀ w, Calls Tryz.prog 49 #[.string (s.extract i s.size), .string ⟨#[32, 9]⟩] w fun e w' => e = .returned (.string rest) ∧ Below w.heap.size w w') (_hrz : rest.size ≤ 65536) (hop0 : ∀ w, Calls Tryz.prog 132 #[.string (s.extract 0 i)] w fun e w' => e = .returned (.int .i64 op) ∧ Below w.heap.size w w') (htk0 : ∀ w, Calls Tryz.prog 81 #[.int .i64 op] w fun e w' => e = .returned (.int .i64 tk) ∧ Below w.heap.size w w') (o0 : (op == 0) = false) (t0 : (tk == 0) = true) (hr : rest.toList.isEmpty = true) (hl : st.l.length = 400) (h : Rd w B rb lb nb vl vls st line) :
    Calls Tryz.prog 96 #[.pointer (some ⟨rb, 0, none⟩), .string s0] w fun e w' => e = fault 150 line ∧ Below B w w' ∧ w.heap.size ≤ w'.heap.size := by
  have htrim := Lib.hid htrim0
  clear htrim0
  have hsuf := Lib.hid hsuf0
  clear hsuf0
  have hany := Lib.hid hany0
  clear hany0
  have hop := Lib.hid hop0
  clear hop0
  have htk := Lib.hid htk0
  clear htk0
  have htrib := Lib.hid htrib0
  clear htrib0
  go_enter Tryz.func96, Tryz.ntmps96
  go_upto_region 15 with (first | (go_at_call 49; (with_reducible refine (htrim.out _).mono ?_); rintro e w1 ⟨rfl, hB1⟩) | (go_at_call 128; refine (hsuf.out _).mono ?_; rintro e w2 ⟨rfl, rfl⟩) | (go_at_call 131; (with_reducible refine (hany.out _).mono ?_); rintro e w3 ⟨rfl, hb3⟩; have hB3 := (hB1).trans (hb3.mono hB1.size)) | (go_at_call 49; (with_reducible refine (htrib.out _).mono ?_); rintro e w4 ⟨rfl, hb4⟩; have hB4 := (hB3.drew).trans (hb4.mono hB3.size)) | (go_at_call 132; (with_reducible refine (hop.out _).mono ?_); rintro e w5 ⟨rfl, hb5⟩; have hB5 := (hB4).trans (hb5.mono hB4.size)) | (go_at_call 81; (with_reducible refine (htk.out _).mono ?_); rintro e w6 ⟨rfl, hb6⟩; have hB6 := (hB5).trans (hb6.mono hB5.size); have h6 := h.below hB6; obtain ⟨c0, c1, c2, c3, c4⟩ := h6.cells; have hrb := h6.lt (.inl rfl)))
  go_cut [8, 9] (fun v8 v9 wx => v8 = .string (s.extract 0 i) ∧ v9 = .string rest ∧ Below w.heap.size w wx)
  case first =>
    go_region_with (first | (go_at_call 49; (with_reducible refine (htrim.out _).mono ?_); rintro e w1 ⟨rfl, hB1⟩) | (go_at_call 128; refine (hsuf.out _).mono ?_; rintro e w2 ⟨rfl, rfl⟩) | (go_at_call 131; (with_reducible refine (hany.out _).mono ?_); rintro e w3 ⟨rfl, hb3⟩; have hB3 := (hB1).trans (hb3.mono hB1.size)) | (go_at_call 49; (with_reducible refine (htrib.out _).mono ?_); rintro e w4 ⟨rfl, hb4⟩; have hB4 := (hB3.drew).trans (hb4.mono hB3.size)) | (go_at_call 132; (with_reducible refine (hop.out _).mono ?_); rintro e w5 ⟨rfl, hb5⟩; have hB5 := (hB4).trans (hb5.mono hB4.size)) | (go_at_call 81; (with_reducible refine (htk.out _).mono ?_); rintro e w6 ⟨rfl, hb6⟩; have hB6 := (hB5).trans (hb6.mono hB5.size); have h6 := h.below hB6; obtain ⟨c0, c1, c2, c3, c4⟩ := h6.cells; have hrb := h6.lt (.inl rfl)))
    all_goals (go_wp2_with fail; go_meet; exact ⟨rfl, rfl, hB4⟩)
  case rest =>
    obtain ⟨rfl, rfl, hB4⟩ := hcut
    go_upto_region 23 with (first | (go_at_call 49; (with_reducible refine (htrim.out _).mono ?_); rintro e w1 ⟨rfl, hB1⟩) | (go_at_call 128; refine (hsuf.out _).mono ?_; rintro e w2 ⟨rfl, rfl⟩) | (go_at_call 131; (with_reducible refine (hany.out _).mono ?_); rintro e w3 ⟨rfl, hb3⟩; have hB3 := (hB1).trans (hb3.mono hB1.size)) | (go_at_call 49; (with_reducible refine (htrib.out _).mono ?_); rintro e w4 ⟨rfl, hb4⟩; have hB4 := (hB3.drew).trans (hb4.mono hB3.size)) | (go_at_call 132; (with_reducible refine (hop.out _).mono ?_); rintro e w5 ⟨rfl, hb5⟩; have hB5 := (hB4).trans (hb5.mono hB4.size)) | (go_at_call 81; (with_reducible refine (htk.out _).mono ?_); rintro e w6 ⟨rfl, hb6⟩; have hB6 := (hB5).trans (hb6.mono hB5.size); have h6 := h.below hB6; obtain ⟨c0, c1, c2, c3, c4⟩ := h6.cells; have hrb := h6.lt (.inl rfl)))
    refine wp_gen (fun W => Rd W B rb lb nb vl vls { st with named := st.named } line ∧ W.heap[w6.heap.size]? = some (.cells #[.int .i64 op, .int .i64 0] 82) ∧ Below B w W ∧ w.heap.size ≤ W.heap.size ∧ Keep w W rb lb nb vl vls) ⟨h6.below (Below.alloc (Below.refl _ _) (Nat.le_refl _) _), heap_alloc_new w6 _, ((hB6.mono (by have := lt_of_block h.blk; have := h.b1; omega)).alloc (by have := lt_of_block h6.blk; have := h6.b1; omega) _), by have := hB6.size; simp; omega, fun g hg _ => (Below.heap_alloc w6 _ g (by have := hB6.size; omega)).trans (hB6.block g hg)⟩ ?_
    generalize w6.heap.size = xb
    rintro W ⟨hR, hx, hBW, hzW, hKW⟩
    clear c0 c1 c2 c3 c4 h6
    obtain ⟨ao, cap, hvl⟩ := (vl_form hR).1
    subst hvl
    obtain ⟨c0, c1, c2, c3, c4⟩ := hR.cells
    have hful : ((st.l.length : Int) == 400) = true := by rw [hl]; rfl
    clear hl
    go_wp2_with (go_at_call 130; refine (fail_any rb _ line _ (by assumption)).mono ?_; rintro e w2 ⟨rfl, rfl⟩)
    exact ⟨rfl, rfl, hBW, hzW⟩
set_option maxHeartbeats 4000000 in
theorem read_fullnB (s0 s nm0 rest : ByteArray) (i : Nat) (op tk a : Int) (nm : List (Nat × List UInt8)) (_hs : s0.size ≤ 65536) (_hz : s.size ≤ 65536) (htrim0 : ∀ w, Calls Tryz.prog 49 #[.string s0, .string ⟨#[32, 9]⟩] w fun e w' => e = .returned (.string s) ∧ Below w.heap.size w w') (hempty : s.toList.isEmpty = false) (hsuf0 : ∀ w, Calls Tryz.prog 128 #[.string s, .string ⟨#[58]⟩] w fun e w' => e = .returned (.tuple #[.string nm0, .bool false]) ∧ w = w') (hany0 : ∀ w, Calls Tryz.prog 131 #[.string s, .string ⟨#[32, 9]⟩] w fun e w' => e = .returned (.int .i64 (i : Nat)) ∧ Below w.heap.size w w') (hi : i < s.size) (htrib0 : ∀ w, Calls Tryz.prog 49 #[.string (s.extract i s.size), .string ⟨#[32, 9]⟩] w fun e w' => e = .returned (.string rest) ∧ Below w.heap.size w w') (hrz : rest.size ≤ 65536) (hop0 : ∀ w, Calls Tryz.prog 132 #[.string (s.extract 0 i)] w fun e w' => e = .returned (.int .i64 op) ∧ Below w.heap.size w w') (htk0 : ∀ w, Calls Tryz.prog 81 #[.int .i64 op] w fun e w' => e = .returned (.int .i64 tk) ∧ Below w.heap.size w w') (o0 : (op == 0) = false) (t0 : (tk == 0) = false) (hr : rest.toList.isEmpty = false) (he : Env w) (hn3 : st.named.length ≤ 400) (hl : st.l.length = 400) (ho : operandS st tk rest.data.toList = some (a, nm)) (h : Rd w B rb lb nb vl vls st line) :
    Calls Tryz.prog 96 #[.pointer (some ⟨rb, 0, none⟩), .string s0] w fun e w' => e = fault 150 line ∧ Below B w w' ∧ w.heap.size ≤ w'.heap.size := by
  have htrim := Lib.hid htrim0
  clear htrim0
  have hsuf := Lib.hid hsuf0
  clear hsuf0
  have hany := Lib.hid hany0
  clear hany0
  have hop := Lib.hid hop0
  clear hop0
  have htk := Lib.hid htk0
  clear htk0
  have htrib := Lib.hid htrib0
  clear htrib0
  go_enter Tryz.func96, Tryz.ntmps96
  go_upto_region 15 with (first | (go_at_call 49; (with_reducible refine (htrim.out _).mono ?_); rintro e w1 ⟨rfl, hB1⟩) | (go_at_call 128; refine (hsuf.out _).mono ?_; rintro e w2 ⟨rfl, rfl⟩) | (go_at_call 131; (with_reducible refine (hany.out _).mono ?_); rintro e w3 ⟨rfl, hb3⟩; have hB3 := (hB1).trans (hb3.mono hB1.size)) | (go_at_call 49; (with_reducible refine (htrib.out _).mono ?_); rintro e w4 ⟨rfl, hb4⟩; have hB4 := (hB3.drew).trans (hb4.mono hB3.size)) | (go_at_call 132; (with_reducible refine (hop.out _).mono ?_); rintro e w5 ⟨rfl, hb5⟩; have hB5 := (hB4).trans (hb5.mono hB4.size)) | (go_at_call 81; (with_reducible refine (htk.out _).mono ?_); rintro e w6 ⟨rfl, hb6⟩; have hB6 := (hB5).trans (hb6.mono hB5.size); have h6 := h.below hB6; obtain ⟨c0, c1, c2, c3, c4⟩ := h6.cells; have hrb := h6.lt (.inl rfl)) | (go_at_call 133; refine (operand_ok rest tk a nm hrz (he.below (Below.alloc hB6 (by have := hB6.size; omega) (.cells #[.int .i64 op, .int .i64 0] 82))) (h6.below (Below.alloc (Below.refl _ _) (Nat.le_refl _) _)) hn3 ho).mono ?_; rintro e w7 ⟨rfl, h7, hb7, hz7, hk7⟩; have hx7 := (hk7 w6.heap.size (by simp) (by have := h6.lt (.inr (.inr (.inl rfl))); omega)).trans (heap_alloc_new w6 _); have hHK := Lib.hid hk7; clear hk7; obtain ⟨x0, x1, xf⟩ := two_cells hx7; have hH7 := Lib.hid hx7; clear hx7))
  go_cut [8, 9] (fun v8 v9 wx => v8 = .string (s.extract 0 i) ∧ v9 = .string rest ∧ Below w.heap.size w wx)
  case first =>
    go_region_with (first | (go_at_call 49; (with_reducible refine (htrim.out _).mono ?_); rintro e w1 ⟨rfl, hB1⟩) | (go_at_call 128; refine (hsuf.out _).mono ?_; rintro e w2 ⟨rfl, rfl⟩) | (go_at_call 131; (with_reducible refine (hany.out _).mono ?_); rintro e w3 ⟨rfl, hb3⟩; have hB3 := (hB1).trans (hb3.mono hB1.size)) | (go_at_call 49; (with_reducible refine (htrib.out _).mono ?_); rintro e w4 ⟨rfl, hb4⟩; have hB4 := (hB3.drew).trans (hb4.mono hB3.size)) | (go_at_call 132; (with_reducible refine (hop.out _).mono ?_); rintro e w5 ⟨rfl, hb5⟩; have hB5 := (hB4).trans (hb5.mono hB4.size)) | (go_at_call 81; (with_reducible refine (htk.out _).mono ?_); rintro e w6 ⟨rfl, hb6⟩; have hB6 := (hB5).trans (hb6.mono hB5.size); have h6 := h.below hB6; obtain ⟨c0, c1, c2, c3, c4⟩ := h6.cells; have hrb := h6.lt (.inl rfl)) | (go_at_call 133; refine (operand_ok rest tk a nm hrz (he.below (Below.alloc hB6 (by have := hB6.size; omega) (.cells #[.int .i64 op, .int .i64 0] 82))) (h6.below (Below.alloc (Below.refl _ _) (Nat.le_refl _) _)) hn3 ho).mono ?_; rintro e w7 ⟨rfl, h7, hb7, hz7, hk7⟩; have hx7 := (hk7 w6.heap.size (by simp) (by have := h6.lt (.inr (.inr (.inl rfl))); omega)).trans (heap_alloc_new w6 _); have hHK := Lib.hid hk7; clear hk7; obtain ⟨x0, x1, xf⟩ := two_cells hx7; have hH7 := Lib.hid hx7; clear hx7))
    all_goals (go_wp2_with fail; go_meet; exact ⟨rfl, rfl, hB4⟩)
  case rest =>
    obtain ⟨rfl, rfl, hB4⟩ := hcut
    go_upto_region 23 with (first | (go_at_call 49; (with_reducible refine (htrim.out _).mono ?_); rintro e w1 ⟨rfl, hB1⟩) | (go_at_call 128; refine (hsuf.out _).mono ?_; rintro e w2 ⟨rfl, rfl⟩) | (go_at_call 131; (with_reducible refine (hany.out _).mono ?_); rintro e w3 ⟨rfl, hb3⟩; have hB3 := (hB1).trans (hb3.mono hB1.size)) | (go_at_call 49; (with_reducible refine (htrib.out _).mono ?_); rintro e w4 ⟨rfl, hb4⟩; have hB4 := (hB3.drew).trans (hb4.mono hB3.size)) | (go_at_call 132; (with_reducible refine (hop.out _).mono ?_); rintro e w5 ⟨rfl, hb5⟩; have hB5 := (hB4).trans (hb5.mono hB4.size)) | (go_at_call 81; (with_reducible refine (htk.out _).mono ?_); rintro e w6 ⟨rfl, hb6⟩; have hB6 := (hB5).trans (hb6.mono hB5.size); have h6 := h.below hB6; obtain ⟨c0, c1, c2, c3, c4⟩ := h6.cells; have hrb := h6.lt (.inl rfl)) | (go_at_call 133; refine (operand_ok rest tk a nm hrz (he.below (Below.alloc hB6 (by have := hB6.size; omega) (.cells #[.int .i64 op, .int .i64 0] 82))) (h6.below (Below.alloc (Below.refl _ _) (Nat.le_refl _) _)) hn3 ho).mono ?_; rintro e w7 ⟨rfl, h7, hb7, hz7, hk7⟩; have hx7 := (hk7 w6.heap.size (by simp) (by have := h6.lt (.inr (.inr (.inl rfl))); omega)).trans (heap_alloc_new w6 _); have hHK := Lib.hid hk7; clear hk7; obtain ⟨x0, x1, xf⟩ := two_cells hx7; have hH7 := Lib.hid hx7; clear hx7))
    refine wp_gen (fun W => Rd W B rb lb nb vl vls { st with named := nm } line ∧ W.heap[w6.heap.size]? = some (.cells #[.int .i64 op, .int .i64 a] 82) ∧ Below B w W ∧ w.heap.size ≤ W.heap.size ∧ Keep w W rb lb nb vl vls) ⟨h7.same (fun g hg => heap_setCell_other _ _ _ _ (by have := h6.lt hg; show g ≠ w6.heap.size; omega)), set_second hH7.out, ((((hB6.mono (by have := lt_of_block h.blk; have := h.b1; omega)).alloc (by have := lt_of_block h6.blk; have := h6.b1; omega) _).trans hb7).setCell (p := ⟨w6.heap.size, 1, none⟩) (by have := lt_of_block h6.blk; have := h6.b1; show B ≤ w6.heap.size; omega) _), by have := hB6.size; simp at hz7; simp; omega, fun g hg hn => (heap_setCell_other _ _ _ _ (by have := hB6.size; show g ≠ w6.heap.size; omega)).trans ((hHK.out g (by have := hB6.size; simp; omega) (fun e => hn (.inr (.inr (.inl e))))).trans ((Below.heap_alloc w6 _ g (by have := hB6.size; omega)).trans (hB6.block g hg)))⟩ ?_
    generalize w6.heap.size = xb
    rintro W ⟨hR, hx, hBW, hzW, hKW⟩
    clear c0 c1 c2 c3 c4 h6 x0 x1 xf
    obtain ⟨ao, cap, hvl⟩ := (vl_form hR).1
    subst hvl
    obtain ⟨c0, c1, c2, c3, c4⟩ := hR.cells
    have hful : ((st.l.length : Int) == 400) = true := by rw [hl]; rfl
    clear hl
    go_wp2_with (go_at_call 130; refine (fail_any rb _ line _ (by assumption)).mono ?_; rintro e w2 ⟨rfl, rfl⟩)
    exact ⟨rfl, rfl, hBW, hzW⟩
end
end Go.Proofs.YtoiokbdipcecnaaGreatDoor
