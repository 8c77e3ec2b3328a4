/-
  (*reader).read: for every line of at most 65536 bytes: what it leaves, or the fault that it panics with. Condition: the reader's place in memory (Rd), the library's variables (Env).
  And: (*reader).read, walked path by path: a line that is an instruction: one that is read. Condition: the reader's place in memory (Rd), the library's variables (Env), a line of at most 65536 bytes.
  And: (*reader).read, walked path by path: a line that is an instruction: one that is read. Condition: the reader's place in memory (Rd), the library's variables (Env), a line of at most 65536 bytes.
  And: (*reader).read, walked path by path: a line that is an instruction: one that is read. Condition: the reader's place in memory (Rd), the library's variables (Env), a line of at most 65536 bytes.
-/
import Derived.Test.YtoiokbdipcecnaaGreatDoorCodeRead4
import Derived.Deep.DeepCutAuto
import Derived.Test.YtoiokbdipcecnaaGreatDoorIndexAny
namespace Go.Proofs.YtoiokbdipcecnaaGreatDoor
open Go.RowKit Go.Maps Go.WideMaps
set_option maxRecDepth 100000
section
variable {w : World} {B rb lb nb : Nat} {vl vls : Value} {st : RS} {line : Int}
set_option maxHeartbeats 4000000 in
theorem read_pushnB (s0 s nm0 rest : ByteArray) (i : Nat) (op tk a : Int) (nm : List (Nat × List UInt8)) (_hs : s0.size ≤ 65536) (_hz : s.size ≤ 65536) (htrim0 : ∀ w, Calls Tryz.prog 49 #[.string s0, .string ⟨#[32, 9]⟩] w fun e w' => e = .returned (.string s) ∧ Below w.heap.size w w') (hempty : s.toList.isEmpty = false) (hsuf0 : ∀ w, Calls Tryz.prog 128 #[.string s, .string ⟨#[58]⟩] w fun e w' => e = .returned (.tuple #[.string nm0, .bool false]) ∧ w = w') (hany0 : ∀ w, Calls Tryz.prog 131 #[.string s, .string ⟨#[32, 9]⟩] w fun e w' => e = .returned (.int .i64 (i : Nat)) ∧ Below w.heap.size w w') (hi : i < s.size) (htrib0 : ∀ w, Calls Tryz.prog 49 #[.string (s.extract i s.size), .string ⟨#[32, 9]⟩] w fun e w' => e = .returned (.string rest) ∧ Below w.heap.size w w') (hrz : rest.size ≤ 65536) (hop0 : ∀ w, Calls Tryz.prog 132 #[.string (s.extract 0 i)] w fun e w' => e = .returned (.int .i64 op) ∧ Below w.heap.size w w') (htk0 : ∀ w, Calls Tryz.prog 81 #[.int .i64 op] w fun e w' => e = .returned (.int .i64 tk) ∧ Below w.heap.size w w') (o0 : (op == 0) = false) (t0 : (tk == 0) = false) (hr : rest.toList.isEmpty = false) (he : Env w) (hn3 : st.named.length ≤ 400) (hl : st.l.length < 400) (hl2 : st.lines.length < 400) (ho : operandS st tk rest.data.toList = some (a, nm)) (h : Rd w B rb lb nb vl vls st line) :
    Calls Tryz.prog 96 #[.pointer (some ⟨rb, 0, none⟩), .string s0] w fun e w' => Pushed w B rb lb nb vl vls { st with l := st.l ++ [(op, a)], lines := st.lines ++ [line], named := nm } line e w' := by
  have htrim := Lib.hid htrim0
  clear htrim0
  have hsuf := Lib.hid hsuf0
  clear hsuf0
  have hany := Lib.hid hany0
  clear hany0
  have hop := Lib.hid hop0
  clear hop0
  have htk := Lib.hid htk0
  clear htk0
  have htrib := Lib.hid htrib0
  clear htrib0
  go_enter Tryz.func96, Tryz.ntmps96
  go_upto_region 15 with (first | (go_at_call 49; (with_reducible refine (htrim.out _).mono ?_); rintro e w1 ⟨rfl, hB1⟩) | (go_at_call 128; refine (hsuf.out _).mono ?_; rintro e w2 ⟨rfl, rfl⟩) | (go_at_call 131; (with_reducible refine (hany.out _).mono ?_); rintro e w3 ⟨rfl, hb3⟩; have hB3 := (hB1).trans (hb3.mono hB1.size)) | (go_at_call 49; (with_reducible refine (htrib.out _).mono ?_); rintro e w4 ⟨rfl, hb4⟩; have hB4 := (hB3.drew).trans (hb4.mono hB3.size)) | (go_at_call 132; (with_reducible refine (hop.out _).mono ?_); rintro e w5 ⟨rfl, hb5⟩; have hB5 := (hB4).trans (hb5.mono hB4.size)) | (go_at_call 81; (with_reducible refine (htk.out _).mono ?_); rintro e w6 ⟨rfl, hb6⟩; have hB6 := (hB5).trans (hb6.mono hB5.size); have h6 := h.below hB6; obtain ⟨c0, c1, c2, c3, c4⟩ := h6.cells; have hrb := h6.lt (.inl rfl)) | (go_at_call 133; refine (operand_ok rest tk a nm hrz (he.below (Below.alloc hB6 (by have := hB6.size; omega) (.cells #[.int .i64 op, .int .i64 0] 82))) (h6.below (Below.alloc (Below.refl _ _) (Nat.le_refl _) _)) hn3 ho).mono ?_; rintro e w7 ⟨rfl, h7, hb7, hz7, hk7⟩; have hx7 := (hk7 w6.heap.size (by simp) (by have := h6.lt (.inr (.inr (.inl rfl))); omega)).trans (heap_alloc_new w6 _); have hHK := Lib.hid hk7; clear hk7; obtain ⟨x0, x1, xf⟩ := two_cells hx7; have hH7 := Lib.hid hx7; clear hx7))
  go_cut [8, 9] (fun v8 v9 wx => v8 = .string (s.extract 0 i) ∧ v9 = .string rest ∧ Below w.heap.size w wx)
  case first =>
    go_region_with (first | (go_at_call 49; (with_reducible refine (htrim.out _).mono ?_); rintro e w1 ⟨rfl, hB1⟩) | (go_at_call 128; refine (hsuf.out _).mono ?_; rintro e w2 ⟨rfl, rfl⟩) | (go_at_call 131; (with_reducible refine (hany.out _).mono ?_); rintro e w3 ⟨rfl, hb3⟩; have hB3 := (hB1).trans (hb3.mono hB1.size)) | (go_at_call 49; (with_reducible refine (htrib.out _).mono ?_); rintro e w4 ⟨rfl, hb4⟩; have hB4 := (hB3.drew).trans (hb4.mono hB3.size)) | (go_at_call 132; (with_reducible refine (hop.out _).mono ?_); rintro e w5 ⟨rfl, hb5⟩; have hB5 := (hB4).trans (hb5.mono hB4.size)) | (go_at_call 81; (with_reducible refine (htk.out _).mono ?_); rintro e w6 ⟨rfl, hb6⟩; have hB6 := (hB5).trans (hb6.mono hB5.size); have h6 := h.below hB6; obtain ⟨c0, c1, c2, c3, c4⟩ := h6.cells; have hrb := h6.lt (.inl rfl)) | (go_at_call 133; refine (operand_ok rest tk a nm hrz (he.below (Below.alloc hB6 (by have := hB6.size; omega) (.cells #[.int .i64 op, .int .i64 0] 82))) (h6.below (Below.alloc (Below.refl _ _) (Nat.le_refl _) _)) hn3 ho).mono ?_; rintro e w7 ⟨rfl, h7, hb7, hz7, hk7⟩; have hx7 := (hk7 w6.heap.size (by simp) (by have := h6.lt (.inr (.inr (.inl rfl))); omega)).trans (heap_alloc_new w6 _); have hHK := Lib.hid hk7; clear hk7; obtain ⟨x0, x1, xf⟩ := two_cells hx7; have hH7 := Lib.hid hx7; clear hx7))
    all_goals (go_wp2_with fail; go_meet; exact ⟨rfl, rfl, hB4⟩)
  case rest =>
    obtain ⟨rfl, rfl, hB4⟩ := hcut
    go_upto_region 23 with (first | (go_at_call 49; (with_reducible refine (htrim.out _).mono ?_); rintro e w1 ⟨rfl, hB1⟩) | (go_at_call 128; refine (hsuf.out _).mono ?_; rintro e w2 ⟨rfl, rfl⟩) | (go_at_call 131; (with_reducible refine (hany.out _).mono ?_); rintro e w3 ⟨rfl, hb3⟩; have hB3 := (hB1).trans (hb3.mono hB1.size)) | (go_at_call 49; (with_reducible refine (htrib.out _).mono ?_); rintro e w4 ⟨rfl, hb4⟩; have hB4 := (hB3.drew).trans (hb4.mono hB3.size)) | (go_at_call 132; (with_reducible refine (hop.out _).mono ?_); rintro e w5 ⟨rfl, hb5⟩; have hB5 := (hB4).trans (hb5.mono hB4.size)) | (go_at_call 81; (with_reducible refine (htk.out _).mono ?_); rintro e w6 ⟨rfl, hb6⟩; have hB6 := (hB5).trans (hb6.mono hB5.size); have h6 := h.below hB6; obtain ⟨c0, c1, c2, c3, c4⟩ := h6.cells; have hrb := h6.lt (.inl rfl)) | (go_at_call 133; refine (operand_ok rest tk a nm hrz (he.below (Below.alloc hB6 (by have := hB6.size; omega) (.cells #[.int .i64 op, .int .i64 0] 82))) (h6.below (Below.alloc (Below.refl _ _) (Nat.le_refl _) _)) hn3 ho).mono ?_; rintro e w7 ⟨rfl, h7, hb7, hz7, hk7⟩; have hx7 := (hk7 w6.heap.size (by simp) (by have := h6.lt (.inr (.inr (.inl rfl))); omega)).trans (heap_alloc_new w6 _); have hHK := Lib.hid hk7; clear hk7; obtain ⟨x0, x1, xf⟩ := two_cells hx7; have hH7 := Lib.hid hx7; clear hx7))
    refine wp_gen (fun W => Rd W B rb lb nb vl vls { st with named := nm } line ∧ W.heap[w6.heap.size]? = some (.cells #[.int .i64 op, .int .i64 a] 82) ∧ Below B w W ∧ w.heap.size ≤ W.heap.size ∧ Keep w W rb lb nb vl vls) ⟨h7.same (fun g hg => heap_setCell_other _ _ _ _ (by have := h6.lt hg; show g ≠ w6.heap.size; omega)), set_second hH7.out, ((((hB6.mono (by have := lt_of_block h.blk; have := h.b1; omega)).alloc (by have := lt_of_block h6.blk; have := h6.b1; omega) _).trans hb7).setCell (p := ⟨w6.heap.size, 1, none⟩) (by have := lt_of_block h6.blk; have := h6.b1; show B ≤ w6.heap.size; omega) _), by have := hB6.size; simp at hz7; simp; omega, fun g hg hn => (heap_setCell_other _ _ _ _ (by have := hB6.size; show g ≠ w6.heap.size; omega)).trans ((hHK.out g (by have := hB6.size; simp; omega) (fun e => hn (.inr (.inr (.inl e))))).trans ((Below.heap_alloc w6 _ g (by have := hB6.size; omega)).trans (hB6.block g hg)))⟩ ?_
    generalize w6.heap.size = xb
    rintro W ⟨hR, hx, hBW, hzW, hKW⟩
    clear c0 c1 c2 c3 c4 h6 x0 x1 xf
    obtain ⟨ao, cap, hvl⟩ := (vl_form hR).1
    subst hvl
    obtain ⟨c0, c1, c2, c3, c4⟩ := hR.cells
    obtain ⟨x0, x1, xf⟩ := two_cells hx
    have hful : ((st.l.length : Int) == 400) = false := by simp; omega
    have hlR := hR.n1
    go_upto_region 25 with fail
    obtain ⟨i0, hi0, hz0, hz1, hz2⟩ := info_parts info82
    have hf0 := hR.frozen 0
    have hrbW := hR.lt (.inl rfl)
    go_cut [0] (fun v0 wx => v0 = .pointer (some ⟨rb, 0, none⟩) ∧ ∃ v', Rd wx B rb lb nb v' vls { st with l := st.l ++ [(op, a)], named := nm } line ∧ Below B w wx ∧ w.heap.size ≤ wx.heap.size ∧ Keep w wx rb lb nb (.slice ao st.l.length cap) vls)
    case first =>
      go_region_law (refine step_append_own rfl (.tmp 107) (.tmp 109) 45 rfl B 82 i0 (.agg #[.int .i64 0, .int .i64 0]) 2 16 Tryz.underlying45 hi0 hz0 hz1 hz2 rfl (by decide) (.slice ao st.l.length cap) st.l.length (instrCells st.l) rfl ((hR.own.alloc _).drew) ⟨W.heap.size, 0, none⟩ 1 1 [.int .i64 op, .int .i64 a] rfl rfl (news_two W _ _ _) int_two (by unfold maxLen; omega) (by omega) (by have := lt_of_block hR.blk; have := hR.b1; show B ≤ (W.alloc _).heap.size; simp; omega) ?_; intro v' w2 hown' hgrow' _; have hP := hR.push1 hl hown' (fun g h1 h2 => grow_keep hgrow' g h1 h2); have hB2 := ((hBW.alloc (by have := lt_of_block hR.blk; have := hR.b1; omega) _).drew).grown hgrow' (by have := lt_of_block hR.blk; have := hR.b1; show B ≤ (W.alloc _).heap.size; simp; omega) (fun k e => own_base hR.own e.symm); have hz2 := hgrow'.size; have hrb2 := (grow_keep hgrow' rb (lt_of_block hR.blk) (fun e => by obtain ⟨_, hc⟩ := own_block hR.own e.symm; rw [hR.blk] at hc; injection hc with hc; injection hc with _ hc _; exact absurd hc (by decide))).trans hR.blk; have d0 := cell_of_row w2 rb 0 _ _ _ hrb2; have d1 := frozen_of_row w2 rb 0 _ _ hrb2; obtain ⟨g', cap', rfl⟩ := Joins.ownsRow_form hown' (by omega); have hHG := Lib.hid hgrow'; clear hown' hgrow')
      all_goals (go_wp2_with fail; go_meet; exact ⟨rfl, _, hP, hB2.setCell (p := ⟨rb, 0, none⟩) hR.b1 _, by have h9 : (W.alloc _).heap.size ≤ w2.heap.size := hz2; simp at h9; simp; omega, hKW.push1 hzW hHG.out⟩)
    case rest =>
      obtain ⟨rfl, vl2, hR2, hBW2, hzW2, hKW2⟩ := hcut
      clear hR hBW hzW x0 x1 xf hx c0 c1 c2 c3 c4 hi0 hz0 hz1 hz2 hf0 hrbW
      obtain ⟨ao2, cap2, hvls⟩ := (vl_form hR2).2
      subst hvls
      obtain ⟨c0, c1, c2, c3, c4⟩ := hR2.cells
      obtain ⟨i1, hi1, hy0, hy1, hy2⟩ := info_parts info3
      have hf3 := hR2.frozen 3
      have hrbW := hR2.lt (.inl rfl)
      go_upto_region 26 with fail
      go_region_law (refine step_append_own rfl (.tmp 117) (.tmp 122) 27 rfl B 3 i1 (.int .i64 0) 1 8 Tryz.underlying27 hi1 hy0 hy1 hy2 rfl (by decide) (.slice ao2 st.lines.length cap2) st.lines.length (intCells st.lines) rfl ((hR2.ownl.alloc _).drew) ⟨wc.heap.size, 0, none⟩ 1 1 [.int .i64 line] rfl rfl (news_one wc _ _) int_one (by unfold maxLen; omega) (by omega) (by have := lt_of_block hR2.blk; have := hR2.b1; show B ≤ (wc.alloc _).heap.size; simp; omega) ?_; intro v' w2 hown' hgrow' _; have hP := hR2.push2 hl2 hown' (fun g h1 h2 => grow_keep hgrow' g h1 h2); have hB2 := ((hBW2.alloc (by have := lt_of_block hR2.blk; have := hR2.b1; omega) _).drew).grown hgrow' (by have := lt_of_block hR2.blk; have := hR2.b1; show B ≤ (wc.alloc _).heap.size; simp; omega) (fun k e => own_base hR2.ownl e.symm); have hz2 := hgrow'.size; have hrb2 := (grow_keep hgrow' rb (lt_of_block hR2.blk) (fun e => by obtain ⟨_, hc⟩ := own_block hR2.ownl e.symm; rw [hR2.blk] at hc; injection hc with hc; injection hc with _ hc _; exact absurd hc (by decide))).trans hR2.blk; have d0 := cell_of_row w2 rb 3 _ _ _ hrb2; have d1 := frozen_of_row w2 rb 3 _ _ hrb2; obtain ⟨g', cap', rfl⟩ := Joins.ownsRow_form hown' (by omega); have hHG := Lib.hid hgrow'; clear hown' hgrow')
      all_goals go_wp2
      all_goals refine bodyPost_end (results_none rfl _ _ _) rfl ⟨rfl, _, _, hP, hB2.setCell (p := ⟨rb, 3, none⟩) hR2.b1 _, by have h9 : (wc.alloc _).heap.size ≤ w2.heap.size := hz2; simp at h9; simp; omega, hKW2.push2 hzW2 hHG.out⟩
end
end Go.Proofs.YtoiokbdipcecnaaGreatDoor
namespace Go.Proofs.YtoiokbdipcecnaaGreatDoor
open Go.RowKit Go.Maps Go.WideMaps
set_option maxRecDepth 100000
section
variable {w : World} {B rb lb nb : Nat} {vl vls : Value} {st : RS} {line : Int}
set_option maxHeartbeats 4000000 in
theorem read_push0B (s0 s nm0 rest : ByteArray) (i : Nat) (op tk : Int) (_hs : s0.size ≤ 65536) (_hz : s.size ≤ 65536) (htrim0 : ∀ w, Calls Tryz.prog 49 #[.string s0, .string ⟨#[32, 9]⟩] w fun e w' => e = .returned (.string s) ∧ Below w.heap.size w w') (hempty : s.toList.isEmpty = false) (hsuf0 : ∀ w, Calls Tryz.prog 128 #[.string s, .string ⟨#[58]⟩] w fun e w' => e = .returned (.tuple #[.string nm0, .bool false]) ∧ w = w') (hany0 : ∀ w, Calls Tryz.prog 131 #[.string s, .string ⟨#[32, 9]⟩] w fun e w' => e = .returned (.int .i64 (i : Nat)) ∧ Below w.heap.size w w') (hi : i < s.size) (htrib0 : ∀ w, Calls Tryz.prog 49 #[.string (s.extract i s.size), .string ⟨#[32, 9]⟩] w fun e w' => e = .returned (.string rest) ∧ Below w.heap.size w w') (_hrz : rest.size ≤ 65536) (hop0 : ∀ w, Calls Tryz.prog 132 #[.string (s.extract 0 i)] w fun e w' => e = .returned (.int .i64 op) ∧ Below w.heap.size w w') (htk0 : ∀ w, Calls Tryz.prog 81 #[.int .i64 op] w fun e w' => e = .returned (.int .i64 tk) ∧ Below w.heap.size w w') (o0 : (op == 0) = false) (t0 : (tk == 0) = true) (hr : rest.toList.isEmpty = true) (hl : st.l.length < 400) (hl2 : st.lines.length < 400) (h : Rd w B rb lb nb vl vls st line) :
    Calls Tryz.prog 96 #[.pointer (some ⟨rb, 0, none⟩), .string s0] w fun e w' => Pushed w B rb lb nb vl vls { st with l := st.l ++ [(op, 0)], lines := st.lines ++ [line] } line e w' := by
  have htrim := Lib.hid htrim0
  clear htrim0
  have hsuf := Lib.hid hsuf0
  clear hsuf0
  have hany := Lib.hid hany0
  clear hany0
  have hop := Lib.hid hop0
  clear hop0
  have htk := Lib.hid htk0
  clear htk0
  have htrib := Lib.hid htrib0
  clear htrib0
  go_enter Tryz.func96, Tryz.ntmps96
  go_upto_region 15 with (first | (go_at_call 49; (with_reducible refine (htrim.out _).mono ?_); rintro e w1 ⟨rfl, hB1⟩) | (go_at_call 128; refine (hsuf.out _).mono ?_; rintro e w2 ⟨rfl, rfl⟩) | (go_at_call 131; (with_reducible refine (hany.out _).mono ?_); rintro e w3 ⟨rfl, hb3⟩; have hB3 := (hB1).trans (hb3.mono hB1.size)) | (go_at_call 49; (with_reducible refine (htrib.out _).mono ?_); rintro e w4 ⟨rfl, hb4⟩; have hB4 := (hB3.drew).trans (hb4.mono hB3.size)) | (go_at_call 132; (with_reducible refine (hop.out _).mono ?_); rintro e w5 ⟨rfl, hb5⟩; have hB5 := (hB4).trans (hb5.mono hB4.size)) | (go_at_call 81; (with_reducible refine (htk.out _).mono ?_); rintro e w6 ⟨rfl, hb6⟩; have hB6 := (hB5).trans (hb6.mono hB5.size); have h6 := h.below hB6; obtain ⟨c0, c1, c2, c3, c4⟩ := h6.cells; have hrb := h6.lt (.inl rfl)))
  go_cut [8, 9] (fun v8 v9 wx => v8 = .string (s.extract 0 i) ∧ v9 = .string rest ∧ Below w.heap.size w wx)
  case first =>
    go_region_with (first | (go_at_call 49; (with_reducible refine (htrim.out _).mono ?_); rintro e w1 ⟨rfl, hB1⟩) | (go_at_call 128; refine (hsuf.out _).mono ?_; rintro e w2 ⟨rfl, rfl⟩) | (go_at_call 131; (with_reducible refine (hany.out _).mono ?_); rintro e w3 ⟨rfl, hb3⟩; have hB3 := (hB1).trans (hb3.mono hB1.size)) | (go_at_call 49; (with_reducible refine (htrib.out _).mono ?_); rintro e w4 ⟨rfl, hb4⟩; have hB4 := (hB3.drew).trans (hb4.mono hB3.size)) | (go_at_call 132; (with_reducible refine (hop.out _).mono ?_); rintro e w5 ⟨rfl, hb5⟩; have hB5 := (hB4).trans (hb5.mono hB4.size)) | (go_at_call 81; (with_reducible refine (htk.out _).mono ?_); rintro e w6 ⟨rfl, hb6⟩; have hB6 := (hB5).trans (hb6.mono hB5.size); have h6 := h.below hB6; obtain ⟨c0, c1, c2, c3, c4⟩ := h6.cells; have hrb := h6.lt (.inl rfl)))
    all_goals (go_wp2_with fail; go_meet; exact ⟨rfl, rfl, hB4⟩)
  case rest =>
    obtain ⟨rfl, rfl, hB4⟩ := hcut
    go_upto_region 23 with (first | (go_at_call 49; (with_reducible refine (htrim.out _).mono ?_); rintro e w1 ⟨rfl, hB1⟩) | (go_at_call 128; refine (hsuf.out _).mono ?_; rintro e w2 ⟨rfl, rfl⟩) | (go_at_call 131; (with_reducible refine (hany.out _).mono ?_); rintro e w3 ⟨rfl, hb3⟩; have hB3 := (hB1).trans (hb3.mono hB1.size)) | (go_at_call 49; (with_reducible refine (htrib.out _).mono ?_); rintro e w4 ⟨rfl, hb4⟩; have hB4 := (hB3.drew).trans (hb4.mono hB3.size)) | (go_at_call 132; (with_reducible refine (hop.out _).mono ?_); rintro e w5 ⟨rfl, hb5⟩; have hB5 := (hB4).trans (hb5.mono hB4.size)) | (go_at_call 81; (with_reducible refine (htk.out _).mono ?_); rintro e w6 ⟨rfl, hb6⟩; have hB6 := (hB5).trans (hb6.mono hB5.size); have h6 := h.below hB6; obtain ⟨c0, c1, c2, c3, c4⟩ := h6.cells; have hrb := h6.lt (.inl rfl)))
    refine wp_gen (fun W => Rd W B rb lb nb vl vls { st with named := st.named } line ∧ W.heap[w6.heap.size]? = some (.cells #[.int .i64 op, .int .i64 0] 82) ∧ Below B w W ∧ w.heap.size ≤ W.heap.size ∧ Keep w W rb lb nb vl vls) ⟨h6.below (Below.alloc (Below.refl _ _) (Nat.le_refl _) _), heap_alloc_new w6 _, ((hB6.mono (by have := lt_of_block h.blk; have := h.b1; omega)).alloc (by have := lt_of_block h6.blk; have := h6.b1; omega) _), by have := hB6.size; simp; omega, fun g hg _ => (Below.heap_alloc w6 _ g (by have := hB6.size; omega)).trans (hB6.block g hg)⟩ ?_
    generalize w6.heap.size = xb
    rintro W ⟨hR, hx, hBW, hzW, hKW⟩
    clear c0 c1 c2 c3 c4 h6
    obtain ⟨ao, cap, hvl⟩ := (vl_form hR).1
    subst hvl
    obtain ⟨c0, c1, c2, c3, c4⟩ := hR.cells
    obtain ⟨x0, x1, xf⟩ := two_cells hx
    have hful : ((st.l.length : Int) == 400) = false := by simp; omega
    have hlR := hR.n1
    go_upto_region 25 with fail
    obtain ⟨i0, hi0, hz0, hz1, hz2⟩ := info_parts info82
    have hf0 := hR.frozen 0
    have hrbW := hR.lt (.inl rfl)
    go_cut [0] (fun v0 wx => v0 = .pointer (some ⟨rb, 0, none⟩) ∧ ∃ v', Rd wx B rb lb nb v' vls { st with l := st.l ++ [(op, 0)], named := st.named } line ∧ Below B w wx ∧ w.heap.size ≤ wx.heap.size ∧ Keep w wx rb lb nb (.slice ao st.l.length cap) vls)
    case first =>
      go_region_law (refine step_append_own rfl (.tmp 107) (.tmp 109) 45 rfl B 82 i0 (.agg #[.int .i64 0, .int .i64 0]) 2 16 Tryz.underlying45 hi0 hz0 hz1 hz2 rfl (by decide) (.slice ao st.l.length cap) st.l.length (instrCells st.l) rfl ((hR.own.alloc _).drew) ⟨W.heap.size, 0, none⟩ 1 1 [.int .i64 op, .int .i64 0] rfl rfl (news_two W _ _ _) int_two (by unfold maxLen; omega) (by omega) (by have := lt_of_block hR.blk; have := hR.b1; show B ≤ (W.alloc _).heap.size; simp; omega) ?_; intro v' w2 hown' hgrow' _; have hP := hR.push1 hl hown' (fun g h1 h2 => grow_keep hgrow' g h1 h2); have hB2 := ((hBW.alloc (by have := lt_of_block hR.blk; have := hR.b1; omega) _).drew).grown hgrow' (by have := lt_of_block hR.blk; have := hR.b1; show B ≤ (W.alloc _).heap.size; simp; omega) (fun k e => own_base hR.own e.symm); have hz2 := hgrow'.size; have hrb2 := (grow_keep hgrow' rb (lt_of_block hR.blk) (fun e => by obtain ⟨_, hc⟩ := own_block hR.own e.symm; rw [hR.blk] at hc; injection hc with hc; injection hc with _ hc _; exact absurd hc (by decide))).trans hR.blk; have d0 := cell_of_row w2 rb 0 _ _ _ hrb2; have d1 := frozen_of_row w2 rb 0 _ _ hrb2; obtain ⟨g', cap', rfl⟩ := Joins.ownsRow_form hown' (by omega); have hHG := Lib.hid hgrow'; clear hown' hgrow')
      all_goals (go_wp2_with fail; go_meet; exact ⟨rfl, _, hP, hB2.setCell (p := ⟨rb, 0, none⟩) hR.b1 _, by have h9 : (W.alloc _).heap.size ≤ w2.heap.size := hz2; simp at h9; simp; omega, hKW.push1 hzW hHG.out⟩)
    case rest =>
      obtain ⟨rfl, vl2, hR2, hBW2, hzW2, hKW2⟩ := hcut
      clear hR hBW hzW x0 x1 xf hx c0 c1 c2 c3 c4 hi0 hz0 hz1 hz2 hf0 hrbW
      obtain ⟨ao2, cap2, hvls⟩ := (vl_form hR2).2
      subst hvls
      obtain ⟨c0, c1, c2, c3, c4⟩ := hR2.cells
      obtain ⟨i1, hi1, hy0, hy1, hy2⟩ := info_parts info3
      have hf3 := hR2.frozen 3
      have hrbW := hR2.lt (.inl rfl)
      go_upto_region 26 with fail
      go_region_law (refine step_append_own rfl (.tmp 117) (.tmp 122) 27 rfl B 3 i1 (.int .i64 0) 1 8 Tryz.underlying27 hi1 hy0 hy1 hy2 rfl (by decide) (.slice ao2 st.lines.length cap2) st.lines.length (intCells st.lines) rfl ((hR2.ownl.alloc _).drew) ⟨wc.heap.size, 0, none⟩ 1 1 [.int .i64 line] rfl rfl (news_one wc _ _) int_one (by unfold maxLen; omega) (by omega) (by have := lt_of_block hR2.blk; have := hR2.b1; show B ≤ (wc.alloc _).heap.size; simp; omega) ?_; intro v' w2 hown' hgrow' _; have hP := hR2.push2 hl2 hown' (fun g h1 h2 => grow_keep hgrow' g h1 h2); have hB2 := ((hBW2.alloc (by have := lt_of_block hR2.blk; have := hR2.b1; omega) _).drew).grown hgrow' (by have := lt_of_block hR2.blk; have := hR2.b1; show B ≤ (wc.alloc _).heap.size; simp; omega) (fun k e => own_base hR2.ownl e.symm); have hz2 := hgrow'.size; have hrb2 := (grow_keep hgrow' rb (lt_of_block hR2.blk) (fun e => by obtain ⟨_, hc⟩ := own_block hR2.ownl e.symm; rw [hR2.blk] at hc; injection hc with hc; injection hc with _ hc _; exact absurd hc (by decide))).trans hR2.blk; have d0 := cell_of_row w2 rb 3 _ _ _ hrb2; have d1 := frozen_of_row w2 rb 3 _ _ hrb2; obtain ⟨g', cap', rfl⟩ := Joins.ownsRow_form hown' (by omega); have hHG := Lib.hid hgrow'; clear hown' hgrow')
      all_goals go_wp2
      all_goals refine bodyPost_end (results_none rfl _ _ _) rfl ⟨rfl, _, _, hP, hB2.setCell (p := ⟨rb, 3, none⟩) hR2.b1 _, by have h9 : (wc.alloc _).heap.size ≤ w2.heap.size := hz2; simp at h9; simp; omega, hKW2.push2 hzW2 hHG.out⟩
end
end Go.Proofs.YtoiokbdipcecnaaGreatDoor
namespace Go.Proofs.YtoiokbdipcecnaaGreatDoor
open Go.RowKit Go.Maps Go.WideMaps
set_option maxRecDepth 100000
section
variable {w : World} {B rb lb nb : Nat} {vl vls : Value} {st : RS} {line : Int}
set_option maxHeartbeats 4000000 in
theorem read_push0A (s0 s nm0 : ByteArray) (i : Int) (op tk : Int) (_hs : s0.size ≤ 65536) (_hz : s.size ≤ 65536) (htrim0 : ∀ w, Calls Tryz.prog 49 #[.string s0, .string ⟨#[32, 9]⟩] w fun e w' => e = .returned (.string s) ∧ Below w.heap.size w w') (hempty : s.toList.isEmpty = false) (hsuf0 : ∀ w, Calls Tryz.prog 128 #[.string s, .string ⟨#[58]⟩] w fun e w' => e = .returned (.tuple #[.string nm0, .bool false]) ∧ w = w') (hany0 : ∀ w, Calls Tryz.prog 131 #[.string s, .string ⟨#[32, 9]⟩] w fun e w' => e = .returned (.int .i64 i) ∧ Below w.heap.size w w') (hi : i < 0) (hop0 : ∀ w, Calls Tryz.prog 132 #[.string s] w fun e w' => e = .returned (.int .i64 op) ∧ Below w.heap.size w w') (htk0 : ∀ w, Calls Tryz.prog 81 #[.int .i64 op] w fun e w' => e = .returned (.int .i64 tk) ∧ Below w.heap.size w w') (o0 : (op == 0) = false) (t0 : (tk == 0) = true) (hl : st.l.length < 400) (hl2 : st.lines.length < 400) (h : Rd w B rb lb nb vl vls st line) :
    Calls Tryz.prog 96 #[.pointer (some ⟨rb, 0, none⟩), .string s0] w fun e w' => Pushed w B rb lb nb vl vls { st with l := st.l ++ [(op, 0)], lines := st.lines ++ [line] } line e w' := by
  have htrim := Lib.hid htrim0
  clear htrim0
  have hsuf := Lib.hid hsuf0
  clear hsuf0
  have hany := Lib.hid hany0
  clear hany0
  have hop := Lib.hid hop0
  clear hop0
  have htk := Lib.hid htk0
  clear htk0
  go_enter Tryz.func96, Tryz.ntmps96
  go_upto_region 23 with (first | (go_at_call 49; (with_reducible refine (htrim.out _).mono ?_); rintro e w1 ⟨rfl, hB1⟩) | (go_at_call 128; refine (hsuf.out _).mono ?_; rintro e w2 ⟨rfl, rfl⟩) | (go_at_call 131; (with_reducible refine (hany.out _).mono ?_); rintro e w3 ⟨rfl, hb3⟩; have hB3 := (hB1).trans (hb3.mono hB1.size)) | (go_at_call 132; (with_reducible refine (hop.out _).mono ?_); rintro e w5 ⟨rfl, hb5⟩; have hB5 := (hB3).trans (hb5.mono hB3.size)) | (go_at_call 81; (with_reducible refine (htk.out _).mono ?_); rintro e w6 ⟨rfl, hb6⟩; have hB6 := (hB5).trans (hb6.mono hB5.size); have h6 := h.below hB6; obtain ⟨c0, c1, c2, c3, c4⟩ := h6.cells; have hrb := h6.lt (.inl rfl)))
  refine wp_gen (fun W => Rd W B rb lb nb vl vls { st with named := st.named } line ∧ W.heap[w6.heap.size]? = some (.cells #[.int .i64 op, .int .i64 0] 82) ∧ Below B w W ∧ w.heap.size ≤ W.heap.size ∧ Keep w W rb lb nb vl vls) ⟨h6.below (Below.alloc (Below.refl _ _) (Nat.le_refl _) _), heap_alloc_new w6 _, ((hB6.mono (by have := lt_of_block h.blk; have := h.b1; omega)).alloc (by have := lt_of_block h6.blk; have := h6.b1; omega) _), by have := hB6.size; simp; omega, fun g hg _ => (Below.heap_alloc w6 _ g (by have := hB6.size; omega)).trans (hB6.block g hg)⟩ ?_
  generalize w6.heap.size = xb
  rintro W ⟨hR, hx, hBW, hzW, hKW⟩
  clear c0 c1 c2 c3 c4 h6
  obtain ⟨ao, cap, hvl⟩ := (vl_form hR).1
  subst hvl
  obtain ⟨c0, c1, c2, c3, c4⟩ := hR.cells
  obtain ⟨x0, x1, xf⟩ := two_cells hx
  have hful : ((st.l.length : Int) == 400) = false := by simp; omega
  have hlR := hR.n1
  go_upto_region 25 with fail
  obtain ⟨i0, hi0, hz0, hz1, hz2⟩ := info_parts info82
  have hf0 := hR.frozen 0
  have hrbW := hR.lt (.inl rfl)
  go_cut [0] (fun v0 wx => v0 = .pointer (some ⟨rb, 0, none⟩) ∧ ∃ v', Rd wx B rb lb nb v' vls { st with l := st.l ++ [(op, 0)], named := st.named } line ∧ Below B w wx ∧ w.heap.size ≤ wx.heap.size ∧ Keep w wx rb lb nb (.slice ao st.l.length cap) vls)
  case first =>
    go_region_law (refine step_append_own rfl (.tmp 107) (.tmp 109) 45 rfl B 82 i0 (.agg #[.int .i64 0, .int .i64 0]) 2 16 Tryz.underlying45 hi0 hz0 hz1 hz2 rfl (by decide) (.slice ao st.l.length cap) st.l.length (instrCells st.l) rfl ((hR.own.alloc _).drew) ⟨W.heap.size, 0, none⟩ 1 1 [.int .i64 op, .int .i64 0] rfl rfl (news_two W _ _ _) int_two (by unfold maxLen; omega) (by omega) (by have := lt_of_block hR.blk; have := hR.b1; show B ≤ (W.alloc _).heap.size; simp; omega) ?_; intro v' w2 hown' hgrow' _; have hP := hR.push1 hl hown' (fun g h1 h2 => grow_keep hgrow' g h1 h2); have hB2 := ((hBW.alloc (by have := lt_of_block hR.blk; have := hR.b1; omega) _).drew).grown hgrow' (by have := lt_of_block hR.blk; have := hR.b1; show B ≤ (W.alloc _).heap.size; simp; omega) (fun k e => own_base hR.own e.symm); have hz2 := hgrow'.size; have hrb2 := (grow_keep hgrow' rb (lt_of_block hR.blk) (fun e => by obtain ⟨_, hc⟩ := own_block hR.own e.symm; rw [hR.blk] at hc; injection hc with hc; injection hc with _ hc _; exact absurd hc (by decide))).trans hR.blk; have d0 := cell_of_row w2 rb 0 _ _ _ hrb2; have d1 := frozen_of_row w2 rb 0 _ _ hrb2; obtain ⟨g', cap', rfl⟩ := Joins.ownsRow_form hown' (by omega); have hHG := Lib.hid hgrow'; clear hown' hgrow')
    all_goals (go_wp2_with fail; go_meet; exact ⟨rfl, _, hP, hB2.setCell (p := ⟨rb, 0, none⟩) hR.b1 _, by have h9 : (W.alloc _).heap.size ≤ w2.heap.size := hz2; simp at h9; simp; omega, hKW.push1 hzW hHG.out⟩)
  case rest =>
    obtain ⟨rfl, vl2, hR2, hBW2, hzW2, hKW2⟩ := hcut
    clear hR hBW hzW x0 x1 xf hx c0 c1 c2 c3 c4 hi0 hz0 hz1 hz2 hf0 hrbW
    obtain ⟨ao2, cap2, hvls⟩ := (vl_form hR2).2
    subst hvls
    obtain ⟨c0, c1, c2, c3, c4⟩ := hR2.cells
    obtain ⟨i1, hi1, hy0, hy1, hy2⟩ := info_parts info3
    have hf3 := hR2.frozen 3
    have hrbW := hR2.lt (.inl rfl)
    go_upto_region 26 with fail
    go_region_law (refine step_append_own rfl (.tmp 117) (.tmp 122) 27 rfl B 3 i1 (.int .i64 0) 1 8 Tryz.underlying27 hi1 hy0 hy1 hy2 rfl (by decide) (.slice ao2 st.lines.length cap2) st.lines.length (intCells st.lines) rfl ((hR2.ownl.alloc _).drew) ⟨wc.heap.size, 0, none⟩ 1 1 [.int .i64 line] rfl rfl (news_one wc _ _) int_one (by unfold maxLen; omega) (by omega) (by have := lt_of_block hR2.blk; have := hR2.b1; show B ≤ (wc.alloc _).heap.size; simp; omega) ?_; intro v' w2 hown' hgrow' _; have hP := hR2.push2 hl2 hown' (fun g h1 h2 => grow_keep hgrow' g h1 h2); have hB2 := ((hBW2.alloc (by have := lt_of_block hR2.blk; have := hR2.b1; omega) _).drew).grown hgrow' (by have := lt_of_block hR2.blk; have := hR2.b1; show B ≤ (wc.alloc _).heap.size; simp; omega) (fun k e => own_base hR2.ownl e.symm); have hz2 := hgrow'.size; have hrb2 := (grow_keep hgrow' rb (lt_of_block hR2.blk) (fun e => by obtain ⟨_, hc⟩ := own_block hR2.ownl e.symm; rw [hR2.blk] at hc; injection hc with hc; injection hc with _ hc _; exact absurd hc (by decide))).trans hR2.blk; have d0 := cell_of_row w2 rb 3 _ _ _ hrb2; have d1 := frozen_of_row w2 rb 3 _ _ hrb2; obtain ⟨g', cap', rfl⟩ := Joins.ownsRow_form hown' (by omega); have hHG := Lib.hid hgrow'; clear hown' hgrow')
    all_goals go_wp2
    all_goals refine bodyPost_end (results_none rfl _ _ _) rfl ⟨rfl, _, _, hP, hB2.setCell (p := ⟨rb, 3, none⟩) hR2.b1 _, by have h9 : (wc.alloc _).heap.size ≤ w2.heap.size := hz2; simp at h9; simp; omega, hKW2.push2 hzW2 hHG.out⟩
end
end Go.Proofs.YtoiokbdipcecnaaGreatDoor
namespace Go.Proofs.YtoiokbdipcecnaaGreatDoor
open Go.RowKit Go.Maps Go.WideMaps
set_option maxRecDepth 100000

/-- the Op of a word; 0: none -/
def opOfLN (l : List UInt8) : Nat → Int → Int
  | 0, _ => 0
  | n + 1, op => if (opRow op).1 == l then op else opOfLN l n (op + 1)
def opOfL (l : List UInt8) : Int := opOfLN l 22 1
theorem S_toList (l : List UInt8) : (S l).toList = l := by rw [ByteArray.toList_eq]; rfl
theorem S_data (l : List UInt8) : (S l).data.toList = l := rfl
theorem S_size (l : List UInt8) : (S l).size = l.length := by simp [S, ByteArray.size]
theorem opOf_list (s : ByteArray) : opOfB s = opOfL s.data.toList := by
  have : ∀ n op, opOfN s n op = opOfLN s.data.toList n op := by
    intro n
    induction n with
    | zero => intro op; rfl
    | succ n ih =>
      intro op
      simp only [opOfN, opOfLN, ih, word, ByteArray.toList_eq, S_data]
  exact this 22 1

/-- what a line comes to: the new state, or an error -/
def readS (st : RS) (line : Int) (l0 : List UInt8) : Except Int RS :=
  let l := Lib.trimS l0 [32, 9]
  if l.isEmpty then .ok st
  else if Lib.hasSuffix l [58] then
    let nm := Lib.trimSuffix l [58]
    if isNameB nm = false then .error 153
    else if (labAt st.labels nm).isSome then .error 154
    else if st.labels.length = 400 then .error 150
    else .ok { st with labels := (nm, st.l.length) :: st.labels }
  else
    let i := Lib.indexAny l [32, 9]
    let wd := if i < 0 then l else l.take i.toNat
    let rest := if i < 0 then [] else Lib.trimS (l.drop i.toNat) [32, 9]
    let op := opOfL wd
    if op = 0 then .error 153
    else if takes op = 0 then
      if rest.isEmpty = false then .error 153
      else if st.l.length = 400 then .error 150
      else .ok { st with l := st.l ++ [(op, 0)], lines := st.lines ++ [line] }
    else if rest.isEmpty then .error 153
    else match operandS st (takes op) rest with
      | none => .error 153
      | some (a, nm) => if st.l.length = 400 then .error 150 else .ok { st with l := st.l ++ [(op, a)], lines := st.lines ++ [line], named := nm }

/-- what holds of a state besides -/
structure RS.Ok (st : RS) : Prop where
  a : st.lines.length = st.l.length
  b : st.named.length ≤ st.l.length

def ReadDoes (w : World) (B rb lb nb : Nat) (vl vls : Value) (st : RS) (line : Int) (l0 : List UInt8) (e : Ending) (w' : World) : Prop :=
  match readS st line l0 with
  | .error er => e = fault er line ∧ Below B w w' ∧ w.heap.size ≤ w'.heap.size
  | .ok st' => Pushed w B rb lb nb vl vls st' line e w'

theorem trimS_length (l cs : List UInt8) : (Lib.trimS l cs).length ≤ l.length := by
  unfold Lib.trimS Lib.trimLeftS Lib.trimRightS
  have h1 := (List.dropWhile_sublist (fun x => cs.contains x) (l := (l.reverse.dropWhile fun x => cs.contains x).reverse)).length_le
  have h2 := (List.dropWhile_sublist (fun x => cs.contains x) (l := l.reverse)).length_le
  simp only [List.length_reverse] at h1 h2
  omega
theorem trimSuffix_length (l p : List UInt8) : (Lib.trimSuffix l p).length ≤ l.length := by
  unfold Lib.trimSuffix
  split <;> simp
theorem indexAny_lt (cs : List UInt8) : ∀ l : List UInt8, Lib.indexAny l cs < l.length ∧ -1 ≤ Lib.indexAny l cs
  | [] => by simp [Lib.indexAny]
  | c :: l => by
    have ih := indexAny_lt cs l
    simp only [Lib.indexAny, List.length_cons]
    split
    · omega
    · split
      · omega
      · omega
def Asc (l : List UInt8) : Prop := ∀ c ∈ l, c.toNat < 128
theorem Asc.at {l : List UInt8} (h : Asc l) : ∀ (j : Nat) (b : UInt8), l[j]? = some b → b.toNat < 128 := fun _j b hj => h b (List.mem_of_getElem? hj)
theorem Asc.trimS {l : List UInt8} (h : Asc l) (cs : List UInt8) : Asc (Lib.trimS l cs) := by
  intro c hc
  refine h c ?_
  unfold Lib.trimS Lib.trimLeftS Lib.trimRightS at hc
  have h1 := (List.dropWhile_sublist (fun x => cs.contains x) (l := (l.reverse.dropWhile fun x => cs.contains x).reverse)).subset hc
  have h2 := (List.dropWhile_sublist (fun x => cs.contains x) (l := l.reverse)).subset (List.mem_reverse.1 h1)
  exact List.mem_reverse.1 h2
/-- strings.IndexAny at blank and tab -/
theorem IndexAny_any (l : List UInt8) (w : World) (hs : l.length ≤ 65536) :
    Calls Tryz.prog 131 #[.string (S l), .string ⟨#[32, 9]⟩] w fun e w' => e = .returned (.int .i64 (Lib.indexAny l [32, 9])) ∧ Below w.heap.size w w' :=
  IndexAny_every (S l) w (by rw [S_size]; omega)
theorem extract_take (l : List UInt8) (k : Nat) : (S l).extract 0 k = S (l.take k) := by
  apply ByteArray.ext
  apply Array.ext'
  rw [Lib.extract_from_zero]
  rfl
theorem extract_drop (l : List UInt8) (k : Nat) : (S l).extract k (S l).size = S (l.drop k) := by
  apply ByteArray.ext
  apply Array.ext'
  rw [Lib.extract_to_end]
  rfl

section
variable {w : World} {B rb lb nb : Nat} {vl vls : Value} {st : RS} {line : Int}
theorem read_any (l0 : List UInt8) (hs : l0.length ≤ 65536) (he : Env w) (hok : st.Ok) (h : Rd w B rb lb nb vl vls st line) :
    Calls Tryz.prog 96 #[.pointer (some ⟨rb, 0, none⟩), .string (S l0)] w (ReadDoes w B rb lb nb vl vls st line l0) := by
  have hB : B ≤ w.heap.size := by have := lt_of_block h.blk; have := h.b1; omega
  have hs0 : (S l0).size ≤ 65536 := by rw [S_size]; exact hs
  obtain ⟨l, hl⟩ : ∃ l, l = Lib.trimS l0 [32, 9] := ⟨_, rfl⟩
  have hlz : l.length ≤ 65536 := by rw [hl]; exact Nat.le_trans (trimS_length _ _) hs
  have hsz : (S l).size ≤ 65536 := by rw [S_size]; exact hlz
  have htrim : ∀ w, Calls Tryz.prog 49 #[.string (S l0), .string ⟨#[32, 9]⟩] w fun e w' => e = .returned (.string (S l)) ∧ Below w.heap.size w w' := fun w => by
    rw [hl]; exact Trim_any (S l0) w hs0
  have bad : ∀ er, readS st line l0 = .error er → (Calls Tryz.prog 96 #[.pointer (some ⟨rb, 0, none⟩), .string (S l0)] w fun e w' => e = fault er line ∧ Below w.heap.size w w') →
      Calls Tryz.prog 96 #[.pointer (some ⟨rb, 0, none⟩), .string (S l0)] w (ReadDoes w B rb lb nb vl vls st line l0) := fun er hr hc =>
    hc.mono fun e w' ⟨h1, h2⟩ => by unfold ReadDoes; rw [hr]; exact ⟨h1, h2.mono hB, h2.size⟩
  have full : readS st line l0 = .error 150 → (Calls Tryz.prog 96 #[.pointer (some ⟨rb, 0, none⟩), .string (S l0)] w fun e w' => e = fault 150 line ∧ Below B w w' ∧ w.heap.size ≤ w'.heap.size) →
      Calls Tryz.prog 96 #[.pointer (some ⟨rb, 0, none⟩), .string (S l0)] w (ReadDoes w B rb lb nb vl vls st line l0) := fun hr hc =>
    hc.mono fun e w' h1 => by unfold ReadDoes; rw [hr]; exact h1
  have good : ∀ st', readS st line l0 = .ok st' → Calls Tryz.prog 96 #[.pointer (some ⟨rb, 0, none⟩), .string (S l0)] w (Pushed w B rb lb nb vl vls st' line) →
      Calls Tryz.prog 96 #[.pointer (some ⟨rb, 0, none⟩), .string (S l0)] w (ReadDoes w B rb lb nb vl vls st line l0) := fun st' hr hc =>
    hc.mono fun e w' h1 => by unfold ReadDoes; rw [hr]; exact h1
  have unf : readS st line l0 = readS st line l0 := rfl
  conv at unf => rhs; unfold readS
  simp only [← hl] at unf
  cases hem : l.isEmpty with
  | true =>
    refine good st (by rw [unf, hem]; rfl) ((read_empty (S l0) (S l) hs0 hsz htrim (by rw [S_toList]; exact hem) h).mono fun e w' ⟨h1, h2⟩ => ⟨h1, vl, vls, h.below h2, h2.mono hB, h2.size, .of_below h2⟩)
  | false =>
    have hemS : (S l).toList.isEmpty = false := by rw [S_toList]; exact hem
    rw [hem] at unf
    simp only [Bool.false_eq_true, if_false] at unf
    have hsuf : ∀ w, Calls Tryz.prog 128 #[.string (S l), .string ⟨#[58]⟩] w fun e w' => e = .returned (.tuple #[.string (S (Lib.trimSuffix l [58])), .bool (Lib.hasSuffix l [58])]) ∧ w = w' := fun w => CutSuffix_any (S l) w hsz
    cases hsf : Lib.hasSuffix l [58] with
    | true =>
      rw [hsf] at unf hsuf
      simp only [if_true] at unf
      obtain ⟨nm, hnm⟩ : ∃ nm, nm = Lib.trimSuffix l [58] := ⟨_, rfl⟩
      rw [← hnm] at unf hsuf
      have hnz : (S nm).size ≤ 65536 := by rw [S_size, hnm]; exact Nat.le_trans (trimSuffix_length _ _) hlz
      cases hin : isNameB nm with
      | false => exact bad 153 (by rw [unf, hin]; rfl) (read_label_bad (S l0) (S l) (S nm) hs0 hsz htrim hsuf hemS hnz hin h)
      | true =>
        rw [hin] at unf
        simp only [Bool.true_eq_false, if_false] at unf
        have hlab := (lab_has nm st.labels).1
        cases hh : (labAt st.labels nm).isSome with
        | true => exact bad 154 (by rw [unf, hh]; rfl) (read_label_twice (S l0) (S l) (S nm) hs0 hsz htrim hsuf hemS hnz hin (hlab.trans hh) h)
        | false =>
          rw [hh] at unf
          simp only [Bool.false_eq_true, if_false] at unf
          by_cases hf : st.labels.length = 400
          · exact bad 150 (unf.trans (if_pos hf)) (read_label_full (S l0) (S l) (S nm) hs0 hsz htrim hsuf hemS hnz hin (hlab.trans hh) hf h)
          · exact good _ (unf.trans (if_neg hf)) ((read_label_put (S l0) (S l) (S nm) hs0 hsz htrim hsuf hemS hnz hin (hlab.trans hh) (by have := h.n2; omega) h).mono fun e w' ⟨h1, h2, h3, h4, h5⟩ => ⟨h1, vl, vls, h2, h3, h4, h5⟩)
    | false =>
      rw [hsf] at unf hsuf
      simp only [Bool.false_eq_true, if_false] at unf
      have hany : ∀ w, Calls Tryz.prog 131 #[.string (S l), .string ⟨#[32, 9]⟩] w fun e w' => e = .returned (.int .i64 (Lib.indexAny l [32, 9])) ∧ Below w.heap.size w w' := fun w => IndexAny_any l w hlz
      obtain ⟨i, hi⟩ : ∃ i, i = Lib.indexAny l [32, 9] := ⟨_, rfl⟩
      have hib := indexAny_lt [32, 9] l
      rw [← hi] at unf hany hib
      have hopA : ∀ op, opOfL l = op → ∀ w, Calls Tryz.prog 132 #[.string (S l)] w fun e w' => e = .returned (.int .i64 op) ∧ Below w.heap.size w w' := fun op ho w => by
        have := opOf_any (S l) w
        rwa [opOf_list, S_data, ho] at this
      have htk : ∀ op w, Calls Tryz.prog 81 #[.int .i64 op] w fun e w' => e = .returned (.int .i64 (takes op)) ∧ Below w.heap.size w w' := fun op w => Takes_any op w
      by_cases hneg : i < 0
      · simp only [if_pos hneg] at unf
        obtain ⟨op, hop⟩ : ∃ op, opOfL l = op := ⟨_, rfl⟩
        rw [hop] at unf
        by_cases o0 : op = 0
        · exact bad 153 (unf.trans (if_pos o0)) (read_noneA (S l0) (S l) _ i op (takes op) hs0 hsz htrim hemS hsuf hany hneg (hopA op hop) (htk op) (by simpa using o0) h)
        · rw [if_neg o0] at unf
          have o1 : (op == 0) = false := by simpa using o0
          by_cases t0 : takes op = 0
          · rw [if_pos t0] at unf
            simp only [List.isEmpty_nil, Bool.true_eq_false, if_false] at unf
            by_cases hf : st.l.length = 400
            · exact full (unf.trans (if_pos hf)) (read_full0A (S l0) (S l) _ i op (takes op) hs0 hsz htrim hemS hsuf hany hneg (hopA op hop) (htk op) o1 (by simpa using t0) hf h)
            · exact good _ (unf.trans (if_neg hf)) (read_push0A (S l0) (S l) _ i op (takes op) hs0 hsz htrim hemS hsuf hany hneg (hopA op hop) (htk op) o1 (by simpa using t0) (by have := h.n1; omega) (by have := h.n1; have := hok.a; omega) h)
          · rw [if_neg t0] at unf
            exact bad 153 (by rw [unf]; rfl) (read_lacksA (S l0) (S l) _ i op (takes op) hs0 hsz htrim hemS hsuf hany hneg (hopA op hop) (htk op) o1 (by simpa using t0) h)
      · simp only [if_neg hneg] at unf
        obtain ⟨k, rfl⟩ := Int.eq_ofNat_of_zero_le (show 0 ≤ i by omega)
        have hk : k < (S l).size := by rw [S_size]; omega
        rw [Int.toNat_natCast] at unf
        obtain ⟨rest, hrest⟩ : ∃ rest, rest = Lib.trimS (l.drop k) [32, 9] := ⟨_, rfl⟩
        rw [← hrest] at unf
        have hrz : (S rest).size ≤ 65536 := by rw [S_size, hrest]; exact Nat.le_trans (trimS_length _ _) (by simp; omega)
        have htrib : ∀ w, Calls Tryz.prog 49 #[.string ((S l).extract k (S l).size), .string ⟨#[32, 9]⟩] w fun e w' => e = .returned (.string (S rest)) ∧ Below w.heap.size w w' := fun w => by
          rw [extract_drop, hrest]; exact Trim_any (S (l.drop k)) w (by rw [S_size]; simp; omega)
        obtain ⟨op, hop⟩ : ∃ op, opOfL (l.take k) = op := ⟨_, rfl⟩
        have hopB : ∀ w, Calls Tryz.prog 132 #[.string ((S l).extract 0 k)] w fun e w' => e = .returned (.int .i64 op) ∧ Below w.heap.size w w' := fun w => by
          rw [extract_take]
          have := opOf_any (S (l.take k)) w
          rwa [opOf_list, S_data, hop] at this
        rw [hop] at unf
        by_cases o0 : op = 0
        · exact bad 153 (unf.trans (if_pos o0)) (read_noneB (S l0) (S l) _ (S rest) k op (takes op) hs0 hsz htrim hemS hsuf hany hk htrib hrz hopB (htk op) (by simpa using o0) h)
        · rw [if_neg o0] at unf
          have o1 : (op == 0) = false := by simpa using o0
          by_cases t0 : takes op = 0
          · rw [if_pos t0] at unf
            have t1 : (takes op == 0) = true := by simpa using t0
            cases hre : rest.isEmpty with
            | false =>
              exact bad 153 (by rw [unf, hre]; rfl) (read_moreB (S l0) (S l) _ (S rest) k op (takes op) hs0 hsz htrim hemS hsuf hany hk htrib hrz hopB (htk op) o1 t1 (by rw [S_toList]; exact hre) h)
            | true =>
              rw [hre] at unf
              simp only [Bool.true_eq_false, if_false] at unf
              by_cases hf : st.l.length = 400
              · exact full (unf.trans (if_pos hf)) (read_full0B (S l0) (S l) _ (S rest) k op (takes op) hs0 hsz htrim hemS hsuf hany hk htrib hrz hopB (htk op) o1 t1 (by rw [S_toList]; exact hre) hf h)
              · exact good _ (unf.trans (if_neg hf)) (read_push0B (S l0) (S l) _ (S rest) k op (takes op) hs0 hsz htrim hemS hsuf hany hk htrib hrz hopB (htk op) o1 t1 (by rw [S_toList]; exact hre) (by have := h.n1; omega) (by have := h.n1; have := hok.a; omega) h)
          · rw [if_neg t0] at unf
            have t1 : (takes op == 0) = false := by simpa using t0
            cases hre : rest.isEmpty with
            | true =>
              exact bad 153 (by rw [unf, hre]; rfl) (read_lacksB (S l0) (S l) _ (S rest) k op (takes op) hs0 hsz htrim hemS hsuf hany hk htrib hrz hopB (htk op) o1 t1 (by rw [S_toList]; exact hre) h)
            | false =>
              rw [hre] at unf
              simp only [Bool.false_eq_true, if_false] at unf
              have hn3 : st.named.length ≤ 400 := by have := h.n1; have := hok.b; omega
              cases ho : operandS st (takes op) rest with
              | none =>
                rw [ho] at unf
                exact bad 153 unf (read_badB (S l0) (S l) _ (S rest) k op (takes op) hs0 hsz htrim hemS hsuf hany hk htrib hrz hopB (htk op) o1 t1 (by rw [S_toList]; exact hre) he hn3 ho h)
              | some p =>
                obtain ⟨a, nm⟩ := p
                rw [ho] at unf
                simp only at unf
                by_cases hf : st.l.length = 400
                · exact full (unf.trans (if_pos hf)) (read_fullnB (S l0) (S l) _ (S rest) k op (takes op) a nm hs0 hsz htrim hemS hsuf hany hk htrib hrz hopB (htk op) o1 t1 (by rw [S_toList]; exact hre) he hn3 hf ho h)
                · exact good _ (unf.trans (if_neg hf)) (read_pushnB (S l0) (S l) _ (S rest) k op (takes op) a nm hs0 hsz htrim hemS hsuf hany hk htrib hrz hopB (htk op) o1 t1 (by rw [S_toList]; exact hre) he hn3 (by have := h.n1; omega) (by have := h.n1; have := hok.a; omega) ho h)
end
end Go.Proofs.YtoiokbdipcecnaaGreatDoor
