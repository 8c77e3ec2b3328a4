/-
  (*reader).read, walked path by path: a line that is an instruction: one that is read. Condition: the reader's place in memory (Rd), the library's variables (Env), a line of at most 65536 bytes.
-/
import Derived.Test.YtoiokbdipcecnaaGreatDoorCodeRead4
import Derived.Deep.DeepCutAuto
namespace Go.Proofs.YtoiokbdipcecnaaGreatDoor
open Go.RowKit Go.Maps Go.WideMaps
set_option maxRecDepth 100000
section
variable {w : World} {B rb lb nb : Nat} {vl vls : Value} {st : RS} {line : Int}
set_option maxHeartbeats 4000000 in
theorem read_pushnB (s0 s nm0 rest : ByteArray) (i : Nat) (op tk a : Int) (nm : List (Nat × List UInt8)) (_hs : s0.size ≤ 65536) (_hz : s.size ≤ 65536) (htrim0 : ∀ w, Calls Tryz.prog 49 #[.string s0, .string ⟨#[32, 9]⟩] w fun e w' => e = .returned (.string s) ∧ Below w.heap.size w w') (hempty : s.toList.isEmpty = false) (hsuf0 : ∀ w, Calls Tryz.prog 128 #[.string s, .string ⟨#[58]⟩] w fun e w' => e = .returned (.tuple #[.string nm0, .bool false]) ∧ w = w') (hany0 : ∀ w, Calls Tryz.prog 131 #[.string s, .string ⟨#[32, 9]⟩] w fun e w' => e = .returned (.int .i64 (i : Nat)) ∧ Below w.heap.size w w') (hi : i < s.size) (htrib0 : ∀ w, Calls Tryz.prog 49 #[.string (s.extract i s.size), .string ⟨#[32, 9]⟩] w fun e w' => e = .returned (.string rest) ∧ Below w.heap.size w w') (hrz : rest.size ≤ 65536) (hop0 : ∀ w, Calls Tryz.prog 132 #[.string (s.extract 0 i)] w fun e w' => e = .returned (.int .i64 op) ∧ Below w.heap.size w w') (htk0 : ∀ w, Calls Tryz.prog 81 #[.int .i64 op] w fun e w' => e = .returned (.int .i64 tk) ∧ Below w.heap.size w w') (o0 : (op == 0) = false) (t0 : (tk == 0) = false) (hr : rest.toList.isEmpty = false) (he : Env w) (hn3 : st.named.length ≤ 400) (hl : st.l.length < 400) (hl2 : st.lines.length < 400) (ho : operandS st tk rest.data.toList = some (a, nm)) (h : Rd w B rb lb nb vl vls st line) :
    Calls Tryz.prog 96 #[.pointer (some ⟨rb, 0, none⟩), .string s0] w fun e w' => Pushed w B rb lb nb vl vls { st with l := st.l ++ [(op, a)], lines := st.lines ++ [line], named := nm } line e w' := by
  have htrim := Lib.hid htrim0
  clear htrim0
  have hsuf := Lib.hid hsuf0
  clear hsuf0
  have hany := Lib.hid hany0
  clear hany0
  have hop := Lib.hid hop0
  clear hop0
  have htk := Lib.hid htk0
  clear htk0
  have htrib := Lib.hid htrib0
  clear htrib0
  go_enter Tryz.func96, Tryz.ntmps96
  go_upto_region 15 with (first | (go_at_call 49; (with_reducible refine (htrim.out _).mono ?_); rintro e w1 ⟨rfl, hB1⟩) | (go_at_call 128; refine (hsuf.out _).mono ?_; rintro e w2 ⟨rfl, rfl⟩) | (go_at_call 131; (with_reducible refine (hany.out _).mono ?_); rintro e w3 ⟨rfl, hb3⟩; have hB3 := (hB1).trans (hb3.mono hB1.size)) | (go_at_call 49; (with_reducible refine (htrib.out _).mono ?_); rintro e w4 ⟨rfl, hb4⟩; have hB4 := (hB3.drew).trans (hb4.mono hB3.size)) | (go_at_call 132; (with_reducible refine (hop.out _).mono ?_); rintro e w5 ⟨rfl, hb5⟩; have hB5 := (hB4).trans (hb5.mono hB4.size)) | (go_at_call 81; (with_reducible refine (htk.out _).mono ?_); rintro e w6 ⟨rfl, hb6⟩; have hB6 := (hB5).trans (hb6.mono hB5.size); have h6 := h.below hB6; obtain ⟨c0, c1, c2, c3, c4⟩ := h6.cells; have hrb := h6.lt (.inl rfl)) | (go_at_call 133; refine (operand_ok rest tk a nm hrz (he.below (Below.alloc hB6 (by have := hB6.size; omega) (.cells #[.int .i64 op, .int .i64 0] 82))) (h6.below (Below.alloc (Below.refl _ _) (Nat.le_refl _) _)) hn3 ho).mono ?_; rintro e w7 ⟨rfl, h7, hb7, hz7, hk7⟩; have hx7 := (hk7 w6.heap.size (by simp) (by have := h6.lt (.inr (.inr (.inl rfl))); omega)).trans (heap_alloc_new w6 _); have hHK := Lib.hid hk7; clear hk7; obtain ⟨x0, x1, xf⟩ := two_cells hx7; have hH7 := Lib.hid hx7; clear hx7))
  go_cut [8, 9] (fun v8 v9 wx => v8 = .string (s.extract 0 i) ∧ v9 = .string rest ∧ Below w.heap.size w wx)
  case first =>
    go_region_with (first | (go_at_call 49; (with_reducible refine (htrim.out _).mono ?_); rintro e w1 ⟨rfl, hB1⟩) | (go_at_call 128; refine (hsuf.out _).mono ?_; rintro e w2 ⟨rfl, rfl⟩) | (go_at_call 131; (with_reducible refine (hany.out _).mono ?_); rintro e w3 ⟨rfl, hb3⟩; have hB3 := (hB1).trans (hb3.mono hB1.size)) | (go_at_call 49; (with_reducible refine (htrib.out _).mono ?_); rintro e w4 ⟨rfl, hb4⟩; have hB4 := (hB3.drew).trans (hb4.mono hB3.size)) | (go_at_call 132; (with_reducible refine (hop.out _).mono ?_); rintro e w5 ⟨rfl, hb5⟩; have hB5 := (hB4).trans (hb5.mono hB4.size)) | (go_at_call 81; (with_reducible refine (htk.out _).mono ?_); rintro e w6 ⟨rfl, hb6⟩; have hB6 := (hB5).trans (hb6.mono hB5.size); have h6 := h.below hB6; obtain ⟨c0, c1, c2, c3, c4⟩ := h6.cells; have hrb := h6.lt (.inl rfl)) | (go_at_call 133; refine (operand_ok rest tk a nm hrz (he.below (Below.alloc hB6 (by have := hB6.size; omega) (.cells #[.int .i64 op, .int .i64 0] 82))) (h6.below (Below.alloc (Below.refl _ _) (Nat.le_refl _) _)) hn3 ho).mono ?_; rintro e w7 ⟨rfl, h7, hb7, hz7, hk7⟩; have hx7 := (hk7 w6.heap.size (by simp) (by have := h6.lt (.inr (.inr (.inl rfl))); omega)).trans (heap_alloc_new w6 _); have hHK := Lib.hid hk7; clear hk7; obtain ⟨x0, x1, xf⟩ := two_cells hx7; have hH7 := Lib.hid hx7; clear hx7))
    all_goals (go_wp2_with fail; go_meet; exact ⟨rfl, rfl, hB4⟩)
  case rest =>
    obtain ⟨rfl, rfl, hB4⟩ := hcut
    go_upto_region 23 with (first | (go_at_call 49; (with_reducible refine (htrim.out _).mono ?_); rintro e w1 ⟨rfl, hB1⟩) | (go_at_call 128; refine (hsuf.out _).mono ?_; rintro e w2 ⟨rfl, rfl⟩) | (go_at_call 131; (with_reducible refine (hany.out _).mono ?_); rintro e w3 ⟨rfl, hb3⟩; have hB3 := (hB1).trans (hb3.mono hB1.size)) | (go_at_call 49; (with_reducible refine (htrib.out _).mono ?_); rintro e w4 ⟨rfl, hb4⟩; have hB4 := (hB3.drew).trans (hb4.mono hB3.size)) | (go_at_call 132; (with_reducible refine (hop.out _).mono ?_); rintro e w5 ⟨rfl, hb5⟩; have hB5 := (hB4).trans (hb5.mono hB4.size)) | (go_at_call 81; (with_reducible refine (htk.out _).mono ?_); rintro e w6 ⟨rfl, hb6⟩; have hB6 := (hB5).trans (hb6.mono hB5.size); have h6 := h.below hB6; obtain ⟨c0, c1, c2, c3, c4⟩ := h6.cells; have hrb := h6.lt (.inl rfl)) | (go_at_call 133; refine (operand_ok rest tk a nm hrz (he.below (Below.alloc hB6 (by have := hB6.size; omega) (.cells #[.int .i64 op, .int .i64 0] 82))) (h6.below (Below.alloc (Below.refl _ _) (Nat.le_refl _) _)) hn3 ho).mono ?_; rintro e w7 ⟨rfl, h7, hb7, hz7, hk7⟩; have hx7 := (hk7 w6.heap.size (by simp) (by have := h6.lt (.inr (.inr (.inl rfl))); omega)).trans (heap_alloc_new w6 _); have hHK := Lib.hid hk7; clear hk7; obtain ⟨x0, x1, xf⟩ := two_cells hx7; have hH7 := Lib.hid hx7; clear hx7))
    refine wp_gen (fun W => Rd W B rb lb nb vl vls { st with named := nm } line ∧ W.heap[w6.heap.size]? = some (.cells #[.int .i64 op, .int .i64 a] 82) ∧ Below B w W ∧ w.heap.size ≤ W.heap.size ∧ Keep w W rb lb nb vl vls) ⟨h7.same (fun g hg => heap_setCell_other _ _ _ _ (by have := h6.lt hg; show g ≠ w6.heap.size; omega)), set_second hH7.out, ((((hB6.mono (by have := lt_of_block h.blk; have := h.b1; omega)).alloc (by have := lt_of_block h6.blk; have := h6.b1; omega) _).trans hb7).setCell (p := ⟨w6.heap.size, 1, none⟩) (by have := lt_of_block h6.blk; have := h6.b1; show B ≤ w6.heap.size; omega) _), by have := hB6.size; simp at hz7; simp; omega, fun g hg hn => (heap_setCell_other _ _ _ _ (by have := hB6.size; show g ≠ w6.heap.size; omega)).trans ((hHK.out g (by have := hB6.size; simp; omega) (fun e => hn (.inr (.inr (.inl e))))).trans ((Below.heap_alloc w6 _ g (by have := hB6.size; omega)).trans (hB6.block g hg)))⟩ ?_
    generalize w6.heap.size = xb
    rintro W ⟨hR, hx, hBW, hzW, hKW⟩
    clear c0 c1 c2 c3 c4 h6 x0 x1 xf
    obtain ⟨ao, cap, hvl⟩ := (vl_form hR).1
    subst hvl
    obtain ⟨c0, c1, c2, c3, c4⟩ := hR.cells
    obtain ⟨x0, x1, xf⟩ := two_cells hx
    have hful : ((st.l.length : Int) == 400) = false := by simp; omega
    have hlR := hR.n1
    go_upto_region 25 with fail
    obtain ⟨i0, hi0, hz0, hz1, hz2⟩ := info_parts info82
    have hf0 := hR.frozen 0
    have hrbW := hR.lt (.inl rfl)
    go_cut [0] (fun v0 wx => v0 = .pointer (some ⟨rb, 0, none⟩) ∧ ∃ v', Rd wx B rb lb nb v' vls { st with l := st.l ++ [(op, a)], named := nm } line ∧ Below B w wx ∧ w.heap.size ≤ wx.heap.size ∧ Keep w wx rb lb nb (.slice ao st.l.length cap) vls)
    case first =>
      go_region_law (refine step_append_own rfl (.tmp 107) (.tmp 109) 45 rfl B 82 i0 (.agg #[.int .i64 0, .int .i64 0]) 2 16 Tryz.underlying45 hi0 hz0 hz1 hz2 rfl (by decide) (.slice ao st.l.length cap) st.l.length (instrCells st.l) rfl ((hR.own.alloc _).drew) ⟨W.heap.size, 0, none⟩ 1 1 [.int .i64 op, .int .i64 a] rfl rfl (news_two W _ _ _) int_two (by unfold maxLen; omega) (by omega) (by have := lt_of_block hR.blk; have := hR.b1; show B ≤ (W.alloc _).heap.size; simp; omega) ?_; intro v' w2 hown' hgrow' _; have hP := hR.push1 hl hown' (fun g h1 h2 => grow_keep hgrow' g h1 h2); have hB2 := ((hBW.alloc (by have := lt_of_block hR.blk; have := hR.b1; omega) _).drew).grown hgrow' (by have := lt_of_block hR.blk; have := hR.b1; show B ≤ (W.alloc _).heap.size; simp; omega) (fun k e => own_base hR.own e.symm); have hz2 := hgrow'.size; have hrb2 := (grow_keep hgrow' rb (lt_of_block hR.blk) (fun e => by obtain ⟨_, hc⟩ := own_block hR.own e.symm; rw [hR.blk] at hc; injection hc with hc; injection hc with _ hc _; exact absurd hc (by decide))).trans hR.blk; have d0 := cell_of_row w2 rb 0 _ _ _ hrb2; have d1 := frozen_of_row w2 rb 0 _ _ hrb2; obtain ⟨g', cap', rfl⟩ := Joins.ownsRow_form hown' (by omega); have hHG := Lib.hid hgrow'; clear hown' hgrow')
      all_goals (go_wp2_with fail; go_meet; exact ⟨rfl, _, hP, hB2.setCell (p := ⟨rb, 0, none⟩) hR.b1 _, by have h9 : (W.alloc _).heap.size ≤ w2.heap.size := hz2; simp at h9; simp; omega, hKW.push1 hzW hHG.out⟩)
    case rest =>
      obtain ⟨rfl, vl2, hR2, hBW2, hzW2, hKW2⟩ := hcut
      clear hR hBW hzW x0 x1 xf hx c0 c1 c2 c3 c4 hi0 hz0 hz1 hz2 hf0 hrbW
      obtain ⟨ao2, cap2, hvls⟩ := (vl_form hR2).2
      subst hvls
      obtain ⟨c0, c1, c2, c3, c4⟩ := hR2.cells
      obtain ⟨i1, hi1, hy0, hy1, hy2⟩ := info_parts info3
      have hf3 := hR2.frozen 3
      have hrbW := hR2.lt (.inl rfl)
      go_upto_region 26 with fail
      go_region_law (refine step_append_own rfl (.tmp 117) (.tmp 122) 27 rfl B 3 i1 (.int .i64 0) 1 8 Tryz.underlying27 hi1 hy0 hy1 hy2 rfl (by decide) (.slice ao2 st.lines.length cap2) st.lines.length (intCells st.lines) rfl ((hR2.ownl.alloc _).drew) ⟨wc.heap.size, 0, none⟩ 1 1 [.int .i64 line] rfl rfl (news_one wc _ _) int_one (by unfold maxLen; omega) (by omega) (by have := lt_of_block hR2.blk; have := hR2.b1; show B ≤ (wc.alloc _).heap.size; simp; omega) ?_; intro v' w2 hown' hgrow' _; have hP := hR2.push2 hl2 hown' (fun g h1 h2 => grow_keep hgrow' g h1 h2); have hB2 := ((hBW2.alloc (by have := lt_of_block hR2.blk; have := hR2.b1; omega) _).drew).grown hgrow' (by have := lt_of_block hR2.blk; have := hR2.b1; show B ≤ (wc.alloc _).heap.size; simp; omega) (fun k e => own_base hR2.ownl e.symm); have hz2 := hgrow'.size; have hrb2 := (grow_keep hgrow' rb (lt_of_block hR2.blk) (fun e => by obtain ⟨_, hc⟩ := own_block hR2.ownl e.symm; rw [hR2.blk] at hc; injection hc with hc; injection hc with _ hc _; exact absurd hc (by decide))).trans hR2.blk; have d0 := cell_of_row w2 rb 3 _ _ _ hrb2; have d1 := frozen_of_row w2 rb 3 _ _ hrb2; obtain ⟨g', cap', rfl⟩ := Joins.ownsRow_form hown' (by omega); have hHG := Lib.hid hgrow'; clear hown' hgrow')
      all_goals go_wp2
      all_goals refine bodyPost_end (results_none rfl _ _ _) rfl ⟨rfl, _, _, hP, hB2.setCell (p := ⟨rb, 3, none⟩) hR2.b1 _, by have h9 : (wc.alloc _).heap.size ≤ w2.heap.size := hz2; simp at h9; simp; omega, hKW2.push2 hzW2 hHG.out⟩
end
end Go.Proofs.YtoiokbdipcecnaaGreatDoor
