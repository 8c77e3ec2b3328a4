/-
  (*reader).end of a script's reader: every block. Condition: the library's variables (Env), sizes; of lines that name deeds what DoH says.
-/
import Derived.Test.YtoiokbdipcecnaaGreatDoorScrEnd
import Derived.Test.YtoiokbdipcecnaaGreatDoorSliceF
import Derived.Deep.CutRange
namespace Go.Proofs.YtoiokbdipcecnaaGreatDoor
open Go.RowKit
set_option maxRecDepth 100000

section
variable {w : World} {B rb : Nat} {vs vp vk vb : Value} {pv : List SlP} {st : SS} {line : Int}
set_option maxHeartbeats 8000000 in
theorem end_do (hD : DoH) (hne : st.block ≠ []) (he : Env w) (hbl : st.block.length ≤ 1048577) (hbz : (textL st.block).length ≤ 4194304) (hbx : ∀ x ∈ st.block, (0 ≤ x.1 ∧ x.1 ≤ 1048577) ∧ x.2.2.length ≤ 1048576) (hpl : st.progs.length ≤ 1000) (h : Sr w B rb vs vp vk vb pv st line) :
    Calls Tryz.prog 31 #[.pointer (some ⟨rb, 0, none⟩)] w (EndDoes w B rb line st) := by
  obtain ⟨ao, c, rfl, hao⟩ := h.lines
  obtain ⟨n, hn⟩ : ∃ n, n = st.block.length := ⟨_, rfl⟩
  rw [← hn] at h hbl hao
  have c13 := h.cells.1 13 (.slice ao n c) (by rfl)
  have H := Lib.hid h
  have HN := Lib.hid hn
  have HAO := Lib.hid hao
  have HD := Lib.hid hD
  have HE := Lib.hid he
  have HBZ := Lib.hid hbz
  have HBX := Lib.hid hbx
  have HPL := Lib.hid hpl
  have HNE := Lib.hid hne
  have HBw := Lib.hid (show B ≤ w.heap.size by have := lt_of_block h.blk; have := h.ge; omega)
  clear h hn hao hD he hbz hbx hpl hne
  go_enter Tryz.func31, Tryz.ntmps31
  go_wp2
  go_loopw [2, 3, 23] (fun v u i wr => ∃ (k F : Nat) (pl : List SlP) (Q : List Prog), k ≤ n ∧ F ≤ k ∧ i = .int .i64 k ∧ u = .int .i64 F ∧ Parts wr w.heap.size v pl Q ∧ Q.length ≤ 2 * k ∧ Below w.heap.size w wr ∧ ((∀ x ∈ st.block, doB x = false) → F = 0 ∧ Q = [])) (fun _ _ i _ => n - (intOf i).toNat)
  case atStart => exact ⟨0, 0, [], [], Nat.zero_le _, Nat.le_refl _, rfl, rfl, Parts.nil _ _, Nat.zero_le _, Below.refl _ _, fun _ => ⟨rfl, rfl⟩⟩
  case round =>
    obtain ⟨k, F, pl, Q, hk, hF, rfl, rfl, hP, hQ, hB, hno⟩ := hrel
    have HP := Lib.hid hP
    have HB := Lib.hid hB
    have HNO := Lib.hid hno
    clear hP hB hno
    by_cases hlt : k < n
    · obtain ⟨x, hx⟩ : ∃ x, st.block[k]? = some x := ⟨_, List.getElem?_eq_getElem (by rw [← HN.out]; exact hlt)⟩
      rcases HAO.out with ⟨_, _, e⟩ | ⟨g, rfl, hnc, hcm, hblk, hcell⟩
      · rw [e] at hx; simp at hx
      have hzr := HB.out.size
      obtain ⟨d0, d1, d2⟩ := hcell k x hx
      have c0 := (HB.out.cell (p := ⟨g, _, none⟩) (block_lt_of_cell d0)).trans d0
      have c1 := (HB.out.cell (p := ⟨g, _, none⟩) (block_lt_of_cell d1)).trans d1
      have c2 := (HB.out.cell (p := ⟨g, _, none⟩) (block_lt_of_cell d2)).trans d2
      have HXM := Lib.hid (List.mem_of_getElem? hx)
      have HCELL := Lib.hid hcell
      have HBLK := Lib.hid hblk
      obtain ⟨x0, x1, x2⟩ := x
      simp only at c0 c1 c2
      have hi0 : (0 : Int) ≤ (k : Int) := by omega
      have hi1 : (k : Int) < (n : Int) := by omega
      obtain ⟨L, hL⟩ : ∃ L, L = fieldsL x2 := ⟨_, rfl⟩
      obtain ⟨m, hm⟩ : ∃ m, m = L.length := ⟨_, rfl⟩
      have hfl : ∀ W, Calls Tryz.prog 30 #[.string (S x2)] W fun e w' => ∃ A, e = .returned (.slice (some ⟨A, 0, none⟩) m m) ∧ OwnG strT w' W.heap.size (.slice (some ⟨A, 0, none⟩) m m) L ∧ Below W.heap.size W w' := fun W => by
        have := fields_any x2 W (HBX.out _ HXM.out).2
        rw [← hL, ← hm] at this
        exact this
      have HFL := Lib.hid hfl
      have HM := Lib.hid hm
      have HL := Lib.hid hL
      clear hcell hblk hx d0 d1 d2 hfl hm hL
      by_cases hm0 : m = 0
      · subst hm0
        go_wp2_with (go_at_call 30; go_must (refine (HFL.out _).mono ?_; rintro e w3 ⟨A, rfl, ho3, hb3⟩; have HB3 := Lib.hid hb3; clear ho3 hb3))
        go_roundw
        case rel => exact ⟨k + 1, F, pl, Q, by omega, by omega, by go_num, rfl, HP.out.below ((Below.refl _ _).alloc (Nat.le_refl _) _ |>.trans (HB3.out.mono (by simp))), by omega, (HB.out.alloc hzr _).trans (HB3.out.mono (by simp; omega)), HNO.out⟩
        case measure => simp [intOf]; omega
      · obtain ⟨f0, hf0⟩ : ∃ x, L[0]? = some x := ⟨_, List.getElem?_eq_getElem (by rw [← HM.out]; omega)⟩
        have hm1 : ((m : Int) == 0) = false := by simp; omega
        have hm2 : (0 : Int) < (m : Int) := by omega
        by_cases hdo : f0 = [100, 111]
        · subst hdo
          have hcmp : ((S [100, 111]).toList == [100, 111]) = true := by rw [S_toL]; rfl
          have hdb : doB (x0, x1, x2) = true := by
            unfold doB
            simp only
            rw [← HL.out]
            cases hLL : L with
            | nil => rw [hLL] at hf0; cases hf0
            | cons y r => rw [hLL] at hf0; simp at hf0; subst hf0; rfl
          have HF0 := Lib.hid hf0
          have hdoh : DoH := HD.out
          have HDB := Lib.hid hdb
          clear hf0 hdb
          -- the part
          have hps : SeesL w (some ⟨g, F * 3, none⟩) ((st.block.drop F).take (k - F)) := SeesL.stretch HBLK.out HCELL.out F (k - F)
          have hpl2 : ((st.block.drop F).take (k - F)).length = k - F := by rw [List.length_take, List.length_drop, ← HN.out]; omega
          obtain ⟨PL, hPL⟩ : ∃ PL, PL = (st.block.drop F).take (k - F) := ⟨_, rfl⟩
          have hpz := textL_drop st.block F (k - F)
          have hpm : ∀ x ∈ PL, 0 ≤ x.1 ∧ x.1 ≤ 1048577 := fun x hx => (HBX.out x (List.mem_of_mem_drop (List.mem_of_mem_take (hPL ▸ hx)))).1
          rw [← hPL] at hps hpl2 hpz
          have hpart : ∀ W, Below w.heap.size w W → Env W → Calls Tryz.prog 52 #[.pointer (some ⟨rb, 0, none⟩), .slice (some ⟨g, F * 3, none⟩) (k - F) (c - F)] W (PartDoes PL W) := fun W hb hE =>
            part_any _ _ _ _ PL W hpl2.symm (by omega) hpm (hps.below hb) (by have := HBZ.out; omega) hE
          have HPART := Lib.hid hpart
          clear hps hpl2 hpz hpm hpart
          go_upto_region 7 with (go_at_call 30; go_must (refine (HFL.out _).mono ?_; rintro e w3 ⟨A, rfl, ho3, hb3⟩; have HO3 := Lib.hid ho3; have HB3 := Lib.hid hb3; have cA := ho3.cell (i := 0) HF0.out (show (strT.cells [100, 111])[0]? = some (.string (S [100, 111])) from rfl); rw [Nat.zero_mul] at cA; have hB3 : Below w.heap.size w w3 := (HB.out.alloc hzr _).trans (HB3.out.mono (by simp; omega)); have c13' := (H.out.below hB3).cells.1 13 (.slice (some ⟨g, 0, none⟩) n c) (by rfl); clear ho3 hb3))
          cases hps : partS PL with
          | error y =>
            obtain ⟨er, ln⟩ := y
            have hpe : ∀ W, Below w.heap.size w W → Env W → Calls Tryz.prog 52 #[.pointer (some ⟨rb, 0, none⟩), .slice (some ⟨g, F * 3, none⟩) (k - F) (c - F)] W (fun e w' => e = .panicked [{ v := .iface 65 (.agg #[.int .i64 er, .int .i64 ln]), recovered := false }] ∧ Below W.heap.size W w') := fun W hb hE =>
              (HPART.out W hb hE).mono fun e w' hd => by unfold PartDoes at hd; rw [hps] at hd; exact hd
            have HPE := Lib.hid hpe
            have HPS := Lib.hid hps
            clear hpe hps
            go_wp2_with (go_at_call 52; go_must (refine (HPE.out _ hB3 (HE.out.below hB3)).mono ?_; rintro e w5 ⟨rfl, hb5⟩))
            exact ⟨rfl, EndDoes.bad (EndRel.deed HXM.out HDB.out (partS_err HPS.out)) ((hB3.mono HBw.out).trans (hb5.mono (by have := hB3.size; have := HBw.out; omega))) ((KeepT.of_below hB3).trans (KeepT.of_below hb5))⟩
          | ok o =>
            have hpe : ∀ W, Below w.heap.size w W → Env W → Calls Tryz.prog 52 #[.pointer (some ⟨rb, 0, none⟩), .slice (some ⟨g, F * 3, none⟩) (k - F) (c - F)] W (fun e w' => ∃ ap np cp, e = .returned (.slice ap np cp) ∧ Below W.heap.size W w' ∧
                ((o = none ∧ ap = none ∧ np = 0 ∧ cp = 0) ∨ ∃ p g, o = some p ∧ ap = some ⟨g, 0, none⟩ ∧ OwnP w' W.heap.size (slV (some g, np, cp)) p ∧ p.length ≤ 100000)) := fun W hb hE =>
              (HPART.out W hb hE).mono fun e w' hd => PartDoes.ok hps hd
            have HPE := Lib.hid hpe
            have HPS := Lib.hid hps
            clear hpe hps
            go_upto_if 50 with (go_at_call 52; go_must (refine (HPE.out _ hB3 (HE.out.below hB3)).mono ?_; rintro e w5 ⟨ap, np, cp, rfl, hb5, hap⟩; have HB5 := Lib.hid hb5; have HAP := Lib.hid hap; clear hb5 hap))
            go_cut [2] from 24 to 90 (fun v wx => ∃ pl Q, Parts wx w.heap.size v pl Q ∧ Q.length ≤ 2 * k + 1 ∧ Below w.heap.size w wx ∧ ∀ (g : Nat) (c : Array Value) (t : TypeId), w3.heap[g]? = some (.cells c t) → t ≠ 45 → wx.heap[g]? = w3.heap[g]?)
            case first =>
              have hzw : w.heap.size ≤ w3.heap.size := hB3.size
              have hP5 := HP.out.below ((Below.refl _ _).alloc (Nat.le_refl _) _ |>.trans (HB3.out.mono (by simp)))
              have hP5' := hP5.below HB5.out
              rcases HAP.out with ⟨_, rfl, rfl, rfl⟩ | ⟨p, gp, _, rfl, hop, hpz⟩
              · go_wp2
                go_meet
                exact ⟨pl, Q, hP5', by omega, hB3.trans (HB5.out.mono hzw), fun g c t hg _ => HB5.out.block g (lt_of_block hg)⟩
              · have HP5 := Lib.hid hP5'
                have HOP := Lib.hid (hop.lower hzw)
                have HQL := Lib.hid (show pl.length ≤ 4194304 by rw [hP5'.len]; omega)
                clear hP5 hP5' hop
                go_wp2_with (at_builtin; go_must (refine wpList_append1 (E := slT) ((HP5.out.below ((Below.refl _ _).alloc (Nat.le_refl _) _)).own) (by have := HB5.out.size; simp; omega) w5.heap.size 1 (some gp, np, cp) 45 (by exact heap_new _ _ _ rfl) (by show (_ + 1) * 24 ≤ _; have := HQL.out; omega) (by unfold maxLen; have := HQL.out; omega) rfl _ _ rfl rfl rfl ?_; intro v8 w8 hown8 hgrow8; have hp8 := (HP5.out.below ((Below.refl _ _).alloc (Nat.le_refl _) _)).push (HOP.out.below ((Below.refl _ _).alloc (Nat.le_refl _) _)) hpz hown8 hgrow8; have HP8 := Lib.hid hp8; have hb8 := ((Below.refl w.heap.size w5).alloc (by have := HB5.out.size; omega) (.cells #[slV (some gp, np, cp)] 45)).grown hgrow8 (by have := HB5.out.size; simp; omega) (fun k hk => own_ge HP5.out.own hk); have hk8 := fun (g : Nat) (c : Array Value) (t : TypeId) (hgc : w5.heap[g]? = some (.cells c t)) (ht : t ≠ 45) => grown_block (E := slT) (HP5.out.below ((Below.refl _ _).alloc (Nat.le_refl _) _)).own hgrow8 ((((Below.refl w5.heap.size w5).alloc (Nat.le_refl _) (.cells #[slV (some gp, np, cp)] 45)).block g (lt_of_block hgc)).trans hgc) ht; have HK8 := Lib.hid hk8; clear hown8 hgrow8 hp8 hk8))
                go_meet
                refine ⟨_, _, HP8.out, by simp; omega, (hB3.trans (HB5.out.mono hzw)).trans hb8, fun g c t hg ht => ?_⟩
                have h5 := (HB5.out.block g (lt_of_block hg)).trans hg
                rw [HK8.out g c t h5 ht]
                exact (((Below.refl w5.heap.size w5).alloc (Nat.le_refl _) (.cells #[slV (some gp, np, cp)] 45)).block g (lt_of_block h5)).trans (HB5.out.block g (lt_of_block hg))
            case rest =>
              obtain ⟨pl2, Q2, hP2, hQ2, hBc, hKc⟩ := hcut
              have hsd : w3.heap[wr.heap.size]? = some (.cells #[.int .i64 x0, .string (S x1), .string (S x2)] 77) := (HB3.out.block _ (by simp)).trans (heap_new _ _ _ rfl)
              have hsd2 := (hKc _ _ _ hsd (by decide)).trans hsd
              have hl2 : OwnG strT wc wr.heap.size (.slice (some ⟨A, 0, none⟩) m m) L := (HO3.out.at fun g hg => by obtain ⟨cc, hc⟩ := own_block HO3.out hg; exact hKc g cc _ hc (by decide)).lower (by simp)
              have hdeed := hdoh.deed A m L wc HM.out (by omega) (by have := fieldsL_len x2; have := (HBX.out _ HXM.out).2; have := HM.out; rw [HL.out] at this; simp only at *; omega) (SeesS.of_own hl2) (fun y hy => by rw [HL.out] at hy; have := fieldsL_each x2 y hy; have := (HBX.out _ HXM.out).2; simp only at this; omega) (HE.out.below hBc)
              have HDEED := Lib.hid hdeed
              have HP2 := Lib.hid hP2
              have HBC := Lib.hid hBc
              have HSD := Lib.hid hsd2
              clear hP2 hBc hKc hsd hsd2 hl2 hdeed
              go_upto_if 66 with (go_at_call 53; go_must (refine HDEED.out.mono ?_; rintro e w6 ⟨hb6, s6, b6, k6, e0, e1, e2, e3, e4, ok6, j0, j1, j2, j3, j4, j5, j6, rfl⟩; have HB6 := Lib.hid hb6; clear hb6))
              refine wp_gen (fun W => W.heap[w6.heap.size]? = some (.cells #[.int .i64 e0, .int .i64 e1, .int .i64 e2, .int .i64 e3, .int .i64 e4] 104) ∧ Below w6.heap.size w6 W) ⟨heap_new _ _ _ rfl, (Below.refl _ _).alloc (Nat.le_refl _) _⟩ ?_
              rintro W ⟨hqW, hBW⟩
              have hB6W : Below wc.heap.size wc W := HB6.out.trans (hBW.mono HB6.out.size)
              have HBX6 := Lib.hid (HBC.out.trans (hB6W.mono HBC.out.size))
              have HSDW := Lib.hid ((hB6W.block _ (lt_of_block HSD.out)).trans HSD.out)
              have cl := cell_of_row _ _ 0 _ _ _ HSDW.out
              have HP6 := Lib.hid (HP2.out.below hB6W)
              have HQW := Lib.hid hqW
              have hlb6 : w6.heap.size < W.heap.size := lt_of_block hqW
              clear hqW hBW hB6W
              cases ok6 with
              | false =>
                go_wp2_with (go_at_call 33; refine (sfail_any _ _ x0 _).mono ?_; rintro e w7 ⟨rfl, rfl⟩)
                exact ⟨rfl, EndDoes.bad (EndRel.deed HXM.out HDB.out (by decide)) (HBX6.out.mono HBw.out) (KeepT.of_below HBX6.out)⟩
              | true =>
                have HPROG := Lib.hid (hdoh.prog s6 b6 k6 e0 e1 e2 e3 e4 W j0 j1 j2 j3 j4 j5 j6 (HE.out.below HBX6.out))
                have r0 := cell_of_row _ _ 0 _ _ _ HQW.out
                have r1 := cell_of_row _ _ 1 _ _ _ HQW.out
                have r2 := cell_of_row _ _ 2 _ _ _ HQW.out
                have r3 := cell_of_row _ _ 3 _ _ _ HQW.out
                have r4 := cell_of_row _ _ 4 _ _ _ HQW.out
                clear j0 j1 j2 j3 j4 j5 j6 cl
                go_upto_if 80 with (go_at_call 54; go_must (refine HPROG.out.mono ?_; rintro e w7 ⟨hb7, g7, n7, c7, er, q7, rfl, ho7, hz7⟩; have HB7 := Lib.hid hb7; have HO7 := Lib.hid ho7; clear hb7 ho7))
                have HBX7 := Lib.hid (HBX6.out.trans (HB7.out.mono HBX6.out.size))
                have cl := cell_of_row _ _ 0 _ _ _ ((HB7.out.block _ (lt_of_block HSDW.out)).trans HSDW.out)
                have HP7 := Lib.hid (HP6.out.below HB7.out)
                have HQ2 := Lib.hid hQ2
                clear r0 r1 r2 r3 r4 hQ2
                by_cases her : er = 0
                · subst her
                  have HOP7 := Lib.hid (HO7.out.lower HBX6.out.size)
                  have HQL7 := Lib.hid (show pl2.length ≤ 4194304 by rw [HP7.out.len]; have := HQ2.out; omega)
                  clear cl
                  go_wp2_with (at_builtin; go_must (refine wpList_append1 (E := slT) ((HP7.out.below ((Below.refl _ _).alloc (Nat.le_refl _) _)).own) (by have := HBX7.out.size; simp; omega) w7.heap.size 1 (g7, n7, c7) 45 (by exact heap_new _ _ _ rfl) (by show (_ + 1) * 24 ≤ _; have := HQL7.out; omega) (by unfold maxLen; have := HQL7.out; omega) rfl _ _ rfl rfl rfl ?_; intro v9 w9 hown9 hgrow9; have hp9 := (HP7.out.below ((Below.refl _ _).alloc (Nat.le_refl _) _)).push (HOP7.out.below ((Below.refl _ _).alloc (Nat.le_refl _) _)) hz7 hown9 hgrow9; have HP9 := Lib.hid hp9; have HB9 := Lib.hid ((HBX7.out.alloc HBX7.out.size _).grown hgrow9 (by have := HBX7.out.size; simp; omega) (fun k hk => own_ge HP7.out.own hk)); clear hp9 hown9 hgrow9))
                  go_roundw
                  case rel => exact ⟨k + 1, k + 1, _, _, (by omega), (by omega), (by go_num), (by go_num), HP9.out, (by have := HQ2.out; simp; omega), HB9.out, fun hn => absurd (hn _ HXM.out) (by rw [HDB.out]; simp)⟩
                  case measure => simp [intOf]; omega
                · have her1 : (er != 0) = true := by simpa using her
                  have HER := Lib.hid her
                  clear her
                  go_wp2_with (go_at_call 33; refine (sfail_any _ _ x0 _).mono ?_; rintro e w8 ⟨rfl, rfl⟩)
                  exact ⟨rfl, EndDoes.bad (EndRel.deed HXM.out HDB.out HER.out) (HBX7.out.mono HBw.out) (KeepT.of_below HBX7.out)⟩
        · have hcmp : ((S f0).toList == [100, 111]) = false := by
            rw [S_toL]
            simpa using hdo
          have HF0 := Lib.hid hf0
          clear hf0 hdo
          go_wp2_with (go_at_call 30; go_must (refine (HFL.out _).mono ?_; rintro e w3 ⟨A, rfl, ho3, hb3⟩; have HB3 := Lib.hid hb3; have cA := ho3.cell (i := 0) HF0.out (show (strT.cells f0)[0]? = some (.string (S f0)) from rfl); rw [Nat.zero_mul] at cA; clear ho3 hb3))
          go_roundw
          case rel => exact ⟨k + 1, F, pl, Q, by omega, by omega, by go_num, rfl, HP.out.below ((Below.refl _ _).alloc (Nat.le_refl _) _ |>.trans (HB3.out.mono (by simp))), by omega, (HB.out.alloc hzr _).trans (HB3.out.mono (by simp; omega)), HNO.out⟩
          case measure => simp [intOf]; omega
    · obtain rfl : k = n := by omega
      rcases HAO.out with ⟨_, _, e⟩ | ⟨g, rfl, hnc, hcm, hblk, hcell⟩
      · exact absurd e HNE.out
      have c13' := (H.out.below HB.out).cells.1 13 (.slice (some ⟨g, 0, none⟩) k c) (by rfl)
      have hsl := fun W => slice_from (P := Tryz.prog) (t := 67) (s := 3) (by kernel_rfl) (fun W => by kernel_rfl) g k c F hF W
      obtain ⟨ao5, hao5⟩ : ∃ ao5, (if c = F then (some ⟨g, 0, none⟩ : Option Addr) else some ⟨g, F * 3, none⟩) = ao5 := ⟨_, rfl⟩
      rw [hao5] at hsl
      have hB3 := HB.out
      have hps : SeesL w ao5 (st.block.drop F) := by
        by_cases e : c = F
        · have hnil : st.block.drop F = [] := List.drop_eq_nil_of_le (by rw [← HN.out]; omega)
          rw [hnil]
          exact SeesL.none _ _
        · rw [if_neg e] at hao5
          rw [← hao5]
          have h := SeesL.stretch hblk hcell F (k - F)
          rwa [List.take_of_length_le (by rw [List.length_drop, ← HN.out]; exact Nat.le_refl _)] at h
      have hpl2 : (st.block.drop F).length = k - F := by rw [List.length_drop, ← HN.out]
      have hpz := textL_drop st.block F (k - F)
      rw [List.take_of_length_le (by rw [List.length_drop, ← HN.out]; exact Nat.le_refl _)] at hpz
      obtain ⟨PL, hPL⟩ : ∃ PL, PL = st.block.drop F := ⟨_, rfl⟩
      have hpm : ∀ x ∈ PL, 0 ≤ x.1 ∧ x.1 ≤ 1048577 := fun x hx => (HBX.out x (List.mem_of_mem_drop (hPL ▸ hx))).1
      rw [← hPL] at hps hpl2 hpz
      have HPL2 := Lib.hid hPL
      have hpart : ∀ W, Below w.heap.size w W → Calls Tryz.prog 52 #[.pointer (some ⟨rb, 0, none⟩), .slice ao5 (k - F) (c - F)] W (PartDoes PL W) := fun W hb =>
        part_any _ _ _ _ PL W hpl2.symm (by omega) hpm (hps.below hb) (by have := HBZ.out; omega) (HE.out.below hb)
      have HPART := Lib.hid hpart
      have HNOF := Lib.hid (fun hn => (HNO.out hn).1)
      clear hcell hblk hps hpl2 hpz hpm hpart hPL hao5
      cases hps : partS PL with
      | error y =>
        obtain ⟨er, ln⟩ := y
        have hpe : ∀ W, Below w.heap.size w W → Calls Tryz.prog 52 #[.pointer (some ⟨rb, 0, none⟩), .slice ao5 (k - F) (c - F)] W (fun e w' => e = .panicked [{ v := .iface 65 (.agg #[.int .i64 er, .int .i64 ln]), recovered := false }] ∧ Below W.heap.size W w') := fun W hb =>
          (HPART.out W hb).mono fun e w' hd => by unfold PartDoes at hd; rw [hps] at hd; exact hd
        have HPE := Lib.hid hpe
        have HPS := Lib.hid hps
        clear hpe hps
        go_wp2_with (go_at_call 52; go_must (refine (HPE.out _ HB.out).mono ?_; rintro e w5 ⟨rfl, hb5⟩))
        exact ⟨rfl, EndDoes.bad (EndRel.part (F := F) (by rw [← HPL2.out]; exact HPS.out) HNOF.out) ((hB3.mono HBw.out).trans (hb5.mono (by have := hB3.size; have := HBw.out; omega))) ((KeepT.of_below hB3).trans (KeepT.of_below hb5))⟩
      | ok o =>
        have hpe : ∀ W, Below w.heap.size w W → Calls Tryz.prog 52 #[.pointer (some ⟨rb, 0, none⟩), .slice ao5 (k - F) (c - F)] W (fun e w' => ∃ ap np cp, e = .returned (.slice ap np cp) ∧ Below W.heap.size W w' ∧
            ((o = none ∧ ap = none ∧ np = 0 ∧ cp = 0) ∨ ∃ p g, o = some p ∧ ap = some ⟨g, 0, none⟩ ∧ OwnP w' W.heap.size (slV (some g, np, cp)) p ∧ p.length ≤ 100000)) := fun W hb =>
          (HPART.out W hb).mono fun e w' hd => PartDoes.ok hps hd
        have HPE := Lib.hid hpe
        have HPS := Lib.hid hps
        clear hpe hps
        have hzw : w.heap.size ≤ wr.heap.size := hB3.size
        have HB3 := Lib.hid hB3
        go_upto_if 100 with (go_at_call 52; go_must (refine (HPE.out _ HB.out).mono ?_; rintro e w5 ⟨ap, np, cp, rfl, hb5, hap⟩; have HB5 := Lib.hid hb5; have HAP := Lib.hid hap; clear hb5 hap))
        have HBX5 := Lib.hid (HB3.out.trans (HB5.out.mono hzw))
        have HP5 := Lib.hid (HP.out.below HB5.out)
        go_cut [2] (fun v wx => ∃ pl8 : List SlP, Parts wx w.heap.size v pl8 (Q ++ o.toList) ∧ Below w.heap.size w wx)
        case first =>
          rcases HAP.out with ⟨rfl, rfl, rfl, rfl⟩ | ⟨p, gp, rfl, rfl, hop, hpz⟩
          · go_wp2
            go_meet
            exact ⟨pl, by rw [Option.toList_none, List.append_nil]; exact HP5.out, HBX5.out⟩
          · have HOP := Lib.hid (hop.lower hzw)
            have HQL := Lib.hid (show pl.length ≤ 4194304 by rw [HP5.out.len]; omega)
            clear hop
            go_wp2_with (at_builtin; go_must (refine wpList_append1 (E := slT) ((HP5.out.below ((Below.refl _ _).alloc (Nat.le_refl _) _)).own) (by have := HBX5.out.size; simp; omega) w5.heap.size 1 (some gp, np, cp) 45 (by exact heap_new _ _ _ rfl) (by show (_ + 1) * 24 ≤ _; have := HQL.out; omega) (by unfold maxLen; have := HQL.out; omega) rfl _ _ rfl rfl rfl ?_; intro v8 w8 hown8 hgrow8; have hp8 := (HP5.out.below ((Below.refl _ _).alloc (Nat.le_refl _) _)).push (HOP.out.below ((Below.refl _ _).alloc (Nat.le_refl _) _)) hpz hown8 hgrow8; have HP8 := Lib.hid hp8; have HB8 := Lib.hid ((HBX5.out.alloc HBX5.out.size _).grown hgrow8 (by have := HBX5.out.size; simp; omega) (fun k hk => own_ge HP5.out.own hk)); clear hp8 hown8 hgrow8))
            go_meet
            exact ⟨_, HP8.out, HB8.out⟩
        case rest =>
          obtain ⟨pl8, hp8, hb8⟩ := hcut
          have HP8 := Lib.hid hp8
          have HB8 := Lib.hid hb8
          have HQO := Lib.hid (show (Q ++ o.toList).length ≤ 4194304 by have : o.toList.length ≤ 1 := (by cases o <;> simp); rw [List.length_append]; omega)
          obtain ⟨QO, hQO⟩ : ∃ QO, QO = Q ++ o.toList := ⟨_, rfl⟩
          rw [← hQO] at HP8 HQO
          have HQE := Lib.hid hQO
          clear hp8 hb8 hQO
          -- the programs are joined
          obtain ⟨ao8, c8, rfl, hs8⟩ := HP8.out.sees
          have hjn := Join_any ao8 QO.length c8 (partsV pl8 QO) _ (partsV_len HP8.out.len) hs8 (by have := HQO.out; omega) HP8.out.small
          rw [partsV_progs HP8.out.len] at hjn
          clear hs8
          obtain ⟨J, je, hJ⟩ : ∃ J je, joinS QO = (J, je) := ⟨_, _, rfl⟩
          unfold JoinDoes at hjn
          rw [hJ] at hjn
          simp only at hjn
          have HRel := Lib.hid (EndRel.join (F := F) (Q := Q) (J := J) (je := je) (line := line) (by rw [← HPL2.out]; exact HPS.out) HNO.out (by rw [← HQE.out]; exact hJ))
          have hjn2 := hjn.mono (fun e w' ⟨v, h1, h2, h3⟩ => (show ∃ (g : Option Nat) (n c : Nat), e = Ending.returned (.tuple #[.slice (g.map fun g => ⟨g, 0, none⟩) n c, .int .i64 je]) ∧ OwnP w' _ (slV (g, n, c)) J ∧ Below _ _ w' by
            obtain ⟨⟨g, n, c⟩, e2⟩ := h2.slP
            subst e2
            exact ⟨g, n, c, h1, h2, h3⟩))
          have HJN := Lib.hid hjn2
          clear hjn hjn2 hJ
          by_cases hj0 : je = 0
          · subst hj0
            have hrel0 := HRel.out
            rw [if_pos rfl] at hrel0
            have HR0 := Lib.hid hrel0
            clear hrel0 HRel
            go_upto_region 25 with (go_at_call 55; go_must (refine HJN.out.mono ?_; rintro e w9 ⟨g9, n9, c9, rfl, ho9, hb9⟩; have HO9 := Lib.hid ho9; have HB9 := Lib.hid (HB8.out.trans (hb9.mono HB8.out.size)); clear ho9 hb9))
            have h9 := H.out.below HB9.out
            have c7 := h9.cells.1 7 vp (by rfl)
            have HO9' := Lib.hid (HO9.out.lower (show B ≤ _ by have := HB8.out.size; have := HBw.out; omega))
            have HPV := Lib.hid (show pv.length ≤ 1000 by rw [h9.rows.pl]; exact HPL.out)
            have H9 := Lib.hid h9
            clear h9
            go_wp2_with (at_builtin; go_must (refine wpList_append1 (E := slT) ((H9.out.rows.op).below ((Below.refl _ _).alloc (Nat.le_refl _) _)) (by have := lt_of_block H9.out.blk; have := H9.out.ge; simp; omega) w9.heap.size 1 (g9, n9, c9) 45 (by exact heap_new _ _ _ rfl) (by show (_ + 1) * 24 ≤ _; have := HPV.out; omega) (by unfold maxLen; have := HPV.out; omega) rfl _ _ rfl rfl rfl ?_; intro v10 w10 hown10 hgrow10; obtain ⟨ao10, n10, c10, rfl, hn10⟩ := hown10.sliceH; obtain ⟨q1, q2, q3, q4⟩ := H9.out.push_prog HO9'.out hown10 hgrow10; have Q1 := Lib.hid q1; have Q2 := Lib.hid q2; have Q3 := Lib.hid q3; have z10 : w10.cell? ⟨rb, 7, none⟩ = some vp := (cell_of_row _ _ 7 _ _ _ q4); have y10 := frozen_of_row _ _ 7 _ _ q4; have z12 := q1.cells.1 12 _ rfl; have y12 := q1.cells.2 12; clear hown10 hgrow10 hn10 q1 q2 q3 q4))
            go_end0
            have h2 := Q1.out.set 12 (.int .i64 0) (st' := { st with progs := st.progs ++ [J], opn := 0 }) rfl (Q1.out.rows.retell rfl rfl rfl rfl)
            exact EndDoes.good HR0.out h2 (((HB9.out.mono HBw.out).trans Q2.out).setCell (p := ⟨rb, 12, none⟩) H9.out.ge _) (((KeepT.of_below HB9.out).trans Q3.out).trans (KeepT.set Q1.out.blk (.inl rfl)))
          · have hj1 : (je != 0) = true := by simpa using hj0
            have hrel0 := HRel.out
            rw [if_neg hj0] at hrel0
            have HR0 := Lib.hid hrel0
            clear hrel0 HRel hj0
            go_wp2_with (first
              | (go_at_call 55; go_must (refine HJN.out.mono ?_; rintro e w9 ⟨g9, n9, c9, rfl, ho9, hb9⟩; have HB9 := Lib.hid (HB8.out.trans (hb9.mono HB8.out.size)); have c11 := (H.out.below HB9.out).cells.1 11 (.int .i64 line) rfl; clear ho9 hb9))
              | (go_at_call 33; refine (sfail_any _ _ line _).mono ?_; rintro e w7 ⟨rfl, rfl⟩))
            exact ⟨rfl, EndDoes.bad HR0.out (HB9.out.mono HBw.out) (KeepT.of_below HB9.out)⟩
theorem end_all (hD : DoH) (he : Env w) (hbl : st.block.length ≤ 1048577) (hbz : (textL st.block).length ≤ 4194304) (hbx : ∀ x ∈ st.block, (0 ≤ x.1 ∧ x.1 ≤ 1048577) ∧ x.2.2.length ≤ 1048576) (hpl : st.progs.length ≤ 1000) (h : Sr w B rb vs vp vk vb pv st line) :
    Calls Tryz.prog 31 #[.pointer (some ⟨rb, 0, none⟩)] w (EndDoes w B rb line st) := by
  by_cases hne : st.block = []
  · exact end_no (fun x hx => by rw [hne] at hx; cases hx) he hbl hbz hbx hpl h
  · exact end_do hD hne he hbl hbz hbx hpl h
end
end Go.Proofs.YtoiokbdipcecnaaGreatDoor
