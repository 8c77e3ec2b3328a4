/-
  (*reader).end of a script's reader: a block whose lines name no deeds. Condition: the reader's place in memory (Sr), the library's variables (Env), sizes.
-/
import Derived.Test.YtoiokbdipcecnaaGreatDoorScrEndM
import Derived.Deep.CutRange
namespace Go.Proofs.YtoiokbdipcecnaaGreatDoor
open Go.RowKit
set_option maxRecDepth 100000

section
variable {w : World} {B rb : Nat} {vs vp vk vb : Value} {pv : List SlP} {st : SS} {line : Int}
set_option maxHeartbeats 8000000 in
theorem end_no (hD : ∀ x ∈ st.block, doB x = false) (he : Env w) (hbl : st.block.length ≤ 1048577) (hbz : (textL st.block).length ≤ 4194304) (hbx : ∀ x ∈ st.block, (0 ≤ x.1 ∧ x.1 ≤ 1048577) ∧ x.2.2.length ≤ 1048576) (hpl : st.progs.length ≤ 1000) (h : Sr w B rb vs vp vk vb pv st line) :
    Calls Tryz.prog 31 #[.pointer (some ⟨rb, 0, none⟩)] w (EndDoes w B rb line st) := by
  obtain ⟨ao, c, rfl, hao⟩ := h.lines
  obtain ⟨n, hn⟩ : ∃ n, n = st.block.length := ⟨_, rfl⟩
  rw [← hn] at h hbl hao
  have c13 := h.cells.1 13 (.slice ao n c) (by rfl)
  have H := Lib.hid h
  have HN := Lib.hid hn
  have HAO := Lib.hid hao
  have HD := Lib.hid hD
  have HE := Lib.hid he
  have HBX := Lib.hid hbx
  have HPL := Lib.hid hpl
  have HBw := Lib.hid (show B ≤ w.heap.size by have := lt_of_block h.blk; have := h.ge; omega)
  have hsees : SeesL w ao st.block := by
    rcases hao with ⟨rfl, _, e⟩ | ⟨g, rfl, _, _, hb, hc⟩
    · rw [e]; exact SeesL.none _ _
    · have := SeesL.stretch hb hc 0 st.block.length
      rwa [List.drop_zero, List.take_length, Nat.zero_mul] at this
  have hnc : n ≤ c := by
    rcases hao with ⟨_, rfl, e⟩ | ⟨g, _, h1, _⟩
    · rw [hn, e]; exact Nat.le_refl _
    · exact h1
  have hpart : ∀ W, Below w.heap.size w W → Calls Tryz.prog 52 #[.pointer (some ⟨rb, 0, none⟩), .slice ao n c] W (PartDoes st.block W) := fun W hb =>
    part_any _ _ _ _ st.block W hn (by omega) (fun x hx => (hbx x hx).1) (hsees.below hb) hbz (he.below hb)
  have HPART := Lib.hid hpart
  clear h hn hao hD he hbz hbx hpl hsees hpart
  go_enter Tryz.func31, Tryz.ntmps31
  go_wp2
  go_loopw [2, 3, 23] (fun v u i wr => ∃ (k : Nat), k ≤ n ∧ i = .int .i64 k ∧ v = .slice none 0 0 ∧ u = .int .i64 0 ∧ Below w.heap.size w wr) (fun _ _ i _ => n - (intOf i).toNat)
  case atStart => exact ⟨0, Nat.zero_le _, rfl, rfl, rfl, Below.refl _ _⟩
  case round =>
    obtain ⟨k, hk, rfl, rfl, rfl, hB⟩ := hrel
    have HB := Lib.hid hB
    clear hB
    have hzr := HB.out.size
    by_cases hlt : k < n
    · obtain ⟨x, hx⟩ : ∃ x, st.block[k]? = some x := ⟨_, List.getElem?_eq_getElem (by rw [← HN.out]; exact hlt)⟩
      rcases HAO.out with ⟨_, _, e⟩ | ⟨g, rfl, _, hcm, hblk, hcell⟩
      · rw [e] at hx; simp at hx
      obtain ⟨d0, d1, d2⟩ := hcell k x hx
      have c0 := (HB.out.cell (p := ⟨g, _, none⟩) (block_lt_of_cell d0)).trans d0
      have c1 := (HB.out.cell (p := ⟨g, _, none⟩) (block_lt_of_cell d1)).trans d1
      have c2 := (HB.out.cell (p := ⟨g, _, none⟩) (block_lt_of_cell d2)).trans d2
      have HXM := Lib.hid (List.mem_of_getElem? hx)
      obtain ⟨x0, x1, x2⟩ := x
      simp only at c0 c1 c2
      have hi0 : (0 : Int) ≤ (k : Int) := by omega
      have hi1 : (k : Int) < (n : Int) := by omega
      obtain ⟨L, hL⟩ : ∃ L, L = fieldsL x2 := ⟨_, rfl⟩
      obtain ⟨m, hm⟩ : ∃ m, m = L.length := ⟨_, rfl⟩
      have hfl : ∀ W, Calls Tryz.prog 30 #[.string (S x2)] W fun e w' => ∃ A, e = .returned (.slice (some ⟨A, 0, none⟩) m m) ∧ OwnG strT w' W.heap.size (.slice (some ⟨A, 0, none⟩) m m) L ∧ Below W.heap.size W w' := fun W => by
        have := fields_any x2 W (HBX.out _ HXM.out).2
        rw [← hL, ← hm] at this
        exact this
      have hdo : ∀ f0, L[0]? = some f0 → f0 ≠ [100, 111] := fun f0 hf e => by
        subst e
        have hd := HD.out _ HXM.out
        unfold doB at hd
        simp only at hd
        rw [← hL] at hd
        cases hLL : L with
        | nil => rw [hLL] at hf; cases hf
        | cons y r => rw [hLL] at hf hd; simp at hf; subst hf; simp at hd
      have HFL := Lib.hid hfl
      have HM := Lib.hid hm
      have HDO := Lib.hid hdo
      clear hcell hblk hx d0 d1 d2 hfl hm hL hdo
      by_cases hm0 : m = 0
      · subst hm0
        go_wp2_with (go_at_call 30; go_must (refine (HFL.out _).mono ?_; rintro e w3 ⟨A, rfl, ho3, hb3⟩; have HB3 := Lib.hid hb3; clear ho3 hb3))
        go_roundw
        case rel => exact ⟨k + 1, by omega, by go_num, rfl, rfl, (HB.out.alloc hzr _).trans (HB3.out.mono (by simp; omega))⟩
        case measure => simp [intOf]; omega
      · obtain ⟨f0, hf0⟩ : ∃ x, L[0]? = some x := ⟨_, List.getElem?_eq_getElem (by rw [← HM.out]; omega)⟩
        have hm1 : ((m : Int) == 0) = false := by simp; omega
        have hm2 : (0 : Int) < (m : Int) := by omega
        have hdo := HDO.out f0 hf0
        have hcmp : ((S f0).toList == [100, 111]) = false := by
          rw [S_toL]
          simpa using hdo
        have HF0 := Lib.hid hf0
        clear hf0 hdo
        go_wp2_with (go_at_call 30; go_must (refine (HFL.out _).mono ?_; rintro e w3 ⟨A, rfl, ho3, hb3⟩; have HB3 := Lib.hid hb3; have cA := ho3.cell (i := 0) HF0.out (show (strT.cells f0)[0]? = some (.string (S f0)) from rfl); rw [Nat.zero_mul] at cA; clear ho3 hb3))
        go_roundw
        case rel => exact ⟨k + 1, by omega, by go_num, rfl, rfl, (HB.out.alloc hzr _).trans (HB3.out.mono (by simp; omega))⟩
        case measure => simp [intOf]; omega
    · obtain rfl : k = n := by omega
      have c13' := (H.out.below HB.out).cells.1 13 (.slice ao k c) (by rfl)
      have hB3 := HB.out
      cases hps : partS st.block with
      | error y =>
        obtain ⟨er, ln⟩ := y
        have hpe : ∀ W, Below w.heap.size w W → Calls Tryz.prog 52 #[.pointer (some ⟨rb, 0, none⟩), .slice ao k c] W (fun e w' => e = .panicked [{ v := .iface 65 (.agg #[.int .i64 er, .int .i64 ln]), recovered := false }] ∧ Below W.heap.size W w') := fun W hb =>
          (HPART.out W hb).mono fun e w' hd => by unfold PartDoes at hd; rw [hps] at hd; exact hd
        have HPE := Lib.hid hpe
        have HPS := Lib.hid hps
        clear hpe hps
        go_wp2_with (go_at_call 52; go_must (refine (HPE.out _ HB.out).mono ?_; rintro e w5 ⟨rfl, hb5⟩))
        exact ⟨rfl, EndDoes.bad (EndRel.part (F := 0) (by rw [List.drop_zero]; exact HPS.out) (fun _ => rfl)) ((hB3.mono HBw.out).trans (hb5.mono (by have := hB3.size; have := HBw.out; omega))) ((KeepT.of_below hB3).trans (KeepT.of_below hb5))⟩
      | ok o =>
        have hpe : ∀ W, Below w.heap.size w W → Calls Tryz.prog 52 #[.pointer (some ⟨rb, 0, none⟩), .slice ao k c] W (fun e w' => ∃ ap np cp, e = .returned (.slice ap np cp) ∧ Below W.heap.size W w' ∧
            ((o = none ∧ ap = none ∧ np = 0 ∧ cp = 0) ∨ ∃ p g, o = some p ∧ ap = some ⟨g, 0, none⟩ ∧ OwnP w' W.heap.size (slV (some g, np, cp)) p ∧ p.length ≤ 100000)) := fun W hb =>
          (HPART.out W hb).mono fun e w' hd => PartDoes.ok hps hd
        have HPE := Lib.hid hpe
        have HPS := Lib.hid hps
        clear hpe hps
        have hzw : w.heap.size ≤ wr.heap.size := hB3.size
        have HB3 := Lib.hid hB3
        have HOL := Lib.hid (show o.toList.length ≤ 1 by cases o <;> simp)
        go_upto_region 20 with (go_at_call 52; go_must (refine (HPE.out _ HB.out).mono ?_; rintro e w5 ⟨ap, np, cp, rfl, hb5, hap⟩; have HB5 := Lib.hid hb5; have HAP := Lib.hid hap; clear hb5 hap))
        have HBX5 := Lib.hid (HB3.out.trans (HB5.out.mono hzw))
        rcases HAP.out with ⟨rfl, rfl, rfl, rfl⟩ | ⟨p, gp, rfl, rfl, hop, hpz⟩
        · have HP8 := Lib.hid (show Parts w5 w.heap.size (.slice none 0 0) [] (Option.toList (none : Option Prog)) from Parts.nil _ _)
          have HB8 := HBX5
          go_upto_region 22 with (fail)
          have hjn := Join_any none 0 0 [] w5 rfl (SeesR.nil _ _) (by omega) (fun x hx => by cases hx)
          obtain ⟨o, ho⟩ : ∃ o : Option Prog, none = o := ⟨_, rfl⟩
          rw [ho] at HPS
          rw [show progsV [] = o.toList by rw [← ho]; rfl] at hjn
          -- the programs are joined
          obtain ⟨J, je, hJ⟩ : ∃ J je, joinS o.toList = (J, je) := ⟨_, _, rfl⟩
          unfold JoinDoes at hjn
          rw [hJ] at hjn
          simp only at hjn
          have HRel := Lib.hid (EndRel.join (F := 0) (Q := []) (J := J) (je := je) (line := line) (by rw [List.drop_zero]; exact HPS.out) (fun _ => ⟨rfl, rfl⟩) (by rw [List.nil_append]; exact hJ))
          have hjn2 := hjn.mono (fun e w' ⟨v, h1, h2, h3⟩ => (show ∃ (g : Option Nat) (n c : Nat), e = Ending.returned (.tuple #[.slice (g.map fun g => ⟨g, 0, none⟩) n c, .int .i64 je]) ∧ OwnP w' _ (slV (g, n, c)) J ∧ Below _ _ w' by
            obtain ⟨⟨g, n, c⟩, e2⟩ := h2.slP
            subst e2
            exact ⟨g, n, c, h1, h2, h3⟩))
          have HJN := Lib.hid hjn2
          clear hjn hjn2 hJ
          by_cases hj0 : je = 0
          · subst hj0
            have hrel0 := HRel.out
            rw [if_pos rfl] at hrel0
            have HR0 := Lib.hid hrel0
            clear hrel0 HRel
            go_upto_region 25 with (go_at_call 55; go_must (refine HJN.out.mono ?_; rintro e w9 ⟨g9, n9, c9, rfl, ho9, hb9⟩; have HO9 := Lib.hid ho9; have HB9 := Lib.hid (HB8.out.trans (hb9.mono HB8.out.size)); clear ho9 hb9))
            have h9 := H.out.below HB9.out
            have c7 := h9.cells.1 7 vp (by rfl)
            have HO9' := Lib.hid (HO9.out.lower (show B ≤ _ by have := HB8.out.size; have := HBw.out; omega))
            have HPV := Lib.hid (show pv.length ≤ 1000 by rw [h9.rows.pl]; exact HPL.out)
            have H9 := Lib.hid h9
            clear h9
            go_wp2_with (at_builtin; go_must (refine wpList_append1 (E := slT) ((H9.out.rows.op).below ((Below.refl _ _).alloc (Nat.le_refl _) _)) (by have := lt_of_block H9.out.blk; have := H9.out.ge; simp; omega) w9.heap.size 1 (g9, n9, c9) 45 (by exact heap_new _ _ _ rfl) (by show (_ + 1) * 24 ≤ _; have := HPV.out; omega) (by unfold maxLen; have := HPV.out; omega) rfl _ _ rfl rfl rfl ?_; intro v10 w10 hown10 hgrow10; obtain ⟨ao10, n10, c10, rfl, hn10⟩ := hown10.sliceH; obtain ⟨q1, q2, q3, q4⟩ := H9.out.push_prog HO9'.out hown10 hgrow10; have Q1 := Lib.hid q1; have Q2 := Lib.hid q2; have Q3 := Lib.hid q3; have z10 : w10.cell? ⟨rb, 7, none⟩ = some vp := (cell_of_row _ _ 7 _ _ _ q4); have y10 := frozen_of_row _ _ 7 _ _ q4; have z12 := q1.cells.1 12 _ rfl; have y12 := q1.cells.2 12; clear hown10 hgrow10 hn10 q1 q2 q3 q4))
            go_end0
            have h2 := Q1.out.set 12 (.int .i64 0) (st' := { st with progs := st.progs ++ [J], opn := 0 }) rfl (Q1.out.rows.retell rfl rfl rfl rfl)
            exact EndDoes.good HR0.out h2 (((HB9.out.mono HBw.out).trans Q2.out).setCell (p := ⟨rb, 12, none⟩) H9.out.ge _) (((KeepT.of_below HB9.out).trans Q3.out).trans (KeepT.set Q1.out.blk (.inl rfl)))
          · have hj1 : (je != 0) = true := by simpa using hj0
            have hrel0 := HRel.out
            rw [if_neg hj0] at hrel0
            have HR0 := Lib.hid hrel0
            clear hrel0 HRel hj0
            go_wp2_with (first
              | (go_at_call 55; go_must (refine HJN.out.mono ?_; rintro e w9 ⟨g9, n9, c9, rfl, ho9, hb9⟩; have HB9 := Lib.hid (HB8.out.trans (hb9.mono HB8.out.size)); have c11 := (H.out.below HB9.out).cells.1 11 (.int .i64 line) rfl; clear ho9 hb9))
              | (go_at_call 33; refine (sfail_any _ _ line _).mono ?_; rintro e w7 ⟨rfl, rfl⟩))
            exact ⟨rfl, EndDoes.bad HR0.out (HB9.out.mono HBw.out) (KeepT.of_below HB9.out)⟩
        · have HOP := Lib.hid (hop.lower hzw)
          clear hop
          go_upto_region 22 with (at_builtin; go_must (refine wpList_append1 (E := slT) (OwnG.nil slT _ w.heap.size) (by have := HBX5.out.size; simp; omega) w5.heap.size 1 (some gp, np, cp) 45 (by exact heap_new _ _ _ rfl) (by show (_ + 1) * 24 ≤ _; decide) (by unfold maxLen; decide) rfl _ _ rfl rfl rfl ?_; intro v8 w8 hown8 hgrow8; have hp8 := (Parts.nil _ w.heap.size).push (HOP.out.below ((Below.refl _ _).alloc (Nat.le_refl _) _)) hpz hown8 hgrow8; have HP8 := Lib.hid hp8; have hb8 := ((Below.refl w.heap.size w5).alloc HBX5.out.size (.cells #[slV (some gp, np, cp)] 45)).grown hgrow8 (by have := HBX5.out.size; simp; omega) (fun k hk => by cases hk); have HB8 := Lib.hid (HBX5.out.trans hb8); clear hown8 hgrow8 hp8 hb8))
          obtain ⟨pl8, hpl8⟩ : ∃ pl8 : List SlP, pl8 = [] ++ [(some gp, np, cp)] := ⟨_, rfl⟩
          rw [← hpl8] at HP8
          obtain ⟨o, ho⟩ : ∃ o : Option Prog, some p = o := ⟨_, rfl⟩
          rw [show ([] ++ [p] : List Prog) = o.toList by rw [← ho]; rfl] at HP8
          rw [ho] at HOL HPS
          clear hpl8

          -- the programs are joined
          obtain ⟨ao8, c8, rfl, hs8⟩ := HP8.out.sees
          have hjn := Join_any ao8 o.toList.length c8 (partsV pl8 o.toList) _ (partsV_len HP8.out.len) hs8 (by have := HOL.out; omega) HP8.out.small
          rw [partsV_progs HP8.out.len] at hjn
          clear hs8
          obtain ⟨J, je, hJ⟩ : ∃ J je, joinS o.toList = (J, je) := ⟨_, _, rfl⟩
          unfold JoinDoes at hjn
          rw [hJ] at hjn
          simp only at hjn
          have HRel := Lib.hid (EndRel.join (F := 0) (Q := []) (J := J) (je := je) (line := line) (by rw [List.drop_zero]; exact HPS.out) (fun _ => ⟨rfl, rfl⟩) (by rw [List.nil_append]; exact hJ))
          have hjn2 := hjn.mono (fun e w' ⟨v, h1, h2, h3⟩ => (show ∃ (g : Option Nat) (n c : Nat), e = Ending.returned (.tuple #[.slice (g.map fun g => ⟨g, 0, none⟩) n c, .int .i64 je]) ∧ OwnP w' _ (slV (g, n, c)) J ∧ Below _ _ w' by
            obtain ⟨⟨g, n, c⟩, e2⟩ := h2.slP
            subst e2
            exact ⟨g, n, c, h1, h2, h3⟩))
          have HJN := Lib.hid hjn2
          clear hjn hjn2 hJ
          by_cases hj0 : je = 0
          · subst hj0
            have hrel0 := HRel.out
            rw [if_pos rfl] at hrel0
            have HR0 := Lib.hid hrel0
            clear hrel0 HRel
            go_upto_region 25 with (go_at_call 55; go_must (refine HJN.out.mono ?_; rintro e w9 ⟨g9, n9, c9, rfl, ho9, hb9⟩; have HO9 := Lib.hid ho9; have HB9 := Lib.hid (HB8.out.trans (hb9.mono HB8.out.size)); clear ho9 hb9))
            have h9 := H.out.below HB9.out
            have c7 := h9.cells.1 7 vp (by rfl)
            have HO9' := Lib.hid (HO9.out.lower (show B ≤ _ by have := HB8.out.size; have := HBw.out; omega))
            have HPV := Lib.hid (show pv.length ≤ 1000 by rw [h9.rows.pl]; exact HPL.out)
            have H9 := Lib.hid h9
            clear h9
            go_wp2_with (at_builtin; go_must (refine wpList_append1 (E := slT) ((H9.out.rows.op).below ((Below.refl _ _).alloc (Nat.le_refl _) _)) (by have := lt_of_block H9.out.blk; have := H9.out.ge; simp; omega) w9.heap.size 1 (g9, n9, c9) 45 (by exact heap_new _ _ _ rfl) (by show (_ + 1) * 24 ≤ _; have := HPV.out; omega) (by unfold maxLen; have := HPV.out; omega) rfl _ _ rfl rfl rfl ?_; intro v10 w10 hown10 hgrow10; obtain ⟨ao10, n10, c10, rfl, hn10⟩ := hown10.sliceH; obtain ⟨q1, q2, q3, q4⟩ := H9.out.push_prog HO9'.out hown10 hgrow10; have Q1 := Lib.hid q1; have Q2 := Lib.hid q2; have Q3 := Lib.hid q3; have z10 : w10.cell? ⟨rb, 7, none⟩ = some vp := (cell_of_row _ _ 7 _ _ _ q4); have y10 := frozen_of_row _ _ 7 _ _ q4; have z12 := q1.cells.1 12 _ rfl; have y12 := q1.cells.2 12; clear hown10 hgrow10 hn10 q1 q2 q3 q4))
            go_end0
            have h2 := Q1.out.set 12 (.int .i64 0) (st' := { st with progs := st.progs ++ [J], opn := 0 }) rfl (Q1.out.rows.retell rfl rfl rfl rfl)
            exact EndDoes.good HR0.out h2 (((HB9.out.mono HBw.out).trans Q2.out).setCell (p := ⟨rb, 12, none⟩) H9.out.ge _) (((KeepT.of_below HB9.out).trans Q3.out).trans (KeepT.set Q1.out.blk (.inl rfl)))
          · have hj1 : (je != 0) = true := by simpa using hj0
            have hrel0 := HRel.out
            rw [if_neg hj0] at hrel0
            have HR0 := Lib.hid hrel0
            clear hrel0 HRel hj0
            go_wp2_with (first
              | (go_at_call 55; go_must (refine HJN.out.mono ?_; rintro e w9 ⟨g9, n9, c9, rfl, ho9, hb9⟩; have HB9 := Lib.hid (HB8.out.trans (hb9.mono HB8.out.size)); have c11 := (H.out.below HB9.out).cells.1 11 (.int .i64 line) rfl; clear ho9 hb9))
              | (go_at_call 33; refine (sfail_any _ _ line _).mono ?_; rintro e w7 ⟨rfl, rfl⟩))
            exact ⟨rfl, EndDoes.bad HR0.out (HB9.out.mono HBw.out) (KeepT.of_below HB9.out)⟩
end
end Go.Proofs.YtoiokbdipcecnaaGreatDoor
