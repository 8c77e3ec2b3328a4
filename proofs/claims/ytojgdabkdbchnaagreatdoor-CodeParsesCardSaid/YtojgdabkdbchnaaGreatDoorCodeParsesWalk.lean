/-
  quash/quashlaw15.CodeParses answers true. Condition: the library's variables (Env), a text that lies in memory.
-/
import Derived.Test.YtojgdabkdbchnaaGreatDoorCodeAwake15
import Derived.Test.YtojgdabkdbchnaaGreatDoorRefParse15
namespace Go.Proofs.YtojgdabkdbchnaaGreatDoor
open Go.RowKit
set_option maxRecDepth 100000

theorem readS_most {st st' : RS} {line : Int} {l0 : List UInt8} (h : st.l.length ≤ 400) (hr : readS st line l0 = .ok st') : st'.l.length ≤ 400 := by
  obtain ⟨b, hb⟩ : ∃ b, Lib.trimS l0 [32, 9] = b := ⟨_, rfl⟩
  by_cases h0 : b = []
  · rw [readS_empty (by rw [hb, h0])] at hr
    injection hr with hr; subst hr; exact h
  obtain ⟨a, c, hac⟩ : ∃ a c, b = a ++ [c] := ⟨b.dropLast, b.getLast h0, (List.dropLast_concat_getLast _).symm⟩
  by_cases hc : c = 58
  · subst hc
    rw [readS_label (by rw [hb, hac])] at hr
    split at hr
    · cases hr
    split at hr
    · cases hr
    split at hr
    · cases hr
    injection hr with hr; subst hr; exact h
  · rw [readS_one hb h0 (by rw [hac, suffix_colon]; simpa using hc)] at hr
    cases ho : oneS b with
    | none => rw [ho] at hr; cases hr
    | some r =>
      obtain ⟨op, x, nm⟩ := r
      rw [ho] at hr
      simp only at hr
      split at hr
      · cases hr
      · injection hr with hr; subst hr
        simp only [List.length_append, List.length_singleton]; omega
theorem readAll_most : ∀ {L : List (List UInt8)} {st st' : RS} {k : Nat}, st.l.length ≤ 400 → readAll st k L = .ok st' → st'.l.length ≤ 400
  | [], st, st', k, h, hr => by injection hr with hr; subst hr; exact h
  | x :: r, st, st', k, h, hr => by
    unfold readAll at hr
    cases hs : readS st ((k + 1 : Nat) : Int) (Lib.cut x [59]).1 with
    | error e => rw [hs] at hr; cases hr
    | ok s2 =>
      rw [hs] at hr
      exact readAll_most (readS_most h hs) hr
theorem parseL_most {t : List UInt8} {l : List (Int × Int)} (h : parseL t = .ok l) : l.length ≤ 400 := by
  unfold parseL at h
  split at h
  · cases h
  cases hr : readAll ⟨[], [], [], []⟩ 0 (linesL 10 t) with
  | error e => rw [hr] at h; cases h
  | ok st =>
    rw [hr] at h
    have hm := readAll_most (by decide) hr
    simp only at h
    cases hp : placesS st with
    | error e => rw [hp] at h; cases h
    | ok l2 =>
      rw [hp] at h
      have := placesN_length hp
      simp only at h
      split at h
      · cases h
      · injection h with h; subst h; omega
/-- what both readers of a text answer -/
theorem parse_both (t : List UInt8) : ∃ (l : List (Int × Int)) (er ln : Int), l.length ≤ 400 ∧ ∀ w e w', ParseDoes t w e w' → ∃ v, e = .returned (.tuple #[v, .int .i64 ln, .int .i64 er]) ∧ OwnP w' w.heap.size v l ∧ Below w.heap.size w w' := by
  cases hp : parseL t with
  | error x =>
    obtain ⟨er, ln⟩ := x
    refine ⟨[], er, ln, by decide, fun w e w' h => ?_⟩
    unfold ParseDoes at h
    rw [hp] at h
    exact ⟨_, h.1, OwnP.nil _ _, h.2⟩
  | ok l =>
    refine ⟨l, 0, 0, parseL_most hp, fun w e w' h => ?_⟩
    unfold ParseDoes at h
    rw [hp] at h
    obtain ⟨v, h1, h2, h3⟩ := h
    exact ⟨v, h1, h2, h3⟩
theorem instrCells_set : ∀ (l : List (Int × Int)) (j : Nat) (a b : Int), ((instrCells l).set (j * 2) (.int .i64 a)).set (j * 2 + 1) (.int .i64 b) = instrCells (l.set j (a, b))
  | [], j, a, b => by simp [instrCells]
  | x :: l, 0, a, b => by simp [instrCells]
  | x :: l, j + 1, a, b => by
    have ih := instrCells_set l j a b
    rw [show (j + 1) * 2 = j * 2 + 1 + 1 by omega]
    simp only [instrCells, List.flatMap_cons, List.set_cons_succ, List.cons_append, List.nil_append] at ih ⊢
    rw [ih]
theorem OwnP.set2 {w : World} {B g n cap : Nat} {l : List (Int × Int)} (h : OwnP w B (.slice (some ⟨g, 0, none⟩) n cap) l) (hn : l.length = n) (j : Nat) (a b : Int) :
    OwnP ((w.setCell ⟨g, j * 2, none⟩ (.int .i64 a)).setCell ⟨g, j * 2 + 1, none⟩ (.int .i64 b)) B (.slice (some ⟨g, 0, none⟩) n cap) (l.set j (a, b)) := by
  subst hn
  have h1 := (World.ownsRow.stored h (j * 2) (.int .i64 a)).1
  have h2 := (World.ownsRow.stored h1 (j * 2 + 1) (.int .i64 b)).1
  unfold OwnP
  rw [List.length_set, ← instrCells_set]
  exact h2
set_option maxHeartbeats 4000000 in
theorem CodeParses_any (s : ByteArray) (w : World) (he : Env w) :
    Calls Tryz.prog 5 #[.string s] w fun e w' => e = .returned (.bool true) ∧ Below w.heap.size w w' := by
  obtain ⟨t, ht⟩ : ∃ t, s = S t := ⟨s.data.toList, (S_eta s).symm⟩
  subst ht
  obtain ⟨l, er, ln, hl, hboth⟩ := parse_both t
  have HREF := Lib.hid (fun W => (refParse_any t W).mono fun e w' h => hboth W e w' h)
  have HPAR := Lib.hid (fun W (h : Env W) => (Parse_every t W h).mono fun e w' h => hboth W e w' h)
  obtain ⟨sv, hsv⟩ : ∃ sv, sv = S t := ⟨_, rfl⟩
  rw [← hsv] at HREF HPAR ⊢
  obtain ⟨n, hn⟩ : ∃ n, n = l.length := ⟨_, rfl⟩
  have HN := Lib.hid hn
  have HE := Lib.hid (fun W (hb : Below w.heap.size w W) => he.below hb)
  have HE0 := Lib.hid he
  have hn4 : n ≤ 400 := by omega
  clear hboth hsv hl hn he
  go_enter Tryz.func5, Tryz.ntmps5
  go_upto_region 3 with (first
    | (go_at_call 7; go_must (refine (awake15_any _ HE0.out).mono ?_; rintro e w1 ⟨rfl, hb1⟩))
    | (go_at_call 14; go_must (refine (HREF.out _).mono ?_; rintro e w2 ⟨vw, rfl, how, hb2⟩)))
  obtain ⟨aw, cw, rfl, hsw, -⟩ := how.slice
  have hB2 := hb1.trans (hb2.mono hb1.size)
  have HSW := Lib.hid hsw
  have HB2 := Lib.hid hB2
  have hz2 := hB2.size
  rw [← HN.out]
  clear hb1 hb2 how hsw hB2
  go_wp2
  go_loopw [7] (fun i wr => ∃ k : Nat, k ≤ 2 ∧ i = .int .i64 k ∧ Below w2.heap.size w2 wr) (fun i _ => 2 - (intOf i).toNat)
  case atStart => exact ⟨0, by omega, rfl, Below.refl _ _⟩
  case round =>
    obtain ⟨k, hk, rfl, hB⟩ := hrel
    have HB := Lib.hid hB
    have hzr := hB.size
    obtain ⟨wA, rfl⟩ : ∃ wA : World, wA = wr := ⟨_, rfl⟩
    clear hB
    by_cases hlt : k < 2
    · go_upto_region 8 with (first
        | (go_at_call 15; go_must (refine (HPAR.out _ (HE.out _ (HB2.out.trans (HB.out.mono hz2)))).mono ?_; rintro e w3 ⟨v3, rfl, ho3, hb3⟩; obtain ⟨a3, c3, rfl, hs3, -⟩ := ho3.slice; rw [← HN.out] at ho3 ⊢))
        | (go_at_call 11; go_must (refine (same_any _ _ n n _ _ l l _ HN.out.symm HN.out.symm (by exact hs3) (by exact (HSW.out.below HB.out).below hb3) (by unfold maxLen; omega) (by unfold maxLen; omega)).mono ?_; rintro e w4 ⟨rfl, d4, rfl⟩; rw [decide_eq_true rfl])))
      have hz3 := hb3.size
      refine wp_gen (fun W => OwnP W wA.heap.size (.slice a3 n c3) l ∧ Below wA.heap.size wA W) ⟨ho3, ⟨hb3.os, hb3.tape, hb3.output, hb3.size, hb3.block⟩⟩ ?_
      rintro W4 ⟨ho4, hb4⟩
      have HO4 := Lib.hid ho4
      have HB4 := Lib.hid hb4
      clear ho3 hb3 hs3 ho4 hb4
      go_wp2
      go_loopw [12] (fun j wr => ∃ (i : Nat) (l' : List (Int × Int)), i ≤ n ∧ j = .int .i64 i ∧ l'.length = n ∧ OwnP wr wA.heap.size (.slice a3 n c3) l' ∧ Below wA.heap.size wA wr) (fun j _ => n - (intOf j).toNat)
      case atStart => exact ⟨0, l, by omega, rfl, HN.out.symm, HO4.out, HB4.out⟩
      case round =>
        obtain ⟨i, l', hi, rfl, hl', ho, hb⟩ := hrel
        have HL := Lib.hid hl'
        have HO := Lib.hid ho
        have HBB := Lib.hid hb
        have hzz := hb.size
        by_cases hin : i < n
        · obtain ⟨g, cg, hgg⟩ : ∃ g cg, (Value.slice a3 n c3) = .slice (some ⟨g, 0, none⟩) n cg := by
            rcases ho.form with ⟨_, h2⟩ | ⟨g, cap, h2⟩
            · rw [h2] at hl'; simp at hl'; omega
            · rw [hl'] at h2; exact ⟨g, cap, h2⟩
          injection hgg with hg1 _ hg2
          subst hg1
          subst hg2
          have ho' : wr.ownsRow wA.heap.size 42 2 (.slice (some ⟨g, 0, none⟩) n c3) n (instrCells l') := by
            have h9 := ho; unfold OwnP at h9; rw [hl'] at h9; exact h9
          have il := instrCells_length l'
          have q0 := (World.ownsRow.cellAt ho' (i * 2) (by omega)).trans (List.getElem?_eq_getElem (by omega))
          have q1 := (World.ownsRow.cellAt ho' (i * 2 + 1) (by omega)).trans (List.getElem?_eq_getElem (by omega))
          have r0 := World.ownsRow.frozenAt ho' (i * 2)
          have r1 := World.ownsRow.frozenAt ho' (i * 2 + 1)
          have hge := own_ge ho' rfl
          have hi0 : (0 : Int) ≤ (i : Int) := by omega
          generalize (instrCells l')[i * 2]'(by omega) = z0 at q0
          generalize (instrCells l')[i * 2 + 1]'(by omega) = z1 at q1
          clear il ho' ho hb hl'
          go_wp2
          go_roundw
          case rel => exact ⟨i + 1, l'.set i (99, (i : Int)), by omega, by go_num, by rw [List.length_set]; exact HL.out, HO.out.set2 HL.out i 99 i, (HBB.out.setCell (p := ⟨g, i * 2, none⟩) hge _).setCell (p := ⟨g, i * 2 + 1, none⟩) hge _⟩
          case measure => simp [intOf]; omega
        · clear ho hb hl'
          go_wp2_with (first
            | (at_builtin; go_must (refine wpList_appendP (HO.out.below ((Below.refl _ _).alloc (Nat.le_refl _) _)) (by simp; omega) (some ⟨wr.heap.size, 0, none⟩) 1 1 [(98, 0)] rfl (seesP_one (heap_new _ _ _ rfl)) (fun h => by cases h) (by rw [HL.out]; simp; omega) rfl _ _ rfl rfl rfl ?_; intro v8 w8 hown8 hgrow8)))
          go_roundw
          case rel => exact ⟨k + 1, by omega, by go_num, HB.out.trans (((HBB.out.alloc hzz _).grown hgrow8 (by simp; omega) (fun k hk => own_ge HO.out hk)).mono hzr)⟩
          case measure => simp [intOf]; omega
    · go_wp2
      go_ret
      exact ⟨rfl, HB2.out.trans (HB.out.mono hz2)⟩
end Go.Proofs.YtojgdabkdbchnaaGreatDoor
