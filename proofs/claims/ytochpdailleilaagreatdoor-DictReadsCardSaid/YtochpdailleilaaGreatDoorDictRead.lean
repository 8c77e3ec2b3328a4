/-
  quash/dict.entries: every call over a slice that reads as a dict's cells. Condition: the cells' numbers are int64.
-/
import Derived.Test.YtochpdailleilaaGreatDoorDictDo
import Derived.Test.YtochpdailleilaaGreatDoorDictMap
import Derived.Test.YtochpdailleilaaGreatDoorDictSort
import Derived.Deep.RegionWith
import Derived.Deep.DeepCutAuto
import Derived.BigQuiet
namespace Go.Proofs.YtochpdailleilaaGreatDoor
open Go.RowKit Go.Maps
set_option maxRecDepth 100000

theorem lawK : Keyed Tryz.prog 2 := int_keyed Tryz.underlying2
theorem zeroIntD (w : World) : (zeroValue 3).run Tryz.prog w = .ok (.int .i64 0) w := by kernel_rfl
theorem distN_step {n h j i : Nat} (hh : h < n) (hi : i < n) (hj : j ≤ distN n h i) : distN n (stepN n h j) i = distN n h i - j := by
  unfold distN at hj ⊢
  unfold stepN
  split at hj <;> split <;> split <;> omega
theorem sortE_congr {l l' : List (Int × Int)} (h : l.Perm l') (hn : (l'.map (·.1)).Nodup) : sortE l = sortE l' :=
  sorted_eq (sortE_rises l) (sortE_rises l') ((sortE_perm (((h.map (·.1)).nodup_iff).2 hn)).trans (h.trans (sortE_perm hn).symm))
/-- 'len' of a map of the call's own, as one step of a region that draws -/
theorem step_len_own {ops : Array Oper} {o : Oper} {a : Act} {w : World} {K : Act → World → Prop} {Q : Exit → Act → World → Prop} {E : Prop} {b n : Nat} {D : DataW Unit} (hown : w.ownsMap Tryz.prog 2 (plainElem Tryz.prog 3) b n D)
    (hg : o.guard = none) (m : Operand) (hop : o.op = Op.call { callee := Callee.builtin Builtin.len, args := #[m], argTypes := #[89] }) (hm : a.eval m = .map (some b))
    (hK : K (a.put o.dst (.int .i64 (Maps.size D))) w) : if Region.wanted o (yielded ops a.tmps) = true then Oper.wp Tryz.prog o a w K Q else E := by
  have hw : Region.wanted o (yielded ops a.tmps) = true := by simp [Region.wanted, hg]
  rw [if_pos hw]
  have hrun := hown.len Tryz.underlying89 o.type
  unfold Oper.wp
  simp [execOp, hop, resolve, invoke, builtin, hm, hrun, Result.andThen]
  exact hK
/-- what entries answers -/
def EntZ (r : Option (List (Int × Int))) (w : World) (e : Ending) (w' : World) : Prop :=
  match r with
  | some l => ∃ v, e = .returned (.tuple #[v, .bool true]) ∧ OwnE w' w.heap.size v l ∧ Below w.heap.size w w'
  | none => e = .returned (.tuple #[.slice none 0 0, .bool false]) ∧ Below w.heap.size w w'
theorem entZ_none {r : Option (List (Int × Int))} (hr : r = none) {w w' : World} (h : Below w.heap.size w w') : EntZ r w (.returned (.tuple #[.slice none 0 0, .bool false])) w' := by
  subst hr; exact ⟨rfl, h⟩
theorem entZ_some {r : Option (List (Int × Int))} {l : List (Int × Int)} (hr : r = some l) {w w' : World} {v : Value} (ho : OwnE w' w.heap.size v l) (h : Below w.heap.size w w') : EntZ r w (.returned (.tuple #[v, .bool true])) w' := by
  subst hr; exact ⟨v, rfl, ho, h⟩
theorem readZ_bad {st key val : Nat → Int} {n i : Nat} {c0 : Int} (hi : i < n) (h : okAt st key n i = false) : readZ st key val n c0 = none := by
  unfold readZ
  rw [if_neg]
  rintro ⟨h1, _⟩
  rw [h1 i hi] at h
  cases h
set_option maxHeartbeats 8000000 in
theorem entries_go (b o c : Nat) (zs : List Int) (N : Nat) (w : World) (hlen : zs.length = 1 + 3 * N) (hcap : 1 + 3 * N ≤ c) (hs : Sees w (some ⟨b, o, none⟩) zs) (hwf : ∀ z ∈ zs, (Lit.int .i64 z).wf = true) (h1 : 1 ≤ N) (h60 : N ≤ 60)
    (st key val : Nat → Int) (hst : ∀ i, i < N → st i = zs.getD (1 + 3 * i) 0) (hkey : ∀ i, i < N → key i = zs.getD (2 + 3 * i) 0) (hval : ∀ i, i < N → val i = zs.getD (3 + 3 * i) 0) :
    Calls Tryz.prog 28 #[.slice (some ⟨b, o, none⟩) (1 + 3 * N) c, .int .i64 N] w (EntZ (readZ st key val N (zs.getD 0 0)) w) := by
  have HCELL := Lib.hid (show ∀ W, Below w.heap.size w W → ∀ j, j < 1 + 3 * N → W.cell? ⟨b, o + j, none⟩ = some (.int .i64 (zs.getD j 0)) from fun W hB j hj => by
    obtain ⟨b1, o1, e1, h1⟩ := hs.below hB
    have e1 := e1 (by intro e; rw [e] at hlen; simp at hlen; omega)
    injection e1 with e1
    injection e1 with e1 e2
    subst e1; subst e2
    exact h1 j (by omega))
  have HC1 := Lib.hid (show ∀ W, Below w.heap.size w W → ∀ i, i < N → W.cell? ⟨b, o + (1 + 3 * i), none⟩ = some (.int .i64 (st i)) from fun W hB i hi => by rw [hst i hi]; exact HCELL.out W hB _ (by omega))
  have HC2 := Lib.hid (show ∀ W, Below w.heap.size w W → ∀ i, i < N → W.cell? ⟨b, o + (2 + 3 * i), none⟩ = some (.int .i64 (key i)) from fun W hB i hi => by rw [hkey i hi]; exact HCELL.out W hB _ (by omega))
  have HC3 := Lib.hid (show ∀ W, Below w.heap.size w W → ∀ i, i < N → W.cell? ⟨b, o + (3 + 3 * i), none⟩ = some (.int .i64 (val i)) from fun W hB i hi => by rw [hval i hi]; exact HCELL.out W hB _ (by omega))
  have HC0 := Lib.hid (show ∀ W, Below w.heap.size w W → W.cell? ⟨b, o, none⟩ = some (.int .i64 (zs.getD 0 0)) from fun W hB => HCELL.out W hB 0 (by omega))
  have HWF := Lib.hid (show ∀ i, i < N → (Lit.int .i64 (key i)).wf = true from fun i hi => by
    rw [hkey i hi]
    refine hwf _ ?_
    rw [List.getD_eq_getElem?_getD, List.getElem?_eq_getElem (by omega)]
    exact List.getElem_mem _)
  generalize zs.getD 0 0 = c0 at HC0 ⊢
  clear hs hwf hst hkey hval hlen HCELL
  have hN0 : ((N : Int) == 0) = false := by simp; omega
  have hmm := @run_makeMap Tryz.prog
  go_enter Tryz.func28, Tryz.ntmps28
  go_wp2_with fail
  refine wp_gen (fun W => Below w.heap.size w W ∧ W.ownsMap (H := Unit) Tryz.prog 2 (plainElem Tryz.prog 3) w.heap.size 0 (.map [])) ⟨(Below.refl _ _).alloc (Nat.le_refl _) _, World.ownsMap_made _ _ _ _⟩ ?_
  rintro w0 ⟨hb0, hm0⟩
  clear hmm
  go_loopw [18] (fun v wr => ∃ (i : Nat) (D : DataW Unit), i ≤ N ∧ v = .int .i64 i ∧ (∀ j, j < i → okAt st key N j = true) ∧ wr.ownsMap Tryz.prog 2 (plainElem Tryz.prog 3) w.heap.size i D ∧ MapOK st key i D ∧ Below w.heap.size w wr) (fun v _ => N - (intOf v).toNat)
  case atStart => exact ⟨0, .map [], Nat.zero_le _, rfl, fun j hj => by omega, hm0, MapOK.start _ _, hb0⟩
  case round =>
    obtain ⟨i, D, hiN, rfl, hok, hown, hmap, hB⟩ := hrel
    have HOK := Lib.hid hok
    have HOWN := Lib.hid hown
    have HMAP := Lib.hid hmap
    have HB := Lib.hid hB
    by_cases hlt : i < N
    · have q1 := HC1.out wr hB i hlt
      have q2 := HC2.out wr hB i hlt
      have hkwf := HWF.out i hlt
      obtain ⟨z, hz⟩ : ∃ z, z = st i := ⟨_, rfl⟩
      obtain ⟨k, hk⟩ : ∃ k, k = key i := ⟨_, rfl⟩
      rw [← hz] at q1
      rw [← hk] at q2 hkwf
      have HZ := Lib.hid hz
      have HK := Lib.hid hk
      have HKWF := Lib.hid hkwf
      have g1 : IntKind.i64.wrap (3 * (i : Int)) = 3 * (i : Int) := IntWalk.i64_in _ (by omega)
      have g2 : IntKind.i64.wrap (1 + 3 * (i : Int)) = 1 + 3 * (i : Int) := IntWalk.i64_in _ (by omega)
      have g3 : IntKind.i64.wrap (2 + 3 * (i : Int)) = 2 + 3 * (i : Int) := IntWalk.i64_in _ (by omega)
      have g4 : (0 : Int) ≤ 1 + 3 * (i : Int) := by omega
      have g5 : (0 : Int) ≤ 2 + 3 * (i : Int) := by omega
      have g6 : (1 + 3 * (i : Int)).toNat = 1 + 3 * i := by omega
      have g7 : (2 + 3 * (i : Int)).toNat = 2 + 3 * i := by omega
      have g8 : (1 + 3 * (i : Int)) < 1 + 3 * (N : Int) := by omega
      have g9 : (2 + 3 * (i : Int)) < 1 + 3 * (N : Int) := by omega
      clear hok hown hmap hB hz hk hkwf
      go_upto_region 5 with (fail)
      go_quiet (fail)
      go_upto_region 6 with (fail)
      refine wp_gen (fun W => Below w.heap.size w W ∧ W.ownsMap Tryz.prog 2 (plainElem Tryz.prog 3) w.heap.size i D) ⟨Below.drewK HB.out _, HOWN.out⟩ ?_
      rintro W ⟨hB1, hown1⟩
      have HB1 := Lib.hid hB1
      have HOWN1 := Lib.hid hown1
      clear hB1 hown1 HB HOWN q1 q2
      by_cases hz0 : z < 0
      · have hd : decide (z < 0) = true := by simpa using hz0
        have HBAD := Lib.hid (show okAt st key N i = false by simp [okAt, ← HZ.out]; omega)
        clear hz0
        go_wp2
        go_ret2
        exact entZ_none (readZ_bad hlt HBAD.out) HB1.out
      by_cases hz2 : 2 < z
      · have hd : decide (z < 0) = false := by simp; omega
        have hd2 : decide (2 < z) = true := by simpa using hz2
        have HBAD := Lib.hid (show okAt st key N i = false by simp [okAt, ← HZ.out]; omega)
        clear hz0 hz2
        go_wp2
        go_ret2
        exact entZ_none (readZ_bad hlt HBAD.out) HB1.out
      have hd : decide (z < 0) = false := by simp; omega
      have hd2 : decide (2 < z) = false := by simp; omega
      by_cases hz1 : z = 1
      case neg =>
        have hd3 : (z != 1) = true := by simpa using hz1
        have HGOOD := Lib.hid (show okAt st key N i = true by simp [okAt, ← HZ.out]; exact ⟨by omega, .inl hz1⟩)
        have HSK := Lib.hid (HMAP.out.skip (by rw [← HZ.out]; exact hz1))
        clear hz0 hz2 hz1
        go_wp2
        go_roundw
        case rel => exact ⟨i + 1, D, by omega, by go_num, fun j hj => by
          by_cases e : j = i
          · rw [e]; exact HGOOD.out
          · exact HOK.out j (by omega), HOWN1.out.mono (Nat.le_succ _), HSK.out, HB1.out⟩
        case measure => simp [intOf]; omega
      subst hz1
      clear hz0 hz2 hd hd2
      cases hh : Maps.has D (.int .i64 k) with
      | true =>
        have HBAD := Lib.hid (show okAt st key N i = false by
          obtain ⟨j, h1, h2, h3⟩ := (HMAP.out.has_ k).1 hh
          have e1 : decide (st i ≠ 1) = false := by rw [← HZ.out]; simp
          have e2 : decide (∀ k, k < i → st k = 1 → key k ≠ key i) = false := by
            simp only [decide_eq_false_iff_not]
            intro h
            exact h j h1 h2 (by rw [h3, HK.out])
          unfold okAt
          rw [e1, e2]
          simp)
        go_wp2_with (at_lookup; refine wpList_lookup_own_ok_int (H := Unit) _ rfl _ _ 89 rfl 2 3 .i64 lawK Tryz.underlying89 Tryz.underlying3 (zeroIntD _) w.heap.size i D rfl HOWN1.out _ _ rfl (keyOf_int_mk Tryz.underlying2 HKWF.out) ?_; intro c1 hat1 hwc1; rw [hh])
        go_ret2
        exact entZ_none (readZ_bad hlt HBAD.out) HB1.out
      | false =>
        have HNEW := Lib.hid (show ∀ t, t < i → st t = 1 → key t ≠ key i from fun t h1 h2 h3 => by
          have := (HMAP.out.has_ k).2 ⟨t, h1, h2, by rw [h3, HK.out]⟩
          rw [hh] at this
          cases this)
        have HPUT := Lib.hid (by have := HMAP.out.put (HZ.out.symm) HNEW.out; rw [← HK.out] at this; exact this)
        have hcb : i < maxLen := by unfold maxLen; omega
        obtain ⟨h, hhd⟩ : ∃ h, h = homeN k N := ⟨_, rfl⟩
        have hhN : h < N := by rw [hhd]; exact homeN_lt k (by omega)
        have HH := Lib.hid hhd
        go_upto_region 14 with (first
          | (at_lookup; refine wpList_lookup_own_ok_int (H := Unit) _ rfl _ _ 89 rfl 2 3 .i64 lawK Tryz.underlying89 Tryz.underlying3 (zeroIntD _) w.heap.size i D rfl HOWN1.out _ _ rfl (keyOf_int_mk Tryz.underlying2 HKWF.out) ?_; intro c1 hat1 hwc1; rw [hh])
          | (at_mapUpdate; refine wpList_mapUpdate_own (H := Unit) _ rfl _ _ _ 89 rfl 2 3 lawK Tryz.underlying89 _ w.heap.size i D rfl HOWN1.out hcb _ _ _ rfl rfl (keyOf_int_mk Tryz.underlying2 HKWF.out) _ [] (plainElem_int Tryz.underlying3 (WalkArith.wf_i64 (by omega))) ?_; intro w7 hown7 hgrow7; have HOWN7 := Lib.hid hown7; have HB7 := Lib.hid (HB1.out.grown hgrow7 HB1.out.size (fun k hk => by cases hk; exact Nat.le_refl _)); clear hown7 hgrow7)
          | (go_at_call 43; go_must (refine (home_any k N h1 h60 _).mono ?_; rintro e w8 ⟨rfl, rfl⟩; rw [← HH.out])))
        go_loop [12] (fun vh => ∃ j, j ≤ distN N h i ∧ vh = .int .i64 (stepN N h j : Nat) ∧ ∀ t, t < j → st (stepN N h t) ≠ 0) (fun vh => distN N (intOf vh).toNat i)
        case atStart => exact ⟨0, Nat.zero_le _, by rw [stepN_zero hhN, HH.out], fun t ht => by omega⟩
        case round =>
          obtain ⟨j, hj, rfl, hpre⟩ := hrel
          have HPRE := Lib.hid hpre
          obtain ⟨g, hg⟩ : ∃ g, g = stepN N h j := ⟨_, rfl⟩
          have hgN : g < N := by rw [hg]; exact stepN_lt hhN hlt hj
          have HG := Lib.hid hg
          rw [← hg]
          clear hpre hg
          by_cases hjl : j < distN N h i
          · have hne : g ≠ i := by rw [HG.out]; exact stepN_ne hhN hjl
            have hd4 : ((g : Int) != (i : Int)) = true := by simp; omega
            have q3 := HC1.out _ HB7.out g hgN
            obtain ⟨z, hz⟩ : ∃ z, z = st g := ⟨_, rfl⟩
            rw [← hz] at q3
            have HZG := Lib.hid hz
            have HJL := Lib.hid hjl
            have f1 : IntKind.i64.wrap (3 * (g : Int)) = 3 * (g : Int) := IntWalk.i64_in _ (by omega)
            have f2 : IntKind.i64.wrap (1 + 3 * (g : Int)) = 1 + 3 * (g : Int) := IntWalk.i64_in _ (by omega)
            have f3 : (0 : Int) ≤ 1 + 3 * (g : Int) := by omega
            have f4 : (1 + 3 * (g : Int)).toNat = 1 + 3 * g := by omega
            have f5 : (1 + 3 * (g : Int)) < 1 + 3 * (N : Int) := by omega
            clear hz hne hjl
            by_cases hz0 : z = 0
            · have hd5 : (z == 0) = true := by simpa using hz0
              have HBAD := Lib.hid (show okAt st key N i = false by
                have e1 : decide (st i ≠ 1) = false := by rw [← HZ.out]; simp
                have e2 : pathB st N (homeN (key i) N) i = false := by
                  unfold pathB
                  simp only [decide_eq_false_iff_not]
                  intro hp
                  rw [← HK.out, ← HH.out] at hp
                  exact hp j HJL.out (by rw [← HG.out, ← HZG.out, hz0])
                unfold okAt
                rw [e1, e2]
                simp)
              clear hz0
              go_wp2
              go_ret2
              exact entZ_none (readZ_bad hlt HBAD.out) HB7.out
            · have hd5 : (z == 0) = false := by simpa using hz0
              have HNZ := Lib.hid hz0
              have HST := Lib.hid (stepN_succ hhN hlt HJL.out)
              rw [← HG.out] at HST
              have hrt : ((g : Int) + 1).tmod (N : Int) = (((g + 1) % N : Nat) : Int) := by
                rw [Int.tmod_eq_emod_of_nonneg (by omega)]
                simp
              have hre : ((g : Int) + 1) % (N : Int) = (((g + 1) % N : Nat) : Int) := by simp
              have hM := distN_step hhN hlt (j := j) (by have := HJL.out; omega)
              have hM2 := distN_step hhN hlt (j := j + 1) HJL.out
              rw [← HG.out] at hM
              rw [← HST.out] at hM2
              have HM1 := Lib.hid hM
              have HM2 := Lib.hid hM2
              have hjl := HJL.out
              have HST2 := Lib.hid HST.out
              clear hM hM2 hz0 HST
              generalize (g + 1) % N = r at hrt hre HST2 HM2
              go_wp2
              go_round
              case rel => exact ⟨j + 1, hjl, by rw [HST2.out], fun t ht => by
                by_cases e : t = j
                · rw [e, ← HG.out, ← HZG.out]; exact HNZ.out
                · exact HPRE.out t (by omega)⟩
              case measure => simp only [intOf, Int.toNat_natCast]; rw [HM1.out, HM2.out]; omega
          · have hje : j = distN N h i := by omega
            have hgi : g = i := by rw [HG.out, hje]; exact stepN_end hhN hlt
            have hd4 : ((g : Int) != (i : Int)) = false := by simp; omega
            have HGOOD := Lib.hid (show okAt st key N i = true by
              have e0 : decide (0 ≤ st i ∧ st i ≤ 2) = true := by rw [← HZ.out]; simp
              have e1 : decide (∀ k, k < i → st k = 1 → key k ≠ key i) = true := by simpa using HNEW.out
              have e2 : pathB st N (homeN (key i) N) i = true := by
                unfold pathB
                rw [decide_eq_true_eq, ← HK.out, ← HH.out, ← hje]
                exact HPRE.out
              unfold okAt
              rw [e0, e1, e2]
              simp)
            clear hje hgi HG hgN
            go_wp2
            go_roundw
            case rel => exact ⟨i + 1, _, by omega, by go_num, fun j hj => by
              by_cases e : j = i
              · rw [e]; exact HGOOD.out
              · exact HOK.out j (by omega), HOWN7.out, HPUT.out, HB7.out⟩
            case measure => simp [intOf]; omega
    · obtain rfl : i = N := by omega
      have hsz := hmap.size_
      rw [usedL_len2 st key (fun _ => 0) val] at hsz
      have hszle := usedL_len st key val i
      rw [← hsz] at hszle
      have HSZ := Lib.hid hsz
      have q0 := HC0.out wr hB
      obtain ⟨M, hM⟩ : ∃ M, M = Maps.size D := ⟨_, rfl⟩
      have HM := Lib.hid hM
      rw [← hM] at hszle
      clear hok hown hmap hB hsz hiN hlt hM
      go_upto_region 19 with (fail)
      go_cut [74] (fun p wr' => p = .bool (c0 != (M : Int)) ∧ ∃ q, wr' = wr.drewN q)
      case first =>
        have gz : (0 : Int) < 1 + 3 * (i : Int) := by omega
        have hlen := fun ty => HOWN.out.len Tryz.underlying89 ty
        rw [← HM.out] at hlen
        go_region_held3 (fun w' => w'.cell? ⟨b, o, none⟩ = some (.int .i64 c0) ∧ ∀ ty, (Builtin.len_ #[89] ty #[.map (some w.heap.size)]).run Tryz.prog w' = .ok (.int .i64 M) w') (first | exact ⟨q0, fun ty => by have := (show wr.drew.ownsMap Tryz.prog 2 (plainElem Tryz.prog 3) w.heap.size i D from HOWN.out).len Tryz.underlying89 ty; rw [← HM.out] at this; exact this⟩ | go_keep) (first | (refine step_len_own (n := i) (D := D) (b := w.heap.size) (by exact HOWN.out) rfl (.tmp 72) rfl rfl ?_; rw [← HM.out]))
        all_goals
          go_wp2_with fail
          go_meet
          exact ⟨rfl, 1, rfl⟩
      case rest =>
        obtain ⟨rfl, q, rfl⟩ := hcut
        by_cases hc : c0 = (M : Int)
        case neg =>
          have hd : (c0 != (M : Int)) = true := by simpa using hc
          have HNO := Lib.hid (show readZ st key val i c0 = none by
            unfold readZ
            rw [if_neg]
            rintro ⟨_, h2⟩
            rw [h2, HM.out, HSZ.out] at hc
            exact hc rfl)
          clear hc
          go_wp2
          go_ret2
          exact entZ_none HNO.out (Below.drewK HB.out _)
        have hd : (c0 != (M : Int)) = false := by simpa using hc
        rw [hd]
        have HYES := Lib.hid (show readZ st key val i c0 = some (sortE (usedL st key val i)) by
          unfold readZ
          rw [if_pos ⟨HOK.out, by rw [hc, HM.out, HSZ.out]⟩])
        clear hc
        go_upto_region 22 with (fail)
        refine wp_gen (fun W => Below w.heap.size w W ∧ W.ownsMap Tryz.prog 2 (plainElem Tryz.prog 3) w.heap.size i D) ⟨Below.drewK HB.out _, HOWN.out⟩ ?_
        rintro W ⟨hB1, hown1⟩
        have HB1 := Lib.hid hB1
        have hzW := hB1.size
        have HOWN1 := Lib.hid hown1
        clear hB1 hown1 HB HOWN q0
        go_wp2_with (at_range; refine wpList_range_own _ rfl _ 89 rfl 2 3 lawK Tryz.underlying89 _ w.heap.size i D rfl HOWN1.out ?_; intro wR hrg0 hgr0 hsR)
        go_frame
        have hBR : Below w.heap.size w wR := HB1.out.grown hgr0 hzW (fun k hk => by cases hk)
        have HSR := Lib.hid hsR
        have HR0 := Lib.hid hrg0
        have HBR := Lib.hid hBR
        clear hsR hrg0 hgr0 hBR
        go_loopw [13] (fun vo wr => ∃ (ss : List (Int × Int)) (left : Lit → Bool) (cnt : Nat), wr.ranges Tryz.prog 2 (plainElem Tryz.prog 3) w.heap.size W.heap.size i D left cnt ∧ CollI D left ss ∧ ss.length + cnt ≤ 60 ∧ OwnE wr wR.heap.size vo (ss.map fun p => (p.1, val p.2.toNat)) ∧ Below w.heap.size w wr ∧ wR.heap.size ≤ wr.heap.size) (fun _ wr => wr.rangeLeft w.heap.size W.heap.size)
        case atStart => exact ⟨[], _, _, HR0.out, CollI.start D, by rw [← HM.out]; simp; omega, OwnE.nil _ _, HBR.out, Nat.le_refl _⟩
        case round =>
          obtain ⟨ss, left, cnt, hrg, hcoll, hcnt, hO, hB, hzr⟩ := hrel
          have HRG := Lib.hid hrg
          have HCOLL := Lib.hid hcoll
          have HO := Lib.hid hO
          have HB := Lib.hid hB
          clear hrg hcoll hO hB
          go_wp2_with (at_next; refine wpList_next_ranges_ii _ rfl _ rfl 2 3 .i64 .i64 lawK Tryz.underlying2 Tryz.underlying3 w.heap.size W.heap.size i _ _ _ rfl HRG.out ?_ ?_)
          · intro _ hl0
            have HL0 := Lib.hid hl0
            clear hl0
            have HPERM := Lib.hid (HCOLL.out.perm val HL0.out HMAP.out HOK.out)
            have HND := Lib.hid (usedL_nodup val i HOK.out)
            have HSO := Lib.hid (sortE_congr HPERM.out HND.out)
            have HNDL := Lib.hid (((HPERM.out.map (·.1)).nodup_iff).2 HND.out)
            obtain ⟨l', hl'⟩ : ∃ l', l' = ss.map (fun p => (p.1, val p.2.toNat)) := ⟨_, rfl⟩
            have hll : l'.length ≤ 60 := by rw [hl', List.length_map]; omega
            rw [← hl'] at HO HSO HNDL
            clear hl' HPERM HND HCOLL HRG HR0
            rcases HO.out.form with ⟨e1, e2⟩ | ⟨g, cap, e1, hbal⟩
            · subst e1
              have HE := Lib.hid (show sortE (usedL st key val i) = [] by rw [← HSO.out, e2]; rfl)
              clear e2
              go_wp2_with (go_at_call 44; go_must (refine (sort_none _).mono ?_; rintro e w9 ⟨rfl, hb9⟩))
              go_ret2
              exact entZ_some (by rw [HYES.out, HE.out]) (OwnE.nil _ _) (HB.out.trans (hb9.mono HB.out.size))
            · subst e1
              obtain ⟨n, hn⟩ : ∃ n, n = l'.length := ⟨_, rfl⟩
              rw [← hn] at hll
              have HN := Lib.hid hn
              have HBAL := Lib.hid hbal
              have HSL := Lib.hid (show (sortE l').length = n by rw [(sortE_perm HNDL.out).length_eq, hn])
              rw [← hn]
              clear hn hbal
              go_wp2_with (go_at_call 44; go_must (refine (sort_any wR.heap.size g cap l' n _ HN.out.symm (by exact HBAL.out) HNDL.out (by omega)).mono ?_; rintro e w9 ⟨rfl, hb9, hg9⟩))
              go_ret2
              have h9 := hb9.own
              rw [HSL.out] at h9
              exact entZ_some (by rw [HYES.out, HSO.out]) (h9.lower HBR.out.size) (HB.out.grown hg9 HB.out.size (fun k hk => by cases hk; have := HBAL.out.lt.2; have := HBR.out.size; omega))
          · intro x cc w1 cnt1 hwx hwc hlx hat hrg1 hlt1 hg1 hs1 hen
            obtain ⟨j, hj, hj1, hj2, rfl⟩ : ∃ j : Nat, j < i ∧ st j = 1 ∧ key j = x ∧ cc = j := by
              obtain ⟨j, h1, h2, h3⟩ := (HMAP.out.has_ x).1 (Maps.has_true_of_atKey hat)
              have h4 := hat (.lit (.int .i64 0))
              rw [← h3, HMAP.out.at_ j h1 h2] at h4
              injection h4 with h4
              injection h4 with _ h4
              exact ⟨j, h1, h2, h3, h4.symm⟩
            have hB1' : Below w.heap.size w w1 := HB.out.grown hg1 HB.out.size (fun k hk => by cases hk; exact hzW)
            have q4 := HC3.out w1 hB1' j hj
            have hO1 : OwnE w1 wR.heap.size _ (ss.map fun p => (p.1, val p.2.toNat)) := ownsRow_at HO.out (fun g hg => by
              obtain ⟨_, hc⟩ := own_block HO.out hg
              have := own_ge HO.out hg
              have := HSR.out
              exact hg1.block g (lt_of_block hc) (fun e => by injection e with e; omega))
            have HO1 := Lib.hid hO1
            have HB1 := Lib.hid hB1'
            have HRG1 := Lib.hid hrg1
            have HST := Lib.hid (HCOLL.out.step hlx hat)
            have hz1 : wR.heap.size ≤ w1.heap.size := by omega
            have f1 : IntKind.i64.wrap (3 * (j : Int)) = 3 * (j : Int) := IntWalk.i64_in _ (by omega)
            have f2 : IntKind.i64.wrap (3 + 3 * (j : Int)) = 3 + 3 * (j : Int) := IntWalk.i64_in _ (by omega)
            have f3 : (0 : Int) ≤ 3 + 3 * (j : Int) := by omega
            have f4 : (3 + 3 * (j : Int)).toNat = 3 + 3 * j := by omega
            have f5 : (3 + 3 * (j : Int)) < 1 + 3 * (i : Int) := by omega
            have hsl : ss.length < 60 := by omega
            clear hs1 hg1 hrg1 hat hlx hj1 hj2 hO1 hB1' hwx hwc HO HB
            go_wp2_with (at_builtin; refine wpList_appendE (HO1.out.below ((Below.refl _ _).alloc (Nat.le_refl _) _)) (by simp <;> omega) (some ⟨w1.heap.size, 0, none⟩) 1 1 [(x, val j)] rfl (seesP_one (heap_new _ _ _ rfl)) (fun h => by cases h) (by simp <;> omega) rfl _ _ rfl rfl rfl ?_; intro v8 w8 hown8 hgrow8)
            have hrg2 := (HRG1.out.alloc (.cells #[.int .i64 x, .int .i64 (val j)] 36)).kept hgrow8 (fun e => by have := own_ge HO1.out e.symm; have := HSR.out; omega) (fun e => by have := own_ge HO1.out e.symm; have := HSR.out; omega)
            go_roundw
            case rel => exact ⟨ss ++ [(x, (j : Int))], _, cnt1, hrg2, HST.out, by simp; omega, by rw [List.map_append]; simpa using hown8, (HB1.out.alloc HB1.out.size _).grown hgrow8 (by have := HB1.out.size; simp <;> omega) (fun k hk => by have := own_ge HO1.out hk; have := HBR.out.size; omega), by have := hgrow8.size; simp at this; omega⟩
            case measure => rw [hrg2.left_eq, HRG.out.left_eq]; omega
end Go.Proofs.YtochpdailleilaaGreatDoor
