/-
  quash/quashlaw17.BankDoes answers true. Condition: the library's variables (Env), what the reading gives of the slice.
-/
import Derived.Test.YtcobmefgefkdmaaGreatDoorBankAwake
import Derived.Test.YtcobmefgefkdmaaGreatDoorBankRefDo
import Derived.Test.YtcobmefgefkdmaaGreatDoorBankSame
import Derived.Test.YtcobmefgefkdmaaGreatDoorLaw
import Derived.Deep.RegionWith
import Derived.Deep.DeepCutAuto
import Derived.Deep.RegionHeld3
namespace Go.Proofs.YtcobmefgefkdmaaGreatDoor
open Go.RowKit
set_option maxRecDepth 100000

theorem codeBank_any (ok : Bool) (w : World) : Calls Tryz.prog 12 #[.bool ok] w fun e w' => e = .returned (.int .i64 (if ok then 0 else 170)) ∧ w' = w := by
  cases ok
  · go_enter Tryz.func12, Tryz.ntmps12
    go_wp2
    go_ret
    exact ⟨rfl, rfl⟩
  · go_enter Tryz.func12, Tryz.ntmps12
    go_wp2
    go_ret
    exact ⟨rfl, rfl⟩
/-- append onto a row of int64 of the call's own, as a law for the walk -/
theorem wpList_append64 {w : World} {B n : Nat} {v : Value} {xs : List Value} (hown : w.ownsRow B 2 1 v n xs) (hB : B ≤ w.heap.size) (ad : Addr) (c : Nat) (zs : List Int) (hnews : ∀ j u, (i64s zs)[j]? = some u → w.cell? (ad.add j) = some u) (hb : (n + zs.length) * 8 ≤ 140737488355328)
    {ops : Array Oper} {Q : Exit → Act → World → Prop} {a : Act} {rest : List Oper} {o : Oper} (hgd : o.guard = none) (s x : Operand) (hop : o.op = Op.call { callee := Callee.builtin Builtin.append, args := #[s, x], argTypes := #[23, 23] })
    (hs : a.eval s = v) (hx : a.eval x = .slice (some ad) zs.length c)
    (hK : ∀ v' w', w'.ownsRow B 2 1 v' (n + zs.length) (xs ++ i64s zs) → w.grownBy w' v.ownBlock → wpList Tryz.prog ops Q rest (a.put o.dst v') w') : wpList Tryz.prog ops Q (o :: rest) a w := by
  obtain ⟨i0, hi, hz0, hz1, hz2⟩ := info_parts info64
  refine wpList_append_own _ hgd s x 23 hop B 2 i0 (.int .i64 0) 1 8 Tryz.underlying23 hi hz0 hz1 hz2 rfl (by decide) v n xs hs hown ad zs.length c (i64s zs) hx (by simp [i64s]) hnews (fun u hu => by obtain ⟨_, _, rfl⟩ := List.mem_map.1 hu; rfl) (by unfold maxLen; omega) hb hB (fun v' w' h1 h2 _ => hK v' w' h1 h2)


theorem same_len (n : Nat) (ao bo : Option Addr) (ca cb : Nat) (zs : List Int) (w : World) (hl : zs.length = n) (hx : Sees w ao zs) (hy : Sees w bo zs) (hn : n ≤ maxLen) :
    Calls Tryz.prog 11 #[.slice ao n ca, .slice bo n cb] w fun e w' => e = .returned (.bool true) ∧ ∃ k, w' = w.drewN k := by
  subst hl
  exact same_true ao bo ca cb zs w hx hy hn
theorem do_yes (g cap : Nat) (zs : List Int) (n op a b x y : Int) (w : World) (hcap : zs.length ≤ cap) (hg : g < w.heap.size) (hs : Sees w (some ⟨g, 0, none⟩) zs) (hok : doOk zs n op a b x y = true) :
    Calls Tryz.prog 9 #[.slice (some ⟨g, 0, none⟩) zs.length cap, .int .i64 n, .agg #[.int .i64 op, .int .i64 a, .int .i64 b, .int .i64 x, .int .i64 y]] w fun e w' => ∃ g4 cap4 h, e = .returned (.tuple #[.slice (some ⟨g4, 0, none⟩) (deedS zs op a b x).1.length cap4, .slice (some ⟨h, 0, none⟩) 1 1, .int .i64 0]) ∧
      Bal w' w.heap.size g4 cap4 (deedS zs op a b x).1 ∧ Sees w' (some ⟨h, 0, none⟩) [(deedS zs op a b x).2] ∧ h ≠ g4 ∧ w.heap.size ≤ h ∧ Below w.heap.size w w' := by
  obtain ⟨b', o', h1, h2⟩ := hs
  have hne : zs ≠ [] := by
    intro e
    subst e
    have := doOk_parts hok
    simp at this
    omega
  obtain ⟨rfl, rfl⟩ : g = b' ∧ 0 = o' := by
    have := h1 hne
    simp at this
    exact this
  refine (Do_any g 0 cap zs n op a b x y w hcap hg h2).mono fun e w' hd => ?_
  unfold DoDoes at hd
  rw [if_pos hok] at hd
  obtain ⟨g4, cap4, h, rfl, hb, hc, hn, hle, hB⟩ := hd
  exact ⟨g4, cap4, h, rfl, hb, Sees.one hc, hn, hle, hB⟩
theorem ref_yes (ad : Addr) (c : Nat) (zs : List Int) (n op a b x y : Int) (w : World) (hs : Sees w (some ad) zs) (hok : doOk zs n op a b x y = true) :
    Calls Tryz.prog 10 #[.slice (some ad) zs.length c, .int .i64 n, .agg #[.int .i64 op, .int .i64 a, .int .i64 b, .int .i64 x, .int .i64 y]] w fun e w' =>
      ∃ g h, e = .returned (.tuple #[.slice (some ⟨g, 0, none⟩) zs.length zs.length, .slice (some ⟨h, 0, none⟩) 1 1, .bool true]) ∧ Sees w' (some ⟨g, 0, none⟩) (deedS zs op a b x).1 ∧ Sees w' (some ⟨h, 0, none⟩) [(deedS zs op a b x).2] ∧ Below w.heap.size w w' := by
  obtain ⟨_, _, _, _, _, _, ha, _, hb, _, rfl⟩ := doOk_parts hok
  obtain ⟨k, rfl⟩ : ∃ k : Nat, a = k := ⟨a.toNat, by omega⟩
  obtain ⟨m, rfl⟩ : ∃ k : Nat, b = k := ⟨b.toNat, by omega⟩
  obtain ⟨b', o', h1, h2⟩ := hs
  have hne : zs ≠ [] := by
    intro e
    subst e
    have := doOk_parts hok
    simp at this
    omega
  obtain rfl : ad = ⟨b', o', none⟩ := by
    have := h1 hne
    simpa using this
  have hlt : b' < w.heap.size := block_lt_of_cell (h2 0 (List.length_pos_iff.2 hne))
  refine (refDo_yes b' o' c zs n op k m x w h2 hlt hok).mono fun e w' hd => ?_
  unfold RefDoes at hd
  rw [if_pos hok] at hd
  exact hd
theorem do_no (g cap : Nat) (zs : List Int) (n op a b x y : Int) (w : World) (hcap : zs.length ≤ cap) (hg : g < w.heap.size) (hs : Sees w (some ⟨g, 0, none⟩) zs) (hno : doOk zs n op a b x y = false) :
    Calls Tryz.prog 9 #[.slice (some ⟨g, 0, none⟩) zs.length cap, .int .i64 n, .agg #[.int .i64 op, .int .i64 a, .int .i64 b, .int .i64 x, .int .i64 y]] w fun e w' => e = .returned (.tuple #[.slice none 0 0, .slice none 0 0, .int .i64 170]) ∧ Below w.heap.size w w' := by
  have hc : ∀ j, j < zs.length → w.cell? ⟨g, 0 + j, none⟩ = some (.int .i64 (zs.getD j 0)) := by
    obtain ⟨b', o', h1, h2⟩ := hs
    intro j hj
    have hne : zs ≠ [] := by
      intro e
      subst e
      exact absurd hj (by simp)
    have e := h1 hne
    simp at e
    obtain ⟨rfl, rfl⟩ := e
    exact h2 j hj
  refine (Do_any g 0 cap zs n op a b x y w hcap hg hc).mono fun e w' hd => ?_
  unfold DoDoes at hd
  rw [hno] at hd
  exact hd
theorem ref_no (ao : Option Addr) (c : Nat) (zs : List Int) (n op a b x y : Int) (w : World) (hno : doOk zs n op a b x y = false) :
    Calls Tryz.prog 10 #[.slice ao zs.length c, .int .i64 n, .agg #[.int .i64 op, .int .i64 a, .int .i64 b, .int .i64 x, .int .i64 y]] w fun e w' => e = .returned (.tuple #[.slice none 0 0, .slice none 0 0, .bool false]) ∧ Below w.heap.size w w' := by
  refine (refDo_no ao c zs n op a b x y w hno).mono fun e w' hd => ?_
  unfold RefDoes at hd
  rw [hno] at hd
  exact hd
set_option maxHeartbeats 2000000 in
theorem BankDoes_yes (ad : Addr) (c : Nat) (zs : List Int) (n op a b x y : Int) (w : World) (he : Env w) (hs0 : Sees w (some ad) zs) (hlen : zs.length * 8 ≤ 140737488351232) (hok : doOk zs n op a b x y = true) :
    Calls Tryz.prog 4 #[.slice (some ad) zs.length c, .int .i64 n, deedV op a b x y] w fun e w' => e = .returned (.bool true) ∧ Below w.heap.size w w' := by
  obtain ⟨i0, hi, hz0, hz1, hz2⟩ := info_parts info64
  obtain ⟨N, hN⟩ : ∃ N, N = zs.length := ⟨_, rfl⟩
  have HN := Lib.hid hN
  have HOK := Lib.hid hok
  clear hok
  have HC := Lib.hid hs0
  have HE := Lib.hid (fun W (hb : Below w.heap.size w W) => he.below hb)
  clear he hs0
  rw [← hN] at hlen
  rw [← hN]
  clear hN
  unfold deedV
  go_enter Tryz.func4, Tryz.ntmps4
  go_upto_region 3 with (go_at_call 8; go_must (refine (awake_any _ (HE.out _ ((Below.refl _ _).alloc (Nat.le_refl _) _))).mono ?_; rintro e w1 ⟨rfl, hb1⟩))
  have hB1 : Below w.heap.size w w1 := ((Below.refl _ _).alloc (Nat.le_refl _) _).trans (hb1.mono (by simp))
  have hd1 : w1.heap[w.heap.size]? = some (.cells #[.int .i64 op, .int .i64 a, .int .i64 b, .int .i64 x, .int .i64 y] 25) := (hb1.block _ (by simp)).trans (heap_new _ _ _ rfl)
  have hz1 : w.heap.size < w1.heap.size := lt_of_block hd1
  have HD1 := Lib.hid hd1
  clear hb1 hd1
  have hnews : ∀ j u, (i64s zs)[j]? = some u → w1.cell? (ad.add j) = some u := (HC.out.below hB1).news
  have HNEWS := Lib.hid hnews
  clear hnews
  go_upto_region 4 with (first | (at_builtin; refine wpList_append64 (World.ownsRow_nil _ w1.heap.size _ _) (Nat.le_refl _) ad c zs HNEWS.out (by rw [← HN.out]; omega) rfl _ _ rfl rfl (by rw [← HN.out]; rfl) ?_; intro v2 w2 hown2 hgrow2))
  rw [Nat.zero_add, List.nil_append] at hown2
  have hB2 : Below w.heap.size w w2 := hB1.grown hgrow2 (by omega) (by intro k hk; cases hk)
  have HD2 := Lib.hid ((hgrow2.block _ hz1 (by intro h; cases h)).trans HD1.out)
  have hz2' : w1.heap.size ≤ w2.heap.size := hgrow2.size
  have hnews2 : ∀ j u, (i64s [-777, -777])[j]? = some u → (w2.alloc (.cells #[.int .i64 (-777), .int .i64 (-777)] 2)).cell? ((⟨w2.heap.size, 0, none⟩ : Addr).add j) = some u := fun j u hj => by
    rw [Addr.add_lit, Nat.zero_add]
    match j, hj with
    | 0, hj => exact (cell_of_row _ _ 0 _ _ _ (heap_new _ _ _ rfl)).trans hj
    | 1, hj => exact (cell_of_row _ _ 1 _ _ _ (heap_new _ _ _ rfl)).trans hj
    | j + 2, hj => exact absurd hj (by simp [i64s])
  have HNEWS2 := Lib.hid hnews2
  have HOWN2 := Lib.hid hown2
  clear hnews2 hown2
  go_upto_region 5 with (first | (at_builtin; refine wpList_append64 (HOWN2.out.alloc _) (by simp <;> omega) ⟨w2.heap.size, 0, none⟩ 2 [-777, -777] HNEWS2.out (by rw [← HN.out]; simp <;> omega) rfl _ _ rfl rfl rfl ?_; intro v3 w3 hown3 hgrow3))
  have hlen3 : (i64s zs ++ i64s [-777, -777]) = i64s (zs ++ [-777, -777]) := by simp [i64s]
  have hown3' : w3.ownsRow w1.heap.size 2 1 v3 (zs ++ [-777, -777]).length (i64s (zs ++ [-777, -777])) := by
    rw [List.length_append, ← hlen3]; exact hown3
  obtain ⟨g, cap, rfl⟩ := Joins.ownsRow_form hown3' (by simp)
  have hcell3 : ∀ j z, (zs ++ [-777, -777])[j]? = some z → w3.cell? ⟨g, j, none⟩ = some (.int .i64 z) := fun j z hj => by
    refine (hown3'.cellAt j ?_).trans (i64s_at _ j hj)
    have := (List.getElem?_eq_some_iff.1 hj).1
    omega
  have hgge : w1.heap.size ≤ g := own_ge hown3' rfl
  obtain ⟨cur3, hg3⟩ := own_block hown3' rfl
  have hcap3 : (zs ++ [-777, -777]).length ≤ cap ∧ cap ≤ maxLen := by
    obtain ⟨_, h | ⟨_, _, _, hv, _, _, h1, h2, _⟩⟩ := hown3'
    · cases h.1
    · injection hv with _ _ h3; subst h3; exact ⟨h1, h2⟩
  have hB3 : Below w.heap.size w w3 := (hB2.alloc (by omega) _).grown hgrow3 (by simp <;> omega) (by
    intro k hk
    have := HOWN2.out.lt k hk
    omega)
  have hd3 : w3.heap[w.heap.size]? = some (.cells #[.int .i64 op, .int .i64 a, .int .i64 b, .int .i64 x, .int .i64 y] 25) := by
    refine (hgrow3.block _ (by simp <;> omega) ?_).trans ((Below.heap_alloc _ _ _ (by omega)).trans HD2.out)
    intro h
    have := HOWN2.out.lt _ h.symm
    omega
  have hg3lt := lt_of_block hg3
  have hseeO : Sees w3 (some ⟨g, 0, none⟩) zs := Sees.cells fun j hj => by
    rw [Nat.zero_add]
    refine hcell3 j _ ?_
    rw [List.getElem?_append_left hj, List.getD_eq_getElem?_getD, List.getElem?_eq_getElem hj]; rfl
  have hm0 : w3.cell? ⟨g, N, none⟩ = some (.int .i64 (-777)) := hcell3 N _ (by rw [List.getElem?_append_right (by rw [← HN.out]; omega), ← HN.out]; simp)
  have hm1 : w3.cell? ⟨g, N + 1, none⟩ = some (.int .i64 (-777)) := hcell3 (N + 1) _ (by rw [List.getElem?_append_right (by rw [← HN.out]; omega), ← HN.out]; simp)
  have hseeI : Sees w3 (some ad) zs := HC.out.below hB3
  simp only [List.length_append, List.length_cons, List.length_nil, ← HN.out] at hcap3 ⊢
  have HG := Lib.hid hd3
  have HSO := Lib.hid hseeO
  have HSI := Lib.hid hseeI
  have HM0 := Lib.hid hm0
  have HM1 := Lib.hid hm1
  have hcapA := hcap3.1
  have hcapB := hcap3.2
  unfold maxLen at hcapB
  have c0 : w3.cell? ⟨w.heap.size, 0, none⟩ = some (.int .i64 op) := cell_of_row _ _ 0 _ _ _ hd3
  have c1 : w3.cell? ⟨w.heap.size, 1, none⟩ = some (.int .i64 a) := cell_of_row _ _ 1 _ _ _ hd3
  have c2 : w3.cell? ⟨w.heap.size, 2, none⟩ = some (.int .i64 b) := cell_of_row _ _ 2 _ _ _ hd3
  have c3 : w3.cell? ⟨w.heap.size, 3, none⟩ = some (.int .i64 x) := cell_of_row _ _ 3 _ _ _ hd3
  have c4 : w3.cell? ⟨w.heap.size, 4, none⟩ = some (.int .i64 y) := cell_of_row _ _ 4 _ _ _ hd3
  clear hcell3 hown3 hown3' hlen3 hgrow3 hgrow2 HNEWS2 HOWN2 HNEWS HD1 HD2 hd3 hseeO hseeI hm0 hm1 hcap3 hg3 hB1 hB2
  have hlz : (deedS zs op a b x).1.length = N := by rw [deedS_length]; exact HN.out.symm
  have hDo := fun W (hW : Sees W (some ⟨g, 0, none⟩) zs) (hg : g < W.heap.size) => do_yes g cap zs n op a b x y W (by rw [← HN.out]; omega) hg hW HOK.out
  have hRef := fun W (hW : Sees W (some ad) zs) => ref_yes ad c zs n op a b x y W hW HOK.out
  rw [← HN.out, hlz] at hDo
  rw [← HN.out] at hRef
  have hDl := hlz
  generalize (deedS zs op a b x).1 = D at hDo hRef hDl
  generalize (deedS zs op a b x).2 = R at hDo hRef
  have HDO := Lib.hid hDo
  have HREF := Lib.hid hRef
  have HDL := Lib.hid hDl
  clear hDo hRef hlz hDl
  go_cut [9, 10, 11] (fun p q r wr => ∃ g4 cap4 h4, p = .slice (some ⟨g4, 0, none⟩) N cap4 ∧ q = .slice (some ⟨h4, 0, none⟩) 1 1 ∧ r = .int .i64 0 ∧ Bal wr w3.heap.size g4 cap4 D ∧ Sees wr (some ⟨h4, 0, none⟩) [R] ∧ h4 ≠ g4 ∧ w3.heap.size ≤ h4 ∧ Below w3.heap.size w3 wr)
  case first =>
    have hz3 := lt_of_block HG.out
    have hi0 : (0 : Int) ≤ (N : Int) := by omega
    have hi1 : (N : Int) ≤ (cap : Int) := by omega
    have hi2 : N ≤ cap := by omega
    go_region_held3 (fun w' => w'.cell? ⟨w.heap.size, 0, none⟩ = some (.int .i64 op) ∧ w'.cell? ⟨w.heap.size, 1, none⟩ = some (.int .i64 a) ∧ w'.cell? ⟨w.heap.size, 2, none⟩ = some (.int .i64 b) ∧ w'.cell? ⟨w.heap.size, 3, none⟩ = some (.int .i64 x) ∧ w'.cell? ⟨w.heap.size, 4, none⟩ = some (.int .i64 y))
      (first | go_keep | exact ⟨below_cellK hB4 hz3 c0, below_cellK hB4 hz3 c1, below_cellK hB4 hz3 c2, below_cellK hB4 hz3 c3, below_cellK hB4 hz3 c4⟩)
      (first | (go_at_call 9; refine (HDO.out _ (by exact HSO.out) (by exact hg3lt)).mono ?_; rintro e w4 ⟨g4, cap4, h4, rfl, hbal4, hs4, hne4, hge4, hB4⟩))
    all_goals
      go_wp2_with fail
      go_meet
      exact ⟨g4, cap4, h4, rfl, rfl, rfl, by exact hbal4, by exact hs4, hne4, hge4, ⟨hB4.os, hB4.tape, hB4.output, hB4.size, hB4.block⟩⟩
  case rest =>
    obtain ⟨g4, cap4, h4, rfl, rfl, rfl, hbal4, hs4, hne4, hge4, hB4⟩ := hcut
    clear c0 c1 c2 c3 c4
    have hd4 := (hB4.block _ (lt_of_block HG.out)).trans HG.out
    have hsI4 := HSI.out.below hB4
    have c0 := cell_of_row _ _ 0 _ _ _ hd4
    have c1 := cell_of_row _ _ 1 _ _ _ hd4
    have c2 := cell_of_row _ _ 2 _ _ _ hd4
    have c3 := cell_of_row _ _ 3 _ _ _ hd4
    have c4 := cell_of_row _ _ 4 _ _ _ hd4
    have hlg : g < w3.heap.size := hg3lt
    have hsO4 := HSO.out.below hB4
    have hm04 := below_cellK hB4 hg3lt HM0.out
    have hm14 := below_cellK hB4 hg3lt HM1.out
    have hzc : w3.heap.size ≤ wc.heap.size := hB4.size
    have HBAL := Lib.hid hbal4
    have HS4 := Lib.hid hs4
    have HI4 := Lib.hid hsI4
    have HO4 := Lib.hid hsO4
    have HM04 := Lib.hid hm04
    have HM14 := Lib.hid hm14
    clear hbal4 hs4 hsI4 hsO4 hm04 hm14
    go_upto_region 9 with (first
      | (go_at_call 10; go_must (refine (HREF.out _ HI4.out).mono ?_; rintro e w5 ⟨g5, h5, rfl, hs5, ht5, hB5⟩; have HS5 := Lib.hid hs5; have HT5 := Lib.hid ht5; clear hs5 ht5))
      | (go_at_call_of 11 (Value.slice (some ⟨g4, 0, none⟩) N cap4); go_must (refine (same_len N _ _ _ _ D _ HDL.out (by exact HBAL.out.sees.below hB5) (by exact HS5.out) (by unfold maxLen; omega)).mono ?_; rintro e w6 ⟨rfl, k6, rfl⟩))
      | (go_at_call_of 11 (Value.slice (some ⟨h4, 0, none⟩) 1 1); go_must (refine (same_len 1 _ _ _ _ [R] _ rfl (by exact (HS4.out.below hB5).drewN k6) (by exact HT5.out.drewN k6) (by decide)).mono ?_; rintro e w7 ⟨rfl, k7, rfl⟩)))
    have hB5' : Below w3.heap.size w3 w5 := hB4.trans (hB5.mono hzc)
    have hbal5 : Bal w5 w3.heap.size g4 cap4 D := HBAL.out.below hB5
    clear hB5 hB4
    go_wp2
    go_loopw [17] (fun v wr => ∃ (k : Nat) (Ds : List Int), k ≤ N ∧ v = .int .i64 k ∧ Ds.length = N ∧ Bal wr w3.heap.size g4 cap4 Ds ∧ Below w3.heap.size w3 wr) (fun v _ => N - (intOf v).toNat)
    case atStart => exact ⟨0, D, Nat.zero_le _, rfl, HDL.out, by exact hbal5, ⟨hB5'.os, hB5'.tape, hB5'.output, hB5'.size, hB5'.block⟩⟩
    case round =>
      obtain ⟨k, Ds, hk, rfl, hDs, hbr, hBr⟩ := hrel
      have HDs := Lib.hid hDs
      clear hDs
      by_cases hlt : k < N
      · obtain ⟨z, hz⟩ : ∃ z, Ds[k]? = some z := ⟨_, List.getElem?_eq_getElem (by rw [HDs.out]; exact hlt)⟩
        have hck := hbr.cell k hz
        have hfk : wr.frozen? ⟨g4, k, none⟩ = false := hbr.frozenAt k
        clear hz
        go_wp2
        go_roundw
        case rel => exact ⟨k + 1, Ds.set k (-777), by omega, by go_num, by rw [List.length_set]; exact HDs.out, hbr.set k (-777), hBr.setCell (p := ⟨g4, k, none⟩) hbr.lt.2 _⟩
        case measure => simp [intOf]; omega
      · obtain rfl : k = N := by omega
        have hm0 := below_cellK hBr hg3lt HM0.out
        have hm1 := below_cellK hBr hg3lt HM1.out
        go_wp2_with (first
          | (go_at_call 11; go_must (refine (same_len k _ _ _ _ zs _ HN.out.symm (by exact HSO.out.below hBr) (by exact HSI.out.below hBr) (by unfold maxLen; omega)).mono ?_; rintro e w8 ⟨rfl, k8, rfl⟩))
          | (go_at_call 12; go_must (refine (codeBank_any true _).mono ?_; rintro e w9 ⟨rfl, rfl⟩)))
        go_ret
        have hBw := hB3.trans (hBr.mono hB3.size)
        exact ⟨rfl, ⟨hBw.os, hBw.tape, hBw.output, hBw.size, hBw.block⟩⟩
set_option maxHeartbeats 2000000 in
theorem BankDoes_no (ad : Addr) (c : Nat) (zs : List Int) (n op a b x y : Int) (w : World) (he : Env w) (hs0 : Sees w (some ad) zs) (hlen : zs.length * 8 ≤ 140737488351232) (hok : doOk zs n op a b x y = false) :
    Calls Tryz.prog 4 #[.slice (some ad) zs.length c, .int .i64 n, deedV op a b x y] w fun e w' => e = .returned (.bool true) ∧ Below w.heap.size w w' := by
  obtain ⟨i0, hi, hz0, hz1, hz2⟩ := info_parts info64
  obtain ⟨N, hN⟩ : ∃ N, N = zs.length := ⟨_, rfl⟩
  have HN := Lib.hid hN
  have HOK := Lib.hid hok
  clear hok
  have HC := Lib.hid hs0
  have HE := Lib.hid (fun W (hb : Below w.heap.size w W) => he.below hb)
  clear he hs0
  rw [← hN] at hlen
  rw [← hN]
  clear hN
  unfold deedV
  go_enter Tryz.func4, Tryz.ntmps4
  go_upto_region 3 with (go_at_call 8; go_must (refine (awake_any _ (HE.out _ ((Below.refl _ _).alloc (Nat.le_refl _) _))).mono ?_; rintro e w1 ⟨rfl, hb1⟩))
  have hB1 : Below w.heap.size w w1 := ((Below.refl _ _).alloc (Nat.le_refl _) _).trans (hb1.mono (by simp))
  have hd1 : w1.heap[w.heap.size]? = some (.cells #[.int .i64 op, .int .i64 a, .int .i64 b, .int .i64 x, .int .i64 y] 25) := (hb1.block _ (by simp)).trans (heap_new _ _ _ rfl)
  have hz1 : w.heap.size < w1.heap.size := lt_of_block hd1
  have HD1 := Lib.hid hd1
  clear hb1 hd1
  have hnews : ∀ j u, (i64s zs)[j]? = some u → w1.cell? (ad.add j) = some u := (HC.out.below hB1).news
  have HNEWS := Lib.hid hnews
  clear hnews
  go_upto_region 4 with (first | (at_builtin; refine wpList_append64 (World.ownsRow_nil _ w1.heap.size _ _) (Nat.le_refl _) ad c zs HNEWS.out (by rw [← HN.out]; omega) rfl _ _ rfl rfl (by rw [← HN.out]; rfl) ?_; intro v2 w2 hown2 hgrow2))
  rw [Nat.zero_add, List.nil_append] at hown2
  have hB2 : Below w.heap.size w w2 := hB1.grown hgrow2 (by omega) (by intro k hk; cases hk)
  have HD2 := Lib.hid ((hgrow2.block _ hz1 (by intro h; cases h)).trans HD1.out)
  have hz2' : w1.heap.size ≤ w2.heap.size := hgrow2.size
  have hnews2 : ∀ j u, (i64s [-777, -777])[j]? = some u → (w2.alloc (.cells #[.int .i64 (-777), .int .i64 (-777)] 2)).cell? ((⟨w2.heap.size, 0, none⟩ : Addr).add j) = some u := fun j u hj => by
    rw [Addr.add_lit, Nat.zero_add]
    match j, hj with
    | 0, hj => exact (cell_of_row _ _ 0 _ _ _ (heap_new _ _ _ rfl)).trans hj
    | 1, hj => exact (cell_of_row _ _ 1 _ _ _ (heap_new _ _ _ rfl)).trans hj
    | j + 2, hj => exact absurd hj (by simp [i64s])
  have HNEWS2 := Lib.hid hnews2
  have HOWN2 := Lib.hid hown2
  clear hnews2 hown2
  go_upto_region 5 with (first | (at_builtin; refine wpList_append64 (HOWN2.out.alloc _) (by simp <;> omega) ⟨w2.heap.size, 0, none⟩ 2 [-777, -777] HNEWS2.out (by rw [← HN.out]; simp <;> omega) rfl _ _ rfl rfl rfl ?_; intro v3 w3 hown3 hgrow3))
  have hlen3 : (i64s zs ++ i64s [-777, -777]) = i64s (zs ++ [-777, -777]) := by simp [i64s]
  have hown3' : w3.ownsRow w1.heap.size 2 1 v3 (zs ++ [-777, -777]).length (i64s (zs ++ [-777, -777])) := by
    rw [List.length_append, ← hlen3]; exact hown3
  obtain ⟨g, cap, rfl⟩ := Joins.ownsRow_form hown3' (by simp)
  have hcell3 : ∀ j z, (zs ++ [-777, -777])[j]? = some z → w3.cell? ⟨g, j, none⟩ = some (.int .i64 z) := fun j z hj => by
    refine (hown3'.cellAt j ?_).trans (i64s_at _ j hj)
    have := (List.getElem?_eq_some_iff.1 hj).1
    omega
  have hgge : w1.heap.size ≤ g := own_ge hown3' rfl
  obtain ⟨cur3, hg3⟩ := own_block hown3' rfl
  have hcap3 : (zs ++ [-777, -777]).length ≤ cap ∧ cap ≤ maxLen := by
    obtain ⟨_, h | ⟨_, _, _, hv, _, _, h1, h2, _⟩⟩ := hown3'
    · cases h.1
    · injection hv with _ _ h3; subst h3; exact ⟨h1, h2⟩
  have hB3 : Below w.heap.size w w3 := (hB2.alloc (by omega) _).grown hgrow3 (by simp <;> omega) (by
    intro k hk
    have := HOWN2.out.lt k hk
    omega)
  have hd3 : w3.heap[w.heap.size]? = some (.cells #[.int .i64 op, .int .i64 a, .int .i64 b, .int .i64 x, .int .i64 y] 25) := by
    refine (hgrow3.block _ (by simp <;> omega) ?_).trans ((Below.heap_alloc _ _ _ (by omega)).trans HD2.out)
    intro h
    have := HOWN2.out.lt _ h.symm
    omega
  have hg3lt := lt_of_block hg3
  have hseeO : Sees w3 (some ⟨g, 0, none⟩) zs := Sees.cells fun j hj => by
    rw [Nat.zero_add]
    refine hcell3 j _ ?_
    rw [List.getElem?_append_left hj, List.getD_eq_getElem?_getD, List.getElem?_eq_getElem hj]; rfl
  have hm0 : w3.cell? ⟨g, N, none⟩ = some (.int .i64 (-777)) := hcell3 N _ (by rw [List.getElem?_append_right (by rw [← HN.out]; omega), ← HN.out]; simp)
  have hm1 : w3.cell? ⟨g, N + 1, none⟩ = some (.int .i64 (-777)) := hcell3 (N + 1) _ (by rw [List.getElem?_append_right (by rw [← HN.out]; omega), ← HN.out]; simp)
  have hseeI : Sees w3 (some ad) zs := HC.out.below hB3
  simp only [List.length_append, List.length_cons, List.length_nil, ← HN.out] at hcap3 ⊢
  have HG := Lib.hid hd3
  have HSO := Lib.hid hseeO
  have HSI := Lib.hid hseeI
  have HM0 := Lib.hid hm0
  have HM1 := Lib.hid hm1
  have hcapA := hcap3.1
  have hcapB := hcap3.2
  unfold maxLen at hcapB
  have c0 : w3.cell? ⟨w.heap.size, 0, none⟩ = some (.int .i64 op) := cell_of_row _ _ 0 _ _ _ hd3
  have c1 : w3.cell? ⟨w.heap.size, 1, none⟩ = some (.int .i64 a) := cell_of_row _ _ 1 _ _ _ hd3
  have c2 : w3.cell? ⟨w.heap.size, 2, none⟩ = some (.int .i64 b) := cell_of_row _ _ 2 _ _ _ hd3
  have c3 : w3.cell? ⟨w.heap.size, 3, none⟩ = some (.int .i64 x) := cell_of_row _ _ 3 _ _ _ hd3
  have c4 : w3.cell? ⟨w.heap.size, 4, none⟩ = some (.int .i64 y) := cell_of_row _ _ 4 _ _ _ hd3
  clear hcell3 hown3 hown3' hlen3 hgrow3 hgrow2 HNEWS2 HOWN2 HNEWS HD1 HD2 hd3 hseeO hseeI hm0 hm1 hcap3 hg3 hB1 hB2
  have hDo := fun W (hg : g < W.heap.size) (hW : Sees W (some ⟨g, 0, none⟩) zs) => do_no g cap zs n op a b x y W (by rw [← HN.out]; omega) hg hW HOK.out
  have hRef := fun W => ref_no (some ad) c zs n op a b x y W HOK.out
  rw [← HN.out] at hDo hRef
  have HDO := Lib.hid hDo
  have HREF := Lib.hid hRef
  clear hDo hRef
  go_cut [9, 10, 11] (fun p q r wr => p = .slice none 0 0 ∧ q = .slice none 0 0 ∧ r = .int .i64 170 ∧ Below w3.heap.size w3 wr)
  case first =>
    have hz3 := lt_of_block HG.out
    have hi0 : (0 : Int) ≤ (N : Int) := by omega
    have hi1 : (N : Int) ≤ (cap : Int) := by omega
    have hi2 : N ≤ cap := by omega
    go_region_held3 (fun w' => w'.cell? ⟨w.heap.size, 0, none⟩ = some (.int .i64 op) ∧ w'.cell? ⟨w.heap.size, 1, none⟩ = some (.int .i64 a) ∧ w'.cell? ⟨w.heap.size, 2, none⟩ = some (.int .i64 b) ∧ w'.cell? ⟨w.heap.size, 3, none⟩ = some (.int .i64 x) ∧ w'.cell? ⟨w.heap.size, 4, none⟩ = some (.int .i64 y))
      (first | go_keep | exact ⟨below_cellK hB4 hz3 c0, below_cellK hB4 hz3 c1, below_cellK hB4 hz3 c2, below_cellK hB4 hz3 c3, below_cellK hB4 hz3 c4⟩)
      (first | (go_at_call 9; refine (HDO.out _ (by exact hg3lt) (by exact HSO.out)).mono ?_; rintro e w4 ⟨rfl, hB4⟩))
    all_goals
      go_wp2_with fail
      go_meet
      exact ⟨rfl, rfl, rfl, ⟨hB4.os, hB4.tape, hB4.output, hB4.size, hB4.block⟩⟩
  case rest =>
    obtain ⟨rfl, rfl, rfl, hB4⟩ := hcut
    clear c0 c1 c2 c3 c4
    have hd4 := (hB4.block _ (lt_of_block HG.out)).trans HG.out
    have c0 := cell_of_row _ _ 0 _ _ _ hd4
    have c1 := cell_of_row _ _ 1 _ _ _ hd4
    have c2 := cell_of_row _ _ 2 _ _ _ hd4
    have c3 := cell_of_row _ _ 3 _ _ _ hd4
    have c4 := cell_of_row _ _ 4 _ _ _ hd4
    have hzc : w3.heap.size ≤ wc.heap.size := hB4.size
    go_upto_region 9 with (first
      | (go_at_call 10; go_must (refine (HREF.out _).mono ?_; rintro e w5 ⟨rfl, hB5⟩))
      | (go_at_call_of 11 (Value.slice none 0 0); go_must (refine (same_len 0 _ _ _ _ [] _ rfl (Sees.nil _ _) (Sees.nil _ _) (by decide)).mono ?_; rintro e w6 ⟨rfl, k6, rfl⟩)))
    have hB5' : Below w3.heap.size w3 w5 := hB4.trans (hB5.mono hzc)
    clear hB5 hB4
    go_wp2
    go_loopw [17] (fun v wr => v = .int .i64 0 ∧ Below w3.heap.size w3 wr) (fun _ _ => 0)
    case atStart => exact ⟨rfl, ⟨hB5'.os, hB5'.tape, hB5'.output, hB5'.size, hB5'.block⟩⟩
    case round =>
      obtain ⟨rfl, hBr⟩ := hrel
      have hm0 := below_cellK hBr hg3lt HM0.out
      have hm1 := below_cellK hBr hg3lt HM1.out
      go_wp2_with (first
        | (go_at_call 11; go_must (refine (same_len N _ _ _ _ zs _ HN.out.symm (by exact HSO.out.below hBr) (by exact HSI.out.below hBr) (by unfold maxLen; omega)).mono ?_; rintro e w8 ⟨rfl, k8, rfl⟩))
        | (go_at_call 12; go_must (refine (codeBank_any false _).mono ?_; rintro e w9 ⟨rfl, rfl⟩)))
      go_ret
      have hBw := hB3.trans (hBr.mono hB3.size)
      exact ⟨rfl, ⟨hBw.os, hBw.tape, hBw.output, hBw.size, hBw.block⟩⟩
set_option maxHeartbeats 2000000 in
theorem BankDoes_nil (n op a b x y : Int) (w : World) (he : Env w) (hok : doOk [] n op a b x y = false) :
    Calls Tryz.prog 4 #[.slice none 0 0, .int .i64 n, deedV op a b x y] w fun e w' => e = .returned (.bool true) ∧ Below w.heap.size w w' := by
  obtain ⟨zs, hzs⟩ : ∃ zs : List Int, zs = [] := ⟨_, rfl⟩
  rw [← hzs] at hok
  have HZS := Lib.hid hzs
  have HN := Lib.hid (show 0 = zs.length by rw [hzs]; rfl)
  have HOK := Lib.hid hok
  have HE := Lib.hid (fun W (hb : Below w.heap.size w W) => he.below hb)
  clear he hok hzs
  unfold deedV
  go_enter Tryz.func4, Tryz.ntmps4
  go_upto_region 3 with (go_at_call 8; go_must (refine (awake_any _ (HE.out _ ((Below.refl _ _).alloc (Nat.le_refl _) _))).mono ?_; rintro e w1 ⟨rfl, hb1⟩))
  have hB1 : Below w.heap.size w w1 := ((Below.refl _ _).alloc (Nat.le_refl _) _).trans (hb1.mono (by simp))
  have hd1 : w1.heap[w.heap.size]? = some (.cells #[.int .i64 op, .int .i64 a, .int .i64 b, .int .i64 x, .int .i64 y] 25) := (hb1.block _ (by simp)).trans (heap_new _ _ _ rfl)
  have hz1 : w.heap.size < w1.heap.size := lt_of_block hd1
  have HD1 := Lib.hid hd1
  clear hb1 hd1
  go_upto_region 4 with fail
  have hB2 := hB1
  have HD2 := Lib.hid HD1.out
  have hz2' : w1.heap.size ≤ w1.heap.size := Nat.le_refl _
  have hown2 : w1.ownsRow w1.heap.size 2 1 (.slice none 0 0) zs.length (i64s zs) := by rw [HZS.out]; exact World.ownsRow_nil _ _ _ _
  have hnews2 : ∀ j u, (i64s [-777, -777])[j]? = some u → (w1.alloc (.cells #[.int .i64 (-777), .int .i64 (-777)] 2)).cell? ((⟨w1.heap.size, 0, none⟩ : Addr).add j) = some u := fun j u hj => by
    rw [Addr.add_lit, Nat.zero_add]
    match j, hj with
    | 0, hj => exact (cell_of_row _ _ 0 _ _ _ (heap_new _ _ _ rfl)).trans hj
    | 1, hj => exact (cell_of_row _ _ 1 _ _ _ (heap_new _ _ _ rfl)).trans hj
    | j + 2, hj => exact absurd hj (by simp [i64s])
  have HNEWS2 := Lib.hid hnews2
  have HOWN2 := Lib.hid hown2
  clear hnews2 hown2
  go_upto_region 5 with (first | (at_builtin; refine wpList_append64 (HOWN2.out.alloc _) (by simp <;> omega) ⟨w1.heap.size, 0, none⟩ 2 [-777, -777] HNEWS2.out (by rw [← HN.out]; simp <;> omega) rfl _ _ rfl rfl rfl ?_; intro v3 w3 hown3 hgrow3))
  have hlen3 : (i64s zs ++ i64s [-777, -777]) = i64s (zs ++ [-777, -777]) := by simp [i64s]
  have hown3' : w3.ownsRow w1.heap.size 2 1 v3 (zs ++ [-777, -777]).length (i64s (zs ++ [-777, -777])) := by
    rw [List.length_append, ← hlen3]; exact hown3
  obtain ⟨g, cap, rfl⟩ := Joins.ownsRow_form hown3' (by simp)
  have hcell3 : ∀ j z, (zs ++ [-777, -777])[j]? = some z → w3.cell? ⟨g, j, none⟩ = some (.int .i64 z) := fun j z hj => by
    refine (hown3'.cellAt j ?_).trans (i64s_at _ j hj)
    have := (List.getElem?_eq_some_iff.1 hj).1
    omega
  have hgge : w1.heap.size ≤ g := own_ge hown3' rfl
  obtain ⟨cur3, hg3⟩ := own_block hown3' rfl
  have hcap3 : (zs ++ [-777, -777]).length ≤ cap ∧ cap ≤ maxLen := by
    obtain ⟨_, h | ⟨_, _, _, hv, _, _, h1, h2, _⟩⟩ := hown3'
    · cases h.1
    · injection hv with _ _ h3; subst h3; exact ⟨h1, h2⟩
  have hB3 : Below w.heap.size w w3 := (hB2.alloc (by omega) _).grown hgrow3 (by simp <;> omega) (by
    intro k hk
    have := HOWN2.out.lt k hk
    omega)
  have hd3 : w3.heap[w.heap.size]? = some (.cells #[.int .i64 op, .int .i64 a, .int .i64 b, .int .i64 x, .int .i64 y] 25) := by
    refine (hgrow3.block _ (by simp <;> omega) ?_).trans ((Below.heap_alloc _ _ _ (by omega)).trans HD2.out)
    intro h
    have := HOWN2.out.lt _ h.symm
    omega
  have hg3lt := lt_of_block hg3
  have hseeO : Sees w3 (some ⟨g, 0, none⟩) zs := Sees.cells fun j hj => by
    rw [Nat.zero_add]
    refine hcell3 j _ ?_
    rw [List.getElem?_append_left hj, List.getD_eq_getElem?_getD, List.getElem?_eq_getElem hj]; rfl
  have hm0 : w3.cell? ⟨g, 0, none⟩ = some (.int .i64 (-777)) := hcell3 0 _ (by rw [List.getElem?_append_right (by rw [← HN.out]; omega), ← HN.out]; simp)
  have hm1 : w3.cell? ⟨g, 0 + 1, none⟩ = some (.int .i64 (-777)) := hcell3 (0 + 1) _ (by rw [List.getElem?_append_right (by rw [← HN.out]; omega), ← HN.out]; simp)
  have hseeI : Sees w3 none zs := by rw [HZS.out]; exact Sees.nil _ _
  simp only [List.length_append, List.length_cons, List.length_nil, ← HN.out] at hcap3 ⊢
  have HG := Lib.hid hd3
  have HSO := Lib.hid hseeO
  have HSI := Lib.hid hseeI
  have HM0 := Lib.hid hm0
  have HM1 := Lib.hid hm1
  have hcapA := hcap3.1
  have hcapB := hcap3.2
  unfold maxLen at hcapB
  have c0 : w3.cell? ⟨w.heap.size, 0, none⟩ = some (.int .i64 op) := cell_of_row _ _ 0 _ _ _ hd3
  have c1 : w3.cell? ⟨w.heap.size, 1, none⟩ = some (.int .i64 a) := cell_of_row _ _ 1 _ _ _ hd3
  have c2 : w3.cell? ⟨w.heap.size, 2, none⟩ = some (.int .i64 b) := cell_of_row _ _ 2 _ _ _ hd3
  have c3 : w3.cell? ⟨w.heap.size, 3, none⟩ = some (.int .i64 x) := cell_of_row _ _ 3 _ _ _ hd3
  have c4 : w3.cell? ⟨w.heap.size, 4, none⟩ = some (.int .i64 y) := cell_of_row _ _ 4 _ _ _ hd3
  clear hcell3 hown3 hown3' hlen3 hgrow3 HNEWS2 HOWN2 HD1 HD2 hd3 hseeO hseeI hm0 hm1 hcap3 hg3 hB1 hB2
  have hDo := fun W (hg : g < W.heap.size) (hW : Sees W (some ⟨g, 0, none⟩) zs) => do_no g cap zs n op a b x y W (by rw [← HN.out]; omega) hg hW HOK.out
  have hRef := fun W => ref_no none 0 zs n op a b x y W HOK.out
  rw [← HN.out] at hDo hRef
  have HDO := Lib.hid hDo
  have HREF := Lib.hid hRef
  clear hDo hRef
  go_cut [9, 10, 11] (fun p q r wr => p = .slice none 0 0 ∧ q = .slice none 0 0 ∧ r = .int .i64 170 ∧ Below w3.heap.size w3 wr)
  case first =>
    have hz3 := lt_of_block HG.out
    have hi0 : (0 : Int) ≤ (0 : Int) := by omega
    have hi1 : (0 : Int) ≤ (cap : Int) := by omega
    have hi2 : 0 ≤ cap := by omega
    go_region_held3 (fun w' => w'.cell? ⟨w.heap.size, 0, none⟩ = some (.int .i64 op) ∧ w'.cell? ⟨w.heap.size, 1, none⟩ = some (.int .i64 a) ∧ w'.cell? ⟨w.heap.size, 2, none⟩ = some (.int .i64 b) ∧ w'.cell? ⟨w.heap.size, 3, none⟩ = some (.int .i64 x) ∧ w'.cell? ⟨w.heap.size, 4, none⟩ = some (.int .i64 y))
      (first | go_keep | exact ⟨below_cellK hB4 hz3 c0, below_cellK hB4 hz3 c1, below_cellK hB4 hz3 c2, below_cellK hB4 hz3 c3, below_cellK hB4 hz3 c4⟩)
      (first | (go_at_call 9; refine (HDO.out _ (by exact hg3lt) (by exact HSO.out)).mono ?_; rintro e w4 ⟨rfl, hB4⟩))
    all_goals
      go_wp2_with fail
      go_meet
      exact ⟨rfl, rfl, rfl, ⟨hB4.os, hB4.tape, hB4.output, hB4.size, hB4.block⟩⟩
  case rest =>
    obtain ⟨rfl, rfl, rfl, hB4⟩ := hcut
    clear c0 c1 c2 c3 c4
    have hd4 := (hB4.block _ (lt_of_block HG.out)).trans HG.out
    have c0 := cell_of_row _ _ 0 _ _ _ hd4
    have c1 := cell_of_row _ _ 1 _ _ _ hd4
    have c2 := cell_of_row _ _ 2 _ _ _ hd4
    have c3 := cell_of_row _ _ 3 _ _ _ hd4
    have c4 := cell_of_row _ _ 4 _ _ _ hd4
    have hzc : w3.heap.size ≤ wc.heap.size := hB4.size
    go_upto_region 9 with (first
      | (go_at_call 10; go_must (refine (HREF.out _).mono ?_; rintro e w5 ⟨rfl, hB5⟩))
      | (go_at_call_of 11 (Value.slice none 0 0); go_must (refine (same_len 0 _ _ _ _ [] _ rfl (Sees.nil _ _) (Sees.nil _ _) (by decide)).mono ?_; rintro e w6 ⟨rfl, k6, rfl⟩)))
    have hB5' : Below w3.heap.size w3 w5 := hB4.trans (hB5.mono hzc)
    clear hB5 hB4
    go_wp2
    go_loopw [17] (fun v wr => v = .int .i64 0 ∧ Below w3.heap.size w3 wr) (fun _ _ => 0)
    case atStart => exact ⟨rfl, ⟨hB5'.os, hB5'.tape, hB5'.output, hB5'.size, hB5'.block⟩⟩
    case round =>
      obtain ⟨rfl, hBr⟩ := hrel
      have hm0 := below_cellK hBr hg3lt HM0.out
      have hm1 := below_cellK hBr hg3lt HM1.out
      go_wp2_with (first
        | (go_at_call 11; go_must (refine (same_len 0 _ _ _ _ zs _ HN.out.symm (by exact HSO.out.below hBr) (by exact HSI.out.below hBr) (by unfold maxLen; omega)).mono ?_; rintro e w8 ⟨rfl, k8, rfl⟩))
        | (go_at_call 12; go_must (refine (codeBank_any false _).mono ?_; rintro e w9 ⟨rfl, rfl⟩)))
      go_ret
      have hBw := hB3.trans (hBr.mono hB3.size)
      exact ⟨rfl, ⟨hBw.os, hBw.tape, hBw.output, hBw.size, hBw.block⟩⟩
end Go.Proofs.YtcobmefgefkdmaaGreatDoor
