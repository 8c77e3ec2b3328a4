/-
  quash/quashlaw15.CodeJoins answers true. Condition: the library's variables (Env), what the reading gives of the slices.
-/
import Derived.Test.YtojgdabkdbchnaaGreatDoorCodeAwake15
import Derived.Test.YtojgdabkdbchnaaGreatDoorOpenR
import Derived.Test.YtojgdabkdbchnaaGreatDoorRefJoin15
import Derived.Deep.QuietTactic
import Derived.BigQuiet
import Derived.IntWalk
namespace Go.Proofs.YtojgdabkdbchnaaGreatDoor
open Go.RowKit
set_option maxRecDepth 100000

theorem infoR : (Tryz.prog.info? 22).map (fun i => (i.zero, i.size, i.bytes)) = some (some (.slice none 0 0), 1, 24) := by kernel_rfl
def sliceV (x : PartV) : Value := .slice x.1 x.2.2.length x.2.1
/-- a row of slices of the call's own -/
def OwnR (w : World) (B : Nat) (v : Value) (O : List PartV) : Prop := w.ownsRow B 22 1 v O.length (O.map sliceV)
theorem OwnR.below {w w' : World} {B : Nat} {v : Value} {O : List PartV} (h : OwnR w B v O) (hb : Below w.heap.size w w') : OwnR w' B v O :=
  ownsRow_at h (fun g hg => by obtain ⟨_, hc⟩ := own_block h hg; exact hb.block _ (lt_of_block hc))
theorem OwnR.form {w : World} {B : Nat} {v : Value} {O : List PartV} (h : OwnR w B v O) : ∃ ao c, v = .slice ao O.length c := by
  rcases h.2 with ⟨h1, h2⟩ | ⟨g, cap, cur, hv, _⟩
  · exact ⟨none, 0, by rw [h1, h2]⟩
  · exact ⟨some ⟨g, 0, none⟩, cap, hv⟩
theorem OwnR.at_ {w : World} {B g n c : Nat} {O : List PartV} (h : OwnR w B (.slice (some ⟨g, 0, none⟩) n c) O) (hn : O.length = n) {j : Nat} {x : PartV} (hj : O[j]? = some x) : w.cell? ⟨g, j, none⟩ = some (sliceV x) := by
  subst hn
  refine (h.cellAt j (by have := (List.getElem?_eq_some_iff.1 hj).1; omega)).trans ?_
  rw [List.getElem?_map, hj]
  rfl
theorem wpList_appendR {w : World} {B : Nat} {v : Value} {O : List PartV} (hown : OwnR w B v O) (hB : B ≤ w.heap.size) (nb : Nat) (x : PartV) (t : TypeId) (hx : w.heap[nb]? = some (.cells #[sliceV x] t)) (hb : (O.length + 1) * 24 ≤ 140737488355328)
    {ops : Array Oper} {Q : Exit → Act → World → Prop} {a : Act} {rest : List Oper} {o : Oper} (hgd : o.guard = none) (s y : Operand) (hop : o.op = Op.call { callee := Callee.builtin Builtin.append, args := #[s, y], argTypes := #[44, 44] })
    (ev : a.eval s = v) (hy : a.eval y = .slice (some ⟨nb, 0, none⟩) 1 1)
    (hK : ∀ v' w', OwnR w' B v' (O ++ [x]) → w.grownBy w' v.ownBlock → wpList Tryz.prog ops Q rest (a.put o.dst v') w') : wpList Tryz.prog ops Q (o :: rest) a w := by
  obtain ⟨i0, hi, hz0, hz1, hz2⟩ := info_parts infoR
  refine wpList_append_own w hgd s y 44 hop B 22 i0 (.slice none 0 0) 1 24 Tryz.underlying44 hi hz0 hz1 hz2 rfl (by decide) v O.length (O.map sliceV) ev hown ⟨nb, 0, none⟩ 1 1 [sliceV x] hy rfl (fun j u hj => ?_) (fun u hu => ?_) (by unfold maxLen; omega) (by omega) hB (fun v' w' h1 h2 _ => hK v' w' ?_ h2)
  · match j, hj with
    | 0, hj => simp at hj; subst hj; exact cell_of_row _ _ 0 _ _ _ hx
    | j + 1, hj => simp at hj
  · simp at hu; subst hu; rfl
  · unfold OwnR
    rw [List.length_append, List.map_append]
    exact h1
theorem bdK {B : Nat} {w w' : World} (h : Below B w w') (n : Nat) : Below B w (w'.drewN n) := ⟨h.os, h.tape, h.output, h.size, h.block⟩
theorem joinS_le' (P : List Prog) : (joinS P).1.length ≤ 400 := by
  unfold joinS
  split
  · split
    · simp
    · rw [joinFrom_length]; simp; omega
  · simp
/-- a part that was lent -/
def LentP (w : World) (x : PartV) (l : Prog) : Prop := ∃ g cur, x.1 = some ⟨g, 0, none⟩ ∧ x.2.2 = l ∧ w.heap[g]? = some (.cells cur 42) ∧ SeesP w (some ⟨g, 0, none⟩) (l ++ spareP) ∧ l.length + 3 ≤ x.2.1 ∧ x.2.1 ≤ maxLen
theorem seesP_block {w w' : World} {g : Nat} {l : Prog} (h : SeesP w (some ⟨g, 0, none⟩) l) (hb : w'.heap[g]? = w.heap[g]?) : SeesP w' (some ⟨g, 0, none⟩) l := by
  obtain ⟨b, o, h1, h2⟩ := h
  by_cases hl : l = []
  · subst hl; exact SeesP.nil _ _
  · have e := h1 hl
    injection e with e
    injection e with e1 e2
    subst e1; subst e2
    refine ⟨g, 0, fun _ => rfl, fun j x hj => ?_⟩
    obtain ⟨k1, k2⟩ := h2 j x hj
    exact ⟨(World.cell?_of_block (a := ⟨g, _, none⟩) hb).trans k1, (World.cell?_of_block (a := ⟨g, _, none⟩) hb).trans k2⟩
def LentAll (w : World) (O : List PartV) (L : List Prog) : Prop := O.length = L.length ∧ ∀ (j : Nat) (x : PartV), O[j]? = some x → ∃ l, L[j]? = some l ∧ LentP w x l
theorem LentP.below {w w' : World} {x : PartV} {l : Prog} (h : LentP w x l) (hb : Below w.heap.size w w') : LentP w' x l := by
  obtain ⟨g, cur, h1, h2, h0, h3, h4⟩ := h
  exact ⟨g, cur, h1, h2, (hb.block _ (lt_of_block h0)).trans h0, h3.below hb, h4⟩
theorem LentP.grown {w w' : World} {x : PartV} {l : Prog} {B : Nat} {v : Value} {O : List PartV} (h : LentP w x l) (ho : OwnR w B v O) (hg : w.grownBy w' v.ownBlock) : LentP w' x l := by
  obtain ⟨g, cur, h1, h2, h0, h3, h4⟩ := h
  have hb : w'.heap[g]? = w.heap[g]? := hg.block g (lt_of_block h0) (fun e => by
    obtain ⟨c2, hc⟩ := own_block ho e.symm
    exact block_ne h0 hc (by decide) rfl)
  exact ⟨g, cur, h1, h2, hb.trans h0, seesP_block h3 hb, h4⟩
theorem LentAll.below {w w' : World} {O : List PartV} {L : List Prog} (h : LentAll w O L) (hb : Below w.heap.size w w') : LentAll w' O L :=
  ⟨h.1, fun j x hj => by obtain ⟨l, h1, h2⟩ := h.2 j x hj; exact ⟨l, h1, h2.below hb⟩⟩
theorem LentAll.grown {w w' : World} {O : List PartV} {L : List Prog} {B : Nat} {v : Value} {O' : List PartV} (h : LentAll w O L) (ho : OwnR w B v O') (hg : w.grownBy w' v.ownBlock) : LentAll w' O L :=
  ⟨h.1, fun j x hj => by obtain ⟨l, h1, h2⟩ := h.2 j x hj; exact ⟨l, h1, h2.grown ho hg⟩⟩
theorem LentAll.snoc {w : World} {O : List PartV} {L : List Prog} {x : PartV} {l : Prog} (h : LentAll w O L) (hx : LentP w x l) : LentAll w (O ++ [x]) (L ++ [l]) := by
  refine ⟨by simp [h.1], fun j y hj => ?_⟩
  by_cases hl : j < O.length
  · rw [List.getElem?_append_left hl] at hj
    obtain ⟨k, h1, h2⟩ := h.2 j y hj
    exact ⟨k, by rw [List.getElem?_append_left (by rw [← h.1]; exact hl)]; exact h1, h2⟩
  · rw [List.getElem?_append_right (by omega)] at hj
    have hz : j - O.length = 0 := by have := (List.getElem?_eq_some_iff.1 hj).1; simpa using this
    rw [hz] at hj
    simp at hj
    subst hj
    exact ⟨l, by rw [List.getElem?_append_right (by rw [← h.1]; omega), ← h.1, hz]; rfl, hx⟩
theorem OwnR.sees {w : World} {B : Nat} {ao : Option Addr} {n c : Nat} {O : List PartV} {L : List Prog} (h : OwnR w B (.slice ao n c) O) (hl : LentAll w O L) : SeesR w ao O := by
  rcases h.2 with ⟨h1, h2⟩ | ⟨g, cap, cur, hv, _⟩
  · have : O = [] := List.eq_nil_of_length_eq_zero h2
    subst this
    exact SeesR.nil _ _
  · injection hv with e1 e2 e3
    subst e1; subst e2; subst e3
    refine ⟨g, 0, fun _ => rfl, fun j x hj => ?_⟩
    have hj' := (List.getElem?_eq_some_iff.1 hj).1
    refine ⟨?_, ?_⟩
    · rw [Nat.zero_add]
      refine (h.cellAt j (by omega)).trans ?_
      rw [List.getElem?_map, hj]
      rfl
    · obtain ⟨l, _, g', _, k1, k2, _, k3, _⟩ := hl.2 j x hj
      rw [k1, k2]
      have := k3.take l.length
      rwa [List.take_left] at this
theorem LentAll.progs {w : World} {O : List PartV} {L : List Prog} (h : LentAll w O L) : progsV O = L := by
  apply List.ext_getElem?
  intro j
  unfold progsV
  rw [List.getElem?_map]
  cases hj : O[j]? with
  | none =>
    have := List.getElem?_eq_none_iff.1 hj
    rw [List.getElem?_eq_none (by rw [← h.1]; exact this)]
    rfl
  | some x =>
    obtain ⟨l, h1, g, _, _, h2, _⟩ := h.2 j x hj
    rw [h1, ← h2]
    rfl
theorem setl2 (y : Int × Int) : ∀ (l : Prog) (k : Nat), k < l.length → ((instrCells l).set (k * 2) (.int .i64 y.1)).set (k * 2 + 1) (.int .i64 y.2) = instrCells (l.set k y)
  | [], k, h => by simp at h
  | x :: l, 0, _ => rfl
  | x :: l, k + 1, h => by
    have := setl2 y l k (by simpa using h)
    rw [show (k + 1) * 2 + 1 = (k * 2 + 1) + 1 + 1 by omega, show (k + 1) * 2 = k * 2 + 1 + 1 by omega]
    show Value.int .i64 x.1 :: Value.int .i64 x.2 :: ((instrCells l).set (k * 2) (.int .i64 y.1)).set (k * 2 + 1) (.int .i64 y.2) = _
    rw [this]
    rfl
theorem OwnP.set2 {w : World} {B g cap n : Nat} {l : Prog} (h : OwnP w B (.slice (some ⟨g, 0, none⟩) n cap) l) (_hn : l.length = n) {k : Nat} (hk : k < l.length) (y : Int × Int) :
    OwnP ((w.setCell ⟨g, k * 2, none⟩ (.int .i64 y.1)).setCell ⟨g, k * 2 + 1, none⟩ (.int .i64 y.2)) B (.slice (some ⟨g, 0, none⟩) n cap) (l.set k y) := by
  subst _hn
  obtain ⟨h1, _⟩ := World.ownsRow.stored h (k * 2) (.int .i64 y.1)
  obtain ⟨h2, _⟩ := World.ownsRow.stored h1 (k * 2 + 1) (.int .i64 y.2)
  unfold OwnP
  rw [List.length_set, ← setl2 y l k hk]
  exact h2
set_option maxHeartbeats 8000000 in
theorem CodeJoins_any (ro : Option Addr) (cR : Nat) (P : List PartV) (w : World) (he : Env w) (hs : SeesR w ro P) (hok : ∀ x ∈ P, PartOk x) (hK : P.length * 24 ≤ 140737488351232) :
    Calls Tryz.prog 6 #[.slice ro P.length cR] w fun e w' => e = .returned (.bool true) ∧ Below w.heap.size w w' := by
  obtain ⟨K, hKe⟩ : ∃ K, K = P.length := ⟨_, rfl⟩
  have HK := Lib.hid hKe
  have HS := Lib.hid hs
  have HOK := Lib.hid hok
  have HE := Lib.hid he
  rw [← hKe] at hK
  rw [← hKe]
  clear hs hok he hKe
  go_enter Tryz.func6, Tryz.ntmps6
  go_wp2_with (go_at_call 7; go_must (refine (awake15_any _ HE.out).mono ?_; rintro e w1 ⟨rfl, hb1⟩))
  have HB1 := Lib.hid hb1
  have hz1 := hb1.size
  clear hb1
  go_loopw [4, 5] (fun v u wr => ∃ (k : Nat) (O : List PartV), k ≤ K ∧ u = .int .i64 k ∧ OwnR wr w1.heap.size v O ∧ LentAll wr O ((progsV P).take k) ∧ Below w1.heap.size w1 wr) (fun _ u _ => K - (intOf u).toNat)
  case atStart => exact ⟨0, [], Nat.zero_le _, rfl, World.ownsRow_nil _ _ _ _, ⟨rfl, fun j x hj => by simp at hj⟩, Below.refl _ _⟩
  case round =>
    obtain ⟨k, O, hk, rfl, hown, hla, hB⟩ := hrel
    obtain ⟨wA, rfl⟩ : ∃ wA : World, wA = wr := ⟨_, rfl⟩
    obtain ⟨ao4, c4, rfl⟩ := hown.form
    have hOl : O.length = k := by
      have := hla.1
      rw [List.length_take, progsV_length, ← HK.out] at this
      omega
    rw [hOl] at hown ⊢
    have HOL := Lib.hid hOl
    have HO := Lib.hid hown
    have HLA := Lib.hid hla
    have HB := Lib.hid hB
    have hz := hB.size
    have HBw := Lib.hid (HB1.out.trans (hB.mono hz1))
    clear hown hla hB hOl
    by_cases hlt : k < K
    · obtain ⟨⟨ao, cx, l⟩, hx⟩ : ∃ x, P[k]? = some x := ⟨_, List.getElem?_eq_getElem (by rw [← HK.out]; exact hlt)⟩
      obtain ⟨b, o, hro, hc⟩ := HS.out.below HBw.out
      obtain rfl := hro (by intro e; subst e; simp at hx)
      obtain ⟨c0, hsl⟩ := hc k _ hx
      obtain ⟨p1, p2, p3⟩ := HOK.out _ (List.mem_of_getElem? hx)
      simp only at c0 hsl p1 p2 p3
      obtain ⟨n, hn⟩ : ∃ n, n = l.length := ⟨_, rfl⟩
      have HLENT := Lib.hid (lent_any ao n cx l wA hn.symm hsl p1 (by rw [hn]; omega))
      rw [← hn] at c0 p2 p3
      have HN := Lib.hid hn
      have HTK := Lib.hid (show (progsV P).take (k + 1) = (progsV P).take k ++ [l] by rw [List.take_add_one, progsV_at hx]; rfl)
      have hi0 : (0 : Int) ≤ (k : Int) := by omega
      clear hc hsl hx hn p1 hro
      go_upto_region 7 with (go_at_call 8; go_must (refine HLENT.out.mono ?_; rintro e w3 ⟨v3, rfl, ho3, hb3⟩))
      obtain ⟨g, cp, rfl, hs2, hs3, hcp1, hcp2⟩ := ho3.take (by simp [spareP])
      have hlk : (l ++ spareP).length = n + 3 := by rw [List.length_append, HN.out]; rfl
      rw [hlk] at hcp1 ⊢
      have c3 := (hb3.cell (p := ⟨b, _, none⟩) (block_lt_of_cell c0)).trans c0
      obtain ⟨cur, hcur⟩ := own_block ho3 (g := g) rfl
      have HL3 := Lib.hid (show LentP w3 (some ⟨g, 0, none⟩, cp, l) l from ⟨g, cur, rfl, rfl, hcur, hs3, by show l.length + 3 ≤ cp; rw [← HN.out]; exact hcp1, hcp2⟩)
      have HB3 := Lib.hid hb3
      have hz3 := hb3.size
      unfold maxLen at hcp2
      have hi1 : (n : Int) ≤ (cp : Int) := by omega
      have hi2 : n ≤ cp := by omega
      have hi3 : n ≤ n + 3 := by omega
      have HSV := Lib.hid (show sliceV (some ⟨g, 0, none⟩, cp, l) = .slice (some ⟨g, 0, none⟩) n cp by unfold sliceV; rw [HN.out])
      clear ho3 hb3 hs2 hs3 hlk hcur c0
      go_wp2_with (at_builtin; refine wpList_appendR ((HO.out.below HB3.out).below ((Below.refl _ _).alloc (Nat.le_refl _) _)) (by simp <;> omega) w3.heap.size (some ⟨g, 0, none⟩, cp, l) _ (by rw [HSV.out]; exact heap_new _ _ _ rfl) (by rw [HOL.out]; omega) rfl _ _ rfl rfl rfl ?_; intro v5 w5 hown5 hgrow5)
      go_roundw
      case rel =>
        refine ⟨k + 1, O ++ [(some ⟨g, 0, none⟩, cp, l)], by omega, by go_num, hown5, ?_, ((HB.out.trans (HB3.out.mono hz)).alloc (Nat.le_trans hz hz3) _).grown hgrow5 (by simp <;> omega) (fun k hk => own_ge HO.out hk)⟩
        rw [HTK.out]
        have ha : Below w3.heap.size w3 (w3.alloc (.cells #[.slice (some ⟨g, 0, none⟩) n cp] 22)) := (Below.refl _ _).alloc (Nat.le_refl _) _
        exact LentAll.grown (((HLA.out.below HB3.out).snoc HL3.out).below ha) ((HO.out.below HB3.out).below ha) hgrow5
      case measure => simp [intOf]; omega
    · obtain rfl : k = K := by omega
      have htk : (progsV P).take k = progsV P := List.take_of_length_le (by rw [progsV_length, ← HK.out]; exact Nat.le_refl _)
      have hla := HLA.out
      rw [htk] at hla
      have hpr := hla.progs
      have hk14 : k ≤ 100000000000000 := by omega
      have HJ := Lib.hid (Join_any ao4 k c4 O wA HOL.out (HO.out.sees hla) hk14 (fun x hx => by
        obtain ⟨j, hj⟩ := List.getElem?_of_mem hx
        obtain ⟨l, h1, g, cur, q1, q2, q3, q4, q5, q6⟩ := hla.2 j x hj
        rw [q2]
        have hl := List.mem_of_getElem? h1
        obtain ⟨y, hy, hyl⟩ := List.mem_map.1 hl
        have := (HOK.out y hy).2.2
        rw [hyl] at this
        exact ⟨this, by omega⟩))
      have HRJ := fun W (h : SeesR W ro P) => Lib.hid (refJoin_any ro k cR P W HK.out.symm h hk14 (fun x hx => (HOK.out x hx).2.2))
      rw [hpr] at HJ
      unfold JoinDoes at HJ HRJ
      have hle := joinS_le' (progsV P)
      generalize (joinS (progsV P)).2 = E at HJ HRJ
      obtain ⟨X, hX⟩ : ∃ X, X = (joinS (progsV P)).1 := ⟨_, rfl⟩
      rw [← hX] at HJ HRJ hle
      obtain ⟨M, hM⟩ : ∃ M, M = X.length := ⟨_, rfl⟩
      rw [← hM] at hle
      have HM := Lib.hid hM
      have HLA2 := Lib.hid hla
      clear hM hX hpr htk hla HLA
      go_upto_region 10 with (first
        | (go_at_call 16; go_must (refine HJ.out.mono ?_; rintro e w5 ⟨v5, rfl, ho5, hb5⟩))
        | (go_at_call 17; go_must (refine (HRJ _ (by exact HS.out.below (HBw.out.trans (hb5.mono HBw.out.size)))).out.mono ?_; rintro e w6 ⟨v6, rfl, ho6, hb6⟩)))
      obtain ⟨ao5, c5, rfl, hs5, _⟩ := ho5.slice
      obtain ⟨ao6, c6, rfl, hs6, _⟩ := ho6.slice
      rw [← HM.out] at ho5 ⊢
      have HO6 := Lib.hid (ho5.below hb6)
      have HS5 := Lib.hid (hs5.below hb6)
      have HS6 := Lib.hid hs6
      have HBA := Lib.hid (hb5.trans (hb6.mono hb5.size))
      have hzA := HBw.out.size
      clear ho5 ho6 hb5 hb6 hs5 hs6
      go_wp2_with (go_at_call 11; go_must (refine (same_any _ _ M M _ _ X X _ HM.out.symm HM.out.symm (by exact HS5.out) (by exact HS6.out) (by unfold maxLen; omega) (by unfold maxLen; omega)).mono ?_; rintro e w7 ⟨rfl, k7, rfl⟩; rw [decide_eq_true (rfl : X = X)]))
      go_loopw [12] (fun v wr => ∃ (i : Nat) (Y : Prog), i ≤ M ∧ v = .int .i64 i ∧ Y.length = M ∧ OwnP wr wA.heap.size (.slice ao5 M c5) Y ∧ Below wA.heap.size wA wr) (fun v _ => M - (intOf v).toNat)
      case atStart => exact ⟨0, X, Nat.zero_le _, rfl, HM.out.symm, by exact HO6.out, ⟨HBA.out.os, HBA.out.tape, HBA.out.output, HBA.out.size, HBA.out.block⟩⟩
      case round =>
        obtain ⟨i, Y, hi, rfl, hY, ho, hb⟩ := hrel
        by_cases him : i < M
        · obtain ⟨g, cap, hv⟩ := Joins.ownsRow_form ho (by omega)
          injection hv with hv1 hv2 hv3
          subst hv1
          obtain ⟨⟨y1, y2⟩, hy⟩ : ∃ y, Y[i]? = some y := ⟨_, List.getElem?_eq_getElem (by rw [hY]; exact him)⟩
          obtain ⟨q0, q1, f1⟩ := ho.at' hY hy
          simp only at q0 q1
          have f0 : wr.frozen? ⟨g, i * 2, none⟩ = false := by
            obtain ⟨cur, hcur⟩ := own_block ho (g := g) rfl
            exact frozen_of_row _ _ _ _ _ hcur
          have hi0 : (0 : Int) ≤ (i : Int) := by omega
          have hi1 : (i : Int) < (M : Int) := by omega
          have HO7 := Lib.hid ho
          have HB7 := Lib.hid hb
          have HY := Lib.hid hY
          clear hv2 hv3 hy ho hb hY
          go_wp2
          go_roundw
          case rel => exact ⟨i + 1, Y.set i (99, 0), by omega, by go_num, by rw [List.length_set]; exact HY.out, HO7.out.set2 HY.out (by rw [HY.out]; exact him) (99, 0), (HB7.out.setCell (p := ⟨g, i * 2, none⟩) (own_ge HO7.out (g := g) rfl) _).setCell (p := ⟨g, i * 2 + 1, none⟩) (own_ge HO7.out (g := g) rfl) _⟩
          case measure => simp [intOf]; omega
        · obtain rfl : i = M := by omega
          have HB8 := Lib.hid hb
          clear hY ho hb
          go_wp2
          go_loopw [11, 13] (fun v u wr => ∃ j : Nat, j ≤ k ∧ u = .int .i64 j ∧ v = .bool true ∧ Below wA.heap.size wA wr) (fun _ u _ => k - (intOf u).toNat)
          case atStart => exact ⟨0, Nat.zero_le _, rfl, rfl, HB8.out⟩
          case round =>
            obtain ⟨j, hj, rfl, rfl, hb⟩ := hrel
            by_cases hjk : j < k
            · obtain ⟨⟨ao, cx, l⟩, hx⟩ : ∃ x, P[j]? = some x := ⟨_, List.getElem?_eq_getElem (by rw [← HK.out]; exact hjk)⟩
              obtain ⟨xo, hxo⟩ : ∃ x, O[j]? = some x := ⟨_, List.getElem?_eq_getElem (by rw [HOL.out]; exact hjk)⟩
              obtain ⟨l', hl', g, cur, q1, q2, q3, q4, q5, q6⟩ := HLA2.out.2 j xo hxo
              obtain rfl : l = l' := by
                have := progsV_at hx
                rw [this] at hl'
                injection hl'
              have hBwr := HBw.out.trans (hb.mono hzA)
              obtain ⟨b, o, hro, hc⟩ := HS.out.below hBwr
              obtain rfl := hro (by intro e; subst e; simp at hx)
              obtain ⟨c0, hsl⟩ := hc j _ hx
              obtain ⟨p1, p2, p3⟩ := HOK.out _ (List.mem_of_getElem? hx)
              simp only at c0 hsl p1 p2 p3
              obtain ⟨og, ocap, hov⟩ := Joins.ownsRow_form HO.out (by rw [HOL.out]; omega)
              rw [HOL.out] at hov
              injection hov with ho1 ho2 ho3
              subst ho1
              have hco : wr.cell? ⟨og, j, none⟩ = some (sliceV xo) := by
                have h1 := (HO.out.below hb).at_ (by exact HOL.out) hxo
                exact h1
              obtain ⟨n, hn⟩ : ∃ n, n = l.length := ⟨_, rfl⟩
              have hsv : sliceV xo = .slice (some ⟨g, 0, none⟩) n xo.2.1 := by unfold sliceV; rw [q1, q2, hn]
              rw [hsv] at hco
              generalize xo.2.1 = cp at q5 q6 hco
              have HSX := Lib.hid (fun W (h : Below wA.heap.size wA W) => q4.below h)
              have HLENT := Lib.hid (fun W (h : SeesP W ao l) => lent_any ao n cx l W hn.symm h p1 (by rw [hn]; omega))
              rw [← hn] at c0 p2 p3 q5
              have HN := Lib.hid hn
              have hlk : (l ++ spareP).length = n + 3 := by rw [List.length_append, hn]; rfl
              have HLK := Lib.hid hlk
              have HSL := Lib.hid hsl
              have HBR := Lib.hid hb
              unfold maxLen at q6
              have hi0 : (0 : Int) ≤ (j : Int) := by omega
              have hi1 : (j : Int) < (k : Int) := by omega
              have hn3 : (n : Int) + 3 ≤ (cp : Int) := by omega
              have hn4 : (0 : Int) ≤ (n : Int) + 3 := by omega
              have hn5 : ((n : Int) + 3).toNat = n + 3 := by omega
              have hn6 : IntKind.i64.wrap ((n : Int) + 3) = (n : Int) + 3 := IntWalk.i64_in _ (by omega)
              clear hx hxo hl' q1 q2 q3 q4 hc hsl hsv hn hlk hb hBwr hro ho2 ho3 p1
              go_wp2
              go_quiet (fail)
              go_wp2_with (first
                | (go_at_call 8; go_must (refine (HLENT.out _ (by exact HSL.out)).mono ?_; rintro e w8 ⟨v8, rfl, ho8, hb8⟩; obtain ⟨g8, cp8, rfl, -, hs8, -, -⟩ := ho8.take (by simp [spareP]); rw [HLK.out]; have HS8 := Lib.hid hs8; have B8 := Lib.hid ((bdK HBR.out nq).trans (hb8.mono (bdK HBR.out nq).size)); clear ho8 hb8 hs8))
                | (go_at_call 11; go_must (refine (same_any _ _ (n + 3) (n + 3) _ _ (l ++ spareP) (l ++ spareP) _ HLK.out HLK.out (by exact HSX.out _ B8.out) (by exact HS8.out) (by unfold maxLen; omega) (by unfold maxLen; omega)).mono ?_; rintro e w9 ⟨rfl, k9, rfl⟩; rw [decide_eq_true (rfl : l ++ spareP = l ++ spareP)])))
              go_roundw
              case rel => exact ⟨j + 1, by omega, by go_num, rfl, bdK B8.out k9⟩
              case measure => simp [intOf]; omega
            · obtain rfl : j = k := by omega
              go_wp2
              go_ret
              exact ⟨rfl, HBw.out.trans (hb.mono hzA)⟩
end Go.Proofs.YtojgdabkdbchnaaGreatDoor
