/-
  quash/quashlaw15.lent, same: every call. Condition: at most 2^43 instructions.
-/
import Derived.Test.YtojgdabkdbchnaaGreatDoorCodeInstrs
import Derived.Deep.QuietTactic
import Derived.BigQuiet
namespace Go.Proofs.YtojgdabkdbchnaaGreatDoor
open Go.RowKit
set_option maxRecDepth 100000

def spareP : List (Int × Int) := [(77, 0), (78, 0), (79, 0)]
set_option maxHeartbeats 1000000 in
/-- instructions with three others behind them, in memory of the call's own -/
theorem lent_any (ao : Option Addr) (n c : Nat) (l : List (Int × Int)) (w : World) (hl : l.length = n) (hs : SeesP w ao l) (hn : ao = none → c = 0) (hb : n * 16 ≤ 140737488355000) :
    Calls Tryz.prog 8 #[.slice ao n c] w fun e w' => ∃ v, e = .returned v ∧ OwnP w' w.heap.size v (l ++ spareP) ∧ Below w.heap.size w w' := by
  have HL := Lib.hid hl
  have HS := Lib.hid hs
  clear hl hs
  go_enter Tryz.func8, Tryz.ntmps8
  go_upto_region 3 with (first | (at_builtin; refine wpList_appendP (OwnP.nil w w.heap.size) (Nat.le_refl _) ao n c l HL.out HS.out hn (by rw [HL.out]; simp; omega) rfl _ _ rfl rfl rfl ?_; intro v1 w1 hown1 hgrow1))
  rw [List.nil_append] at hown1
  have hB1 : Below w.heap.size w w1 := (Below.refl _ _).grown hgrow1 (Nat.le_refl _) (by intro k hk; cases hk)
  have hz1 := hB1.size
  have HO := Lib.hid hown1
  have HB := Lib.hid hB1
  clear hown1 hgrow1 hB1
  go_wp2_with (first | (at_builtin; refine wpList_appendP (HO.out.below ((Below.refl _ _).alloc (Nat.le_refl _) _)) (by simp <;> omega) (some ⟨w1.heap.size, 0, none⟩) 3 3 spareP rfl (seesP_three (heap_new _ _ _ rfl)) (fun h => by cases h) (by rw [HL.out]; simp [spareP] <;> omega) rfl _ _ rfl rfl rfl ?_; intro v2 w2 hown2 hgrow2))
  go_ret
  exact ⟨_, rfl, hown2, (HB.out.alloc hz1 _).grown hgrow2 (by simp <;> omega) (fun k hk => own_ge HO.out hk)⟩
theorem same_no {l k : List (Int × Int)} {j : Nat} {x y : Int × Int} (h1 : l[j]? = some x) (h2 : k[j]? = some y) (h : x ≠ y) : decide (l = k) = false := by
  simp only [decide_eq_false_iff_not]
  intro e
  rw [e, h2] at h1
  injection h1 with h1
  exact h h1.symm
set_option maxHeartbeats 2000000 in
theorem same_any (ao bo : Option Addr) (n m ca cb : Nat) (l k : List (Int × Int)) (w : World) (hl : l.length = n) (hk : k.length = m) (hx : SeesP w ao l) (hy : SeesP w bo k) (hn : n ≤ maxLen) (hm : m ≤ maxLen) :
    Calls Tryz.prog 11 #[.slice ao n ca, .slice bo m cb] w fun e w' => e = .returned (.bool (decide (l = k))) ∧ ∃ d, w' = w.drewN d := by
  unfold maxLen at hn hm
  by_cases hne : n = m
  · subst hne
    cases n with
    | zero =>
      obtain rfl := List.eq_nil_of_length_eq_zero hl
      obtain rfl := List.eq_nil_of_length_eq_zero hk
      clear hx hy hl hk
      go_enter Tryz.func11, Tryz.ntmps11
      go_wp2
      go_loopw [5] (fun v wr => v = .int .i64 0 ∧ wr = w) (fun _ _ => 0)
      case atStart => exact ⟨rfl, rfl⟩
      case round =>
        obtain ⟨rfl, rfl⟩ := hrel
        go_wp2
        go_ret
        exact ⟨rfl, 0, rfl⟩
    | succ N =>
      obtain ⟨b, o, h1, h2⟩ := hx
      obtain ⟨b', o', h1', h2'⟩ := hy
      obtain rfl := h1 (by intro e; subst e; simp at hl)
      obtain rfl := h1' (by intro e; subst e; simp at hk)
      have H2 := Lib.hid h2
      have H2' := Lib.hid h2'
      have HL := Lib.hid hl
      have HK := Lib.hid hk
      clear h1 h1' h2 h2' hl hk
      go_enter Tryz.func11, Tryz.ntmps11
      go_wp2
      go_loopw [5] (fun v wr => ∃ j : Nat, j ≤ N + 1 ∧ v = .int .i64 j ∧ l.take j = k.take j ∧ ∃ d, wr = w.drewN d) (fun v _ => N + 1 - (intOf v).toNat)
      case atStart => exact ⟨0, by omega, rfl, rfl, 0, rfl⟩
      case round =>
        obtain ⟨j, hj, rfl, htk, d, rfl⟩ := hrel
        have HT := Lib.hid htk
        clear htk
        by_cases hlt : j < N + 1
        · obtain ⟨⟨x1, x2⟩, hx⟩ : ∃ x, l[j]? = some x := ⟨_, List.getElem?_eq_getElem (by rw [HL.out]; exact hlt)⟩
          obtain ⟨⟨y1, y2⟩, hy⟩ : ∃ x, k[j]? = some x := ⟨_, List.getElem?_eq_getElem (by rw [HK.out]; exact hlt)⟩
          obtain ⟨c1, c2⟩ := H2.out j _ hx
          obtain ⟨d1, d2⟩ := H2'.out j _ hy
          have HX := Lib.hid hx
          have HY := Lib.hid hy
          have hlo : (0 : Int) ≤ (j : Int) := by omega
          have hhi : (j : Int) < ((N + 1 : Nat) : Int) := by omega
          clear hx hy
          by_cases e1 : x1 = y1
          · by_cases e2 : x2 = y2
            · subst e1; subst e2
              go_wp2
              go_quiet (fail)
              go_wp2
              go_roundw
              case rel => exact ⟨j + 1, by omega, by go_num, by rw [List.take_add_one, List.take_add_one, HT.out, HX.out, HY.out], _, rfl⟩
              case measure => simp [intOf]; omega
            · subst e1
              have ne : (x2 == y2) = false := by simpa using e2
              have HN := Lib.hid (same_no HX.out HY.out (by intro e; injection e with _ e; exact e2 e))
              clear e2
              go_wp2
              go_quiet (fail)
              go_wp2
              go_ret
              exact ⟨by rw [HN.out]; rfl, d + nq, by rw [World.drewN_drewN]⟩
          · have ne : (x1 == y1) = false := by simpa using e1
            have HN := Lib.hid (same_no HX.out HY.out (by intro e; injection e with e _; exact e1 e))
            clear e1
            go_wp2
            go_quiet (fail)
            go_wp2
            go_ret
            exact ⟨by rw [HN.out]; rfl, d + nq, by rw [World.drewN_drewN]⟩
        · obtain rfl : j = N + 1 := by omega
          have HE := Lib.hid (show decide (l = k) = true by
            have h := HT.out
            rw [List.take_of_length_le (by rw [HL.out]; exact Nat.le_refl _), List.take_of_length_le (by rw [HK.out]; exact Nat.le_refl _)] at h
            simpa using h)
          go_wp2
          go_ret
          exact ⟨by rw [HE.out]; rfl, d, rfl⟩
  · have hlk : decide (l = k) = false := by
      simp only [decide_eq_false_iff_not]
      intro e; subst e; omega
    have HE := Lib.hid hlk
    have hd : ((n : Int) == (m : Int)) = false := by simp; omega
    clear hlk hl hk hx hy
    go_enter Tryz.func11, Tryz.ntmps11
    go_wp2
    go_ret
    exact ⟨by rw [HE.out]; rfl, 0, rfl⟩
end Go.Proofs.YtojgdabkdbchnaaGreatDoor
