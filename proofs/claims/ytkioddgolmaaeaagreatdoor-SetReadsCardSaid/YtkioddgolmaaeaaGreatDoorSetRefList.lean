/-
  quash/quashref18.list: every call over cells that are there. No condition.
-/
import Derived.Test.YtkioddgolmaaeaaGreatDoorSetRead2
namespace Go.Proofs.YtkioddgolmaaeaaGreatDoor
open Go.RowKit
set_option maxRecDepth 100000

/-- a row of int of the call's own -/
def OwnI (w : World) (B : Nat) (v : Value) (zs : List Int) : Prop := w.ownsRow B 3 1 v zs.length (i64s zs)
theorem OwnI.nil (w : World) (B : Nat) : OwnI w B (.slice none 0 0) [] := World.ownsRow_nil _ _ _ _
theorem OwnI.slice {w : World} {B : Nat} {v : Value} {zs : List Int} (h : OwnI w B v zs) : ∃ ao c, v = .slice ao zs.length c ∧ (zs.length ≠ 0 → ∃ g, ao = some ⟨g, 0, none⟩) := by
  obtain ⟨_, h1 | ⟨g, cap, cur, hv, _⟩⟩ := h
  · exact ⟨none, 0, by rw [h1.1, h1.2], fun h => absurd h1.2 h⟩
  · exact ⟨_, cap, hv, fun _ => ⟨g, rfl⟩⟩
theorem OwnI.below {w w' : World} {B : Nat} {v : Value} {zs : List Int} (h : OwnI w B v zs) (hb : Below w.heap.size w w') : OwnI w' B v zs :=
  ownsRow_at h (fun g hg => by obtain ⟨_, hc⟩ := own_block h hg; exact hb.block _ (lt_of_block hc))
theorem OwnI.lower {w : World} {B B' : Nat} {v : Value} {zs : List Int} (h : OwnI w B v zs) (hb : B' ≤ B) : OwnI w B' v zs := own_lower h hb
theorem OwnI.cell {w : World} {B g c : Nat} {zs : List Int} (h : OwnI w B (.slice (some ⟨g, 0, none⟩) zs.length c) zs) (k : Nat) {z : Int} (hk : zs[k]? = some z) : w.cell? ⟨g, k, none⟩ = some (.int .i64 z) :=
  (h.cellAt k (by have := (List.getElem?_eq_some_iff.1 hk).1; omega)).trans (i64s_at zs k hk)
/-- append of one number onto a row of int -/
theorem wpList_appendI {w : World} {B : Nat} {v : Value} {xs : List Int} (hown : OwnI w B v xs) (hB : B ≤ w.heap.size) (y : Int) (nb : Nat) (hc : w.cell? ⟨nb, 0, none⟩ = some (.int .i64 y)) (hb : (xs.length + 1) * 8 ≤ 140737488355328)
    {ops : Array Oper} {Q : Exit → Act → World → Prop} {a : Act} {rest : List Oper} {o : Oper} (hgd : o.guard = none) (s x : Operand) (hop : o.op = Op.call { callee := Callee.builtin Builtin.append, args := #[s, x], argTypes := #[57, 57] })
    (ev : a.eval s = v) (hx : a.eval x = .slice (some ⟨nb, 0, none⟩) 1 1)
    (hK : ∀ v' w', OwnI w' B v' (xs ++ [y]) → w.grownBy w' v.ownBlock → wpList Tryz.prog ops Q rest (a.put o.dst v') w') : wpList Tryz.prog ops Q (o :: rest) a w := by
  obtain ⟨i0, hi, hz0, hz1, hz2⟩ := info_parts infoInt
  refine wpList_append_own _ hgd s x 57 hop B 3 i0 (.int .i64 0) 1 8 Tryz.underlying57 hi hz0 hz1 hz2 rfl (by decide) v xs.length (i64s xs) ev hown ⟨nb, 0, none⟩ 1 1 [.int .i64 y] hx rfl (fun j u hj => ?_) (by simp [Value.oneCell']) (by unfold maxLen; omega) hb hB
    (fun v' w' h1 h2 _ => hK v' w' (by unfold OwnI; rw [List.length_append, i64s_app]; exact h1) h2)
  match j, hj with
  | 0, hj => rw [Addr.add_lit]; simpa using hc.trans hj
theorem listL_range (key link : Int → Int) (n : Int) : ∀ (f : Nat) (h : Int) (a : List Int), listL key link n f h = some a → ∀ x ∈ a, 1 ≤ x ∧ x ≤ n
  | 0, h, a, e => by
    unfold listL at e
    split at e
    · simp at e; subst e; simp
    · split at e <;> cases e
  | f + 1, h, a, e => by
    unfold listL at e
    split at e
    · simp at e; subst e; simp
    · rename_i h0
      split at e
      · cases e
      · rename_i h1
        obtain ⟨r, hr, rfl⟩ : ∃ r, listL key link n f (link h) = some r ∧ h :: r = a := by simpa using e
        intro x hx
        rcases List.mem_cons.1 hx with rfl | hx
        · omega
        · exact listL_range key link n f _ r hr x hx
/-- what list answers -/
def ListDoes (r : Option (List Int)) (w : World) (e : Ending) (w' : World) : Prop :=
  match r with
  | some a => ∃ v, e = .returned (.tuple #[v, .bool true]) ∧ OwnI w' w.heap.size v a ∧ Below w.heap.size w w'
  | none => e = .returned (.tuple #[.slice none 0 0, .bool false]) ∧ Below w.heap.size w w'
theorem listDoes_some {a : List Int} {r : Option (List Int)} (hr : r = some a) {w w' : World} {v : Value} (h1 : OwnI w' w.heap.size v a) (h2 : Below w.heap.size w w') : ListDoes r w (.returned (.tuple #[v, .bool true])) w' := by
  rw [hr]; exact ⟨v, rfl, h1, h2⟩
theorem listDoes_none {r : Option (List Int)} (hr : r = none) {w w' : World} (h2 : Below w.heap.size w w') : ListDoes r w (.returned (.tuple #[.slice none 0 0, .bool false])) w' := by
  rw [hr]; exact ⟨rfl, h2⟩
set_option maxHeartbeats 4000000 in
theorem refList_any (key link : Int → Int) (b o c L N : Nat) (h0 : Int) (w : World) (h60 : N ≤ 60) (hL : L = 3 + 2 * N) (hz : ∀ x : Nat, 1 ≤ x → x ≤ N → w.cell? ⟨b, o + (2 + 2 * x), none⟩ = some (.int .i64 (link x))) :
    Calls Tryz.prog 28 #[.slice (some ⟨b, o, none⟩) L c, .int .i64 N, .int .i64 h0] w (ListDoes (listL key link N N h0) w) := by
  have HL := Lib.hid hL
  have HZ := Lib.hid hz
  obtain ⟨R, hR⟩ : ∃ R, R = listL key link N N h0 := ⟨_, rfl⟩
  rw [← hR]
  clear hL hz
  go_enter Tryz.func28, Tryz.ntmps28
  go_wp2_with fail
  go_loopw [2, 8] (fun u v wr => ∃ (h : Int) (a : List Int), u = .int .i64 h ∧ a.length ≤ N ∧ OwnI wr w.heap.size v a ∧ Below w.heap.size w wr ∧ R = (listL key link N (N - a.length) h).map (a ++ ·)) (fun _ v _ => match v with | .slice _ n _ => N - n | _ => 0)
  case atStart => exact ⟨h0, [], rfl, Nat.zero_le _, OwnI.nil _ _, Below.refl _ _, by simpa using hR⟩
  case round =>
    obtain ⟨h, a, rfl, ha, hown, hB, hg⟩ := hrel
    obtain ⟨ao, ca, rfl, -⟩ := hown.slice
    have HG := Lib.hid hg
    have HO := Lib.hid hown
    have HB := Lib.hid hB
    obtain ⟨K, hK⟩ : ∃ K, K = a.length := ⟨_, rfl⟩
    rw [← hK] at ha hown ⊢
    have HK := Lib.hid hK
    clear hg hR hown hB hK
    by_cases hz : h = 0
    · subst hz
      go_wp2
      go_ret2
      refine listDoes_some ?_ (by have := HO.out; rw [← HK.out] at this; exact this) HB.out
      rw [HG.out]
      unfold listL
      simp
    · have hz' : (h != 0) = true := by simpa using hz
      have hz2 : (h == 0) = false := by simpa using hz
      by_cases hb1 : h < 0
      · have HN := Lib.hid (show R = none by rw [HG.out]; unfold listL; rw [if_neg hz, if_pos (.inl hb1)]; rfl)
        go_wp2
        go_ret2
        exact listDoes_none HN.out HB.out
      · by_cases hb2 : (N : Int) < h
        · have HN := Lib.hid (show R = none by rw [HG.out]; unfold listL; rw [if_neg hz, if_pos (.inr hb2)]; rfl)
          go_wp2
          go_ret2
          exact listDoes_none HN.out HB.out
        · by_cases hf : K = N
          · have HN := Lib.hid (show R = none by
              rw [HG.out, show N - a.length = 0 by rw [← HK.out]; omega]
              unfold listL
              rw [if_neg hz, if_neg (by omega)]
              rfl)
            have e1 : ((K : Int) == (N : Int)) = true := by simp; omega
            go_wp2
            go_ret2
            exact listDoes_none HN.out HB.out
          · have e1 : ((K : Int) == (N : Int)) = false := by simp; omega
            obtain ⟨x, rfl⟩ : ∃ x : Nat, h = x := ⟨h.toNat, by omega⟩
            have hlx := fun W (hb : Below w.heap.size w W) => (hb.cell (p := ⟨b, o + (2 + 2 * x), none⟩) (block_lt_of_cell (HZ.out x (by omega) (by omega)))).trans (HZ.out x (by omega) (by omega))
            have HLX := Lib.hid hlx
            have hbx : 2 + 2 * (x : Int) < (L : Int) := by rw [HL.out]; omega
            have HST := Lib.hid (show R = (listL key link N (N - (K + 1)) (link x)).map ((a ++ [(x : Int)]) ++ ·) by
              rw [HG.out, show N - a.length = (N - (K + 1)) + 1 by rw [← HK.out]; omega]
              rw [listL, if_neg hz, if_neg (by omega)]
              cases listL key link N (N - (K + 1)) (link x) with
              | none => rfl
              | some r => simp)
            clear hlx
            go_wp2_with (at_builtin; refine wpList_appendI (HO.out.below ((Below.refl _ _).alloc (Nat.le_refl _) _)) (by have := HB.out.size; simp; omega) (x : Int) wr.heap.size (cell_of_row _ _ 0 _ _ _ (heap_new _ _ _ rfl)) (by rw [← HK.out]; omega) rfl _ _ rfl (by show _ = Value.slice ao a.length ca; rw [← HK.out]; rfl) rfl ?_; intro v5 w5 hown5 hgrow5; have hB5 : Below w.heap.size w w5 := (HB.out.alloc HB.out.size _).grown hgrow5 (by have := HB.out.size; simp; omega) (fun k hk => own_ge HO.out hk); have hl5 := HLX.out _ hB5; obtain ⟨ao5, c5, rfl, -⟩ := hown5.slice)
            go_roundw
            case rel => exact ⟨link x, a ++ [(x : Int)], rfl, by rw [List.length_append, ← HK.out]; simp; omega, (by have h := hown5; rw [show (a ++ [(x : Int)]).length = a.length + 1 by simp] at h; exact h), hB5, by rw [HST.out, List.length_append, ← HK.out]; rfl⟩
            case measure => have := HK.out; simp; omega
end Go.Proofs.YtkioddgolmaaeaaGreatDoor
