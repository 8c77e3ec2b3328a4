/-
  quash/bank.pay, take, move, see, sum: over balances in memory of the caller's own. No condition.
-/
import Derived.Test.YtcobmefgefkdmaaGreatDoorBankOf
import Derived.Test.YtcobmefgefkdmaaGreatDoorClone64
import Derived.StillTailTactics
namespace Go.Proofs.YtcobmefgefkdmaaGreatDoor
open Go.RowKit
set_option maxRecDepth 100000

def i64s (zs : List Int) : List Value := zs.map (Value.int .i64)
theorem i64s_at (zs : List Int) (k : Nat) {z : Int} (h : zs[k]? = some z) : (i64s zs)[k]? = some (.int .i64 z) := by
  simp [i64s, h]
theorem i64s_set (zs : List Int) (k : Nat) (z : Int) : (i64s zs).set k (.int .i64 z) = i64s (zs.set k z) := by simp [i64s, List.map_set]
/-- balances in memory of the call's own -/
def Bal (w : World) (B g cap : Nat) (zs : List Int) : Prop := w.ownsRow B 2 1 (.slice (some ⟨g, 0, none⟩) zs.length cap) zs.length (i64s zs)
def balV (g cap : Nat) (zs : List Int) : Value := .slice (some ⟨g, 0, none⟩) zs.length cap
def DeedDoes (B g cap : Nat) (zs : List Int) (r : Int) (w : World) (e : Ending) (w' : World) : Prop :=
  e = .returned (.int .i64 r) ∧ Bal w' B g cap zs ∧ Below B w w' ∧ w.heap.size ≤ w'.heap.size ∧ ∀ x, x < w.heap.size → x ≠ g → w'.heap[x]? = w.heap[x]?
section
variable {w : World} {B g cap : Nat} {zs : List Int}
theorem Bal.lt (h : Bal w B g cap zs) : g < w.heap.size ∧ B ≤ g := by
  obtain ⟨cur, hc⟩ := own_block h rfl
  exact ⟨lt_of_block hc, own_ge h rfl⟩
theorem Bal.cell (h : Bal w B g cap zs) (k : Nat) {z : Int} (hk : zs[k]? = some z) : w.cell? ⟨g, k, none⟩ = some (.int .i64 z) :=
  (h.cellAt k (by have := (List.getElem?_eq_some_iff.1 hk).1; omega)).trans (i64s_at zs k hk)
theorem Bal.below {w' : World} (h : Bal w B g cap zs) (hb : Below w.heap.size w w') : Bal w' B g cap zs :=
  ownsRow_at h (fun g hg => by obtain ⟨_, hc⟩ := own_block h hg; exact hb.block _ (lt_of_block hc))
theorem Bal.set (h : Bal w B g cap zs) (k : Nat) (z : Int) : Bal (w.setCell ⟨g, k, none⟩ (.int .i64 z)) B g cap (zs.set k z) := by
  obtain ⟨h1, _⟩ := World.ownsRow.stored h k (.int .i64 z)
  unfold Bal
  rw [i64s_set] at h1
  rw [List.length_set]
  exact h1
/-- the deed's box, the balances, and that nothing else of the caller's moved -/
def Boxed (B g cap n0 : Nat) (zs : List Int) (op a b x y : Int) (w W : World) : Prop :=
  W.heap[n0]? = some (.cells #[.int .i64 op, .int .i64 a, .int .i64 b, .int .i64 x, .int .i64 y] 25) ∧ Bal W B g cap zs ∧ Below B w W ∧ w.heap.size ≤ W.heap.size ∧ g < n0 ∧ ∀ x, x < w.heap.size → x ≠ g → W.heap[x]? = w.heap[x]?
theorem boxed (h : Bal w B g cap zs) (op a b x y : Int) : Boxed B g cap w.heap.size zs op a b x y w (w.alloc (.cells #[.int .i64 op, .int .i64 a, .int .i64 b, .int .i64 x, .int .i64 y] 25)) :=
  ⟨heap_new _ _ _ rfl, h.below ((Below.refl _ _).alloc (Nat.le_refl _) _), (Below.refl _ _).alloc (by have := h.lt; omega) _, by simp, h.lt.1, fun x hx _ => Below.heap_alloc _ _ _ hx⟩
theorem Boxed.cells {n0 : Nat} {op a b x y : Int} {W : World} (h : Boxed B g cap n0 zs op a b x y w W) : W.cell? ⟨n0, 0, none⟩ = some (.int .i64 op) ∧ W.cell? ⟨n0, 1, none⟩ = some (.int .i64 a) ∧ W.cell? ⟨n0, 2, none⟩ = some (.int .i64 b) ∧ W.cell? ⟨n0, 3, none⟩ = some (.int .i64 x) ∧ W.cell? ⟨n0, 4, none⟩ = some (.int .i64 y) :=
  ⟨cell_of_row _ _ 0 _ _ _ h.1, cell_of_row _ _ 1 _ _ _ h.1, cell_of_row _ _ 2 _ _ _ h.1, cell_of_row _ _ 3 _ _ _ h.1, cell_of_row _ _ 4 _ _ _ h.1⟩
theorem Boxed.set {n0 : Nat} {op a b x y : Int} {W : World} (h : Boxed B g cap n0 zs op a b x y w W) (k : Nat) (z : Int) : Boxed B g cap n0 (zs.set k z) op a b x y w (W.setCell ⟨g, k, none⟩ (.int .i64 z)).drew :=
  ⟨(heap_setCell_other _ _ _ _ (by show n0 ≠ g; have := h.2.2.2.2.1; omega)).trans h.1, h.2.1.set k z, (show Below B w (W.setCell ⟨g, k, none⟩ (.int .i64 z)).drew from (fun h => ⟨h.os, h.tape, h.output, h.size, h.block⟩) (h.2.2.1.setCell (p := ⟨g, k, none⟩) h.2.1.lt.2 (.int .i64 z))), by simp; exact h.2.2.2.1, h.2.2.2.2.1, fun x hx hn => (heap_setCell_other _ _ _ _ hn).trans (h.2.2.2.2.2 x hx hn)⟩
theorem see_any (h : Bal w B g cap zs) (k : Nat) {z : Int} (hz : zs[k]? = some z) (op b x y : Int) :
    Calls Tryz.prog 37 #[balV g cap zs, deedV op k b x y] w (DeedDoes B g cap zs z w) := by
  have hk := (List.getElem?_eq_some_iff.1 hz).1
  have h0 := h.cell k hz
  have hl := h.lt
  clear hz
  unfold deedV balV
  go_enter Tryz.func37, Tryz.ntmps37
  go_wp2
  go_ret
  exact ⟨rfl, h.below ((Below.refl _ _).alloc (Nat.le_refl _) _), (Below.refl _ _).alloc (by omega) _, by simp, fun x hx _ => Below.heap_alloc _ _ _ hx⟩
theorem pay_any (h : Bal w B g cap zs) (k : Nat) {z : Int} (hz : zs[k]? = some z) (op b x y : Int) :
    Calls Tryz.prog 30 #[balV g cap zs, deedV op k b x y] w (DeedDoes B g cap (zs.set k (wrap64 (z + x))) (wrap64 (z + x)) w) := by
  have hk := (List.getElem?_eq_some_iff.1 hz).1
  have hset : (zs.set k (wrap64 (z + x)))[k]? = some (wrap64 (z + x)) := by simp [hk]
  have HS := Lib.hid hset
  clear hset
  unfold deedV balV
  go_enter Tryz.func30, Tryz.ntmps30
  go_upto_region 1 with fail
  refine wp_gen (fun W => Boxed B g cap w.heap.size zs op k b x y w W) (boxed h op k b x y) ?_
  intro W hW
  obtain ⟨c0, c1, c2, c3, c4⟩ := hW.cells
  have h0 := hW.2.1.cell k hz
  have hf : W.frozen? ⟨g, k, none⟩ = false := hW.2.1.frozenAt k
  clear hz
  go_still_tail 9, (by kernel_rfl)
  go_upto_region 2 with fail
  refine wp_gen (fun W2 => Boxed B g cap w.heap.size (zs.set k (wrap64 (z + x))) op k b x y w W2) (hW.set k _) ?_
  intro W2 hW2
  clear c0 c1 c2 c3 c4 h0 hf
  obtain ⟨c0, c1, c2, c3, c4⟩ := hW2.cells
  have h0 := hW2.2.1.cell k HS.out
  go_wp2
  go_ret
  exact ⟨rfl, hW2.2.1, hW2.2.2.1, hW2.2.2.2.1, hW2.2.2.2.2.2⟩
def takeZ (zs : List Int) (k : Nat) (z x : Int) : List Int := if z < x then zs else zs.set k (wrap64 (z - x))
def takeR (z x : Int) : Int := if z < x then 0 else 1
theorem take_any (h : Bal w B g cap zs) (k : Nat) {z : Int} (hz : zs[k]? = some z) (op b x y : Int) :
    Calls Tryz.prog 33 #[balV g cap zs, deedV op k b x y] w (DeedDoes B g cap (takeZ zs k z x) (takeR z x) w) := by
  have hk := (List.getElem?_eq_some_iff.1 hz).1
  unfold deedV balV
  by_cases hlt : z < x
  · have e1 : takeZ zs k z x = zs := by rw [takeZ, if_pos hlt]
    have e2 : takeR z x = 0 := by rw [takeR, if_pos hlt]
    rw [e1, e2]
    clear e1 e2
    go_enter Tryz.func33, Tryz.ntmps33
    go_upto_region 1 with fail
    refine wp_gen (fun W => Boxed B g cap w.heap.size zs op k b x y w W) (boxed h op k b x y) ?_
    intro W hW
    obtain ⟨c0, c1, c2, c3, c4⟩ := hW.cells
    have h0 := hW.2.1.cell k hz
    clear hz
    go_still (by kernel_rfl)
    go_upto_region 2 with fail
    refine wp_gen (fun W2 => Boxed B g cap w.heap.size zs op k b x y w W2) ⟨hW.1, hW.2.1, ⟨hW.2.2.1.os, hW.2.2.1.tape, hW.2.2.1.output, hW.2.2.1.size, hW.2.2.1.block⟩, hW.2.2.2⟩ ?_
    intro W2 hW2
    go_wp2
    go_ret
    exact ⟨rfl, hW2.2.1, hW2.2.2.1, hW2.2.2.2.1, hW2.2.2.2.2.2⟩
  · have e1 : takeZ zs k z x = zs.set k (wrap64 (z - x)) := by rw [takeZ, if_neg hlt]
    have e2 : takeR z x = 1 := by rw [takeR, if_neg hlt]
    rw [e1, e2]
    clear e1 e2
    go_enter Tryz.func33, Tryz.ntmps33
    go_upto_region 1 with fail
    refine wp_gen (fun W => Boxed B g cap w.heap.size zs op k b x y w W) (boxed h op k b x y) ?_
    intro W hW
    obtain ⟨c0, c1, c2, c3, c4⟩ := hW.cells
    have h0 := hW.2.1.cell k hz
    have HZ := Lib.hid hz
    clear hz
    go_still (by kernel_rfl)
    go_upto_region 3 with fail
    refine wp_gen (fun W2 => Boxed B g cap w.heap.size zs op k b x y w W2) ⟨hW.1, hW.2.1, ⟨hW.2.2.1.os, hW.2.2.1.tape, hW.2.2.1.output, hW.2.2.1.size, hW.2.2.1.block⟩, hW.2.2.2⟩ ?_
    intro W2 hW2
    clear c0 c1 c2 c3 c4 h0
    obtain ⟨c0, c1, c2, c3, c4⟩ := hW2.cells
    have h0 := hW2.2.1.cell k HZ.out
    have hf : W2.frozen? ⟨g, k, none⟩ = false := hW2.2.1.frozenAt k
    go_still_tail 9, (by kernel_rfl)
    go_upto_region 4 with fail
    refine wp_gen (fun W3 => Boxed B g cap w.heap.size (zs.set k (wrap64 (z - x))) op k b x y w W3) (hW2.set k _) ?_
    intro W3 hW3
    go_wp2
    go_ret
    exact ⟨rfl, hW3.2.1, hW3.2.2.1, hW3.2.2.2.1, hW3.2.2.2.2.2⟩
def moveZ (zs : List Int) (k m : Nat) (z x : Int) : List Int := if z < x then zs else (zs.set k (wrap64 (z - x))).set m (wrap64 ((zs.set k (wrap64 (z - x))).getD m 0 + x))
theorem move_any (h : Bal w B g cap zs) (k m : Nat) {z : Int} (hz : zs[k]? = some z) (hm : m < zs.length) (op x y : Int) :
    Calls Tryz.prog 35 #[balV g cap zs, deedV op k m x y] w (DeedDoes B g cap (moveZ zs k m z x) (takeR z x) w) := by
  have hk := (List.getElem?_eq_some_iff.1 hz).1
  by_cases hlt : z < x
  · have e1 : moveZ zs k m z x = zs := by rw [moveZ, if_pos hlt]
    have e2 : takeR z x = 0 := by rw [takeR, if_pos hlt]
    have e3 : takeZ zs k z x = zs := by rw [takeZ, if_pos hlt]
    rw [e1, e2]
    have E2 := Lib.hid e2
    have E3 := Lib.hid e3
    clear e1 e2 e3
    unfold deedV balV
    go_enter Tryz.func35, Tryz.ntmps35
    go_upto_region 1 with fail
    refine wp_gen (fun W => Boxed B g cap w.heap.size zs op k m x y w W) (boxed h op k m x y) ?_
    intro W hW
    obtain ⟨c0, c1, c2, c3, c4⟩ := hW.cells
    go_wp2_with (first | (go_at_call 33; go_must (refine (take_any hW.2.1 k hz op m x y).mono ?_; rintro e w2 ⟨rfl, hb2, hB2, hz2, hk2⟩; rw [E2.out])))
    go_ret
    have hb2' := (E3.out ▸ hb2 : Bal w2 B g cap zs)
    exact ⟨rfl, hb2', hW.2.2.1.trans hB2, Nat.le_trans hW.2.2.2.1 hz2, fun x hx hn => (hk2 x (Nat.lt_of_lt_of_le hx hW.2.2.2.1) hn).trans (hW.2.2.2.2.2 x hx hn)⟩
  · have e1 : moveZ zs k m z x = (zs.set k (wrap64 (z - x))).set m (wrap64 ((zs.set k (wrap64 (z - x))).getD m 0 + x)) := by rw [moveZ, if_neg hlt]
    have e2 : takeR z x = 1 := by rw [takeR, if_neg hlt]
    have e3 : takeZ zs k z x = zs.set k (wrap64 (z - x)) := by rw [takeZ, if_neg hlt]
    rw [e1, e2]
    obtain ⟨z2, hz2⟩ : ∃ z2, (zs.set k (wrap64 (z - x)))[m]? = some z2 := ⟨_, List.getElem?_eq_getElem (by simpa using hm)⟩
    rw [show (zs.set k (wrap64 (z - x))).getD m 0 = z2 by rw [List.getD_eq_getElem?_getD, hz2]; rfl]
    have E2 := Lib.hid e2
    have E3 := Lib.hid e3
    have HZ2 := Lib.hid hz2
    have HLN := Lib.hid (show (zs.set k (wrap64 (z - x))).length = zs.length by simp)
    clear e1 e2 e3 hz2
    unfold deedV balV
    go_enter Tryz.func35, Tryz.ntmps35
    go_upto_region 1 with fail
    refine wp_gen (fun W => Boxed B g cap w.heap.size zs op k m x y w W) (boxed h op k m x y) ?_
    intro W hW
    obtain ⟨c0, c1, c2, c3, c4⟩ := hW.cells
    go_upto_region 3 with (first | (go_at_call 33; go_must (refine (take_any hW.2.1 k hz op m x y).mono ?_; rintro e w2 ⟨rfl, hb2, hB2, hz2, hk2⟩; rw [E2.out])))
    rw [E3.out] at hb2
    have hW2 : Boxed B g cap w.heap.size (zs.set k (wrap64 (z - x))) op k m x y w w2 :=
      ⟨(hk2 _ (lt_of_block hW.1) (by have := hW.2.2.2.2.1; omega)).trans hW.1, hb2, hW.2.2.1.trans hB2, Nat.le_trans hW.2.2.2.1 hz2, hW.2.2.2.2.1, fun x hx hn => (hk2 x (Nat.lt_of_lt_of_le hx hW.2.2.2.1) hn).trans (hW.2.2.2.2.2 x hx hn)⟩
    clear c0 c1 c2 c3 c4 hb2 hk2
    obtain ⟨c0, c1, c2, c3, c4⟩ := hW2.cells
    have h0 := hW2.2.1.cell m HZ2.out
    have hf : w2.frozen? ⟨g, m, none⟩ = false := hW2.2.1.frozenAt m
    go_still_tail 9, (by kernel_rfl)
    go_upto_region 4 with fail
    refine wp_gen (fun W3 => Boxed B g cap w.heap.size ((zs.set k (wrap64 (z - x))).set m (wrap64 (z2 + x))) op k m x y w W3) (hW2.set m _) ?_
    intro W3 hW3
    go_wp2
    go_ret
    exact ⟨rfl, hW3.2.1, hW3.2.2.1, hW3.2.2.2.1, hW3.2.2.2.2.2⟩
def sumZ : List Int → Int → Int
  | [], s => s
  | z :: r, s => sumZ r (wrap64 (s + z))
theorem sum_any (h : Bal w B g cap zs) (op a b x y : Int) (hlen : zs.length ≤ 100000) :
    Calls Tryz.prog 39 #[balV g cap zs, deedV op a b x y] w (DeedDoes B g cap zs (sumZ zs 0) w) := by
  unfold deedV balV
  go_enter Tryz.func39, Tryz.ntmps39
  go_upto_region 1 with fail
  refine wp_gen (fun W => Boxed B g cap w.heap.size zs op a b x y w W) (boxed h op a b x y) ?_
  intro W hW
  go_wp2
  go_loopw [5, 10] (fun u v wr => ∃ (k : Nat) (s : Int), k ≤ zs.length ∧ v = .int .i64 k ∧ u = .int .i64 s ∧ wr = W ∧ sumZ (zs.drop k) s = sumZ zs 0) (fun _ v _ => zs.length - (intOf v).toNat)
  case atStart => exact ⟨0, 0, Nat.zero_le _, rfl, rfl, rfl, rfl⟩
  case round =>
    obtain ⟨k, s, hk, rfl, rfl, rfl, hs⟩ := hrel
    have HS := Lib.hid hs
    clear hs
    by_cases hlt : k < zs.length
    · obtain ⟨z, hz⟩ : ∃ z, zs[k]? = some z := ⟨_, List.getElem?_eq_getElem hlt⟩
      have h0 := hW.2.1.cell k hz
      have HZ := Lib.hid hz
      clear hz
      go_wp2
      go_roundw
      case rel =>
        refine ⟨k + 1, _, by omega, by go_num, by first | rfl | trivial, by first | trivial | rfl, ?_⟩
        have e := HS.out
        have hd : zs.drop k = z :: zs.drop (k + 1) := by
          rw [List.drop_eq_getElem_cons hlt]
          have := HZ.out
          rw [List.getElem?_eq_getElem hlt] at this
          injection this with this
          rw [this]
        rw [hd] at e
        exact e
      case measure => simp [intOf]; omega
    · obtain rfl : k = zs.length := by omega
      go_wp2
      go_ret
      have e := HS.out
      rw [List.drop_length] at e
      exact ⟨by rw [← e]; rfl, hW.2.1, hW.2.2.1, hW.2.2.2.1, hW.2.2.2.2.2⟩
end
end Go.Proofs.YtcobmefgefkdmaaGreatDoor
