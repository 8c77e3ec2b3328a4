/-
  quash/quashref17.Do: every call with at most 2^44 balances. No condition.
-/
import Derived.Test.YtcobmefgefkdmaaGreatDoorBankRef
namespace Go.Proofs.YtcobmefgefkdmaaGreatDoor
open Go.RowKit
set_option maxRecDepth 100000

theorem Bal.of_cells {w : World} {g B : Nat} {zs : List Int} (h : w.heap[g]? = some (.cells (i64s zs).toArray 2 (0, 0))) (hB : B ≤ g) (hl : zs.length ≤ maxLen) : Bal w B g zs.length zs :=
  ⟨by simp [i64s], .inr ⟨g, zs.length, _, rfl, hB, h, Nat.le_refl _, hl, by simp [i64s], List.take_of_length_le (by simp [i64s])⟩⟩
theorem Sees.one {w : World} {g : Nat} {v : Int} {t : TypeId} (h : w.heap[g]? = some (.cells #[.int .i64 v] t)) : Sees w (some ⟨g, 0, none⟩) [v] := Sees.cells fun j hj => by
  have e : j = 0 := by simpa using hj
  subst e
  exact cell_of_row _ _ 0 _ _ _ h
theorem sumZ_take : ∀ (zs : List Int) (j : Nat) (z s : Int), zs[j]? = some z → sumZ (zs.take (j + 1)) s = wrap64 (sumZ (zs.take j) s + z)
  | [], _, _, _, h => by simp at h
  | y :: r, 0, z, s, h => by
    simp at h
    subst h
    simp [sumZ]
  | y :: r, j + 1, z, s, h => by
    have ih := sumZ_take r j z (wrap64 (s + y)) (by simpa using h)
    simpa [sumZ] using ih
def RefDoes (zs : List Int) (n op a b x y : Int) (w : World) (e : Ending) (w' : World) : Prop :=
  if doOk zs n op a b x y then
    ∃ g h, e = .returned (.tuple #[.slice (some ⟨g, 0, none⟩) zs.length zs.length, .slice (some ⟨h, 0, none⟩) 1 1, .bool true]) ∧ Sees w' (some ⟨g, 0, none⟩) (deedS zs op a b x).1 ∧ Sees w' (some ⟨h, 0, none⟩) [(deedS zs op a b x).2] ∧ Below w.heap.size w w'
  else e = .returned (.tuple #[.slice none 0 0, .slice none 0 0, .bool false]) ∧ Below w.heap.size w w'
/-- the deed's box, the balances made, and what was there -/
def Held (B g cap n0 : Nat) (zs : List Int) (op a b x y : Int) (w W : World) : Prop :=
  W.heap[n0]? = some (.cells #[.int .i64 op, .int .i64 a, .int .i64 b, .int .i64 x, .int .i64 y] 25) ∧ Bal W B g cap zs ∧ Below B w W ∧ g ≠ n0
theorem Held.cells {w : World} {B g cap n0 : Nat} {zs : List Int} {op a b x y : Int} {W : World} (h : Held B g cap n0 zs op a b x y w W) : W.cell? ⟨n0, 0, none⟩ = some (.int .i64 op) ∧ W.cell? ⟨n0, 1, none⟩ = some (.int .i64 a) ∧ W.cell? ⟨n0, 2, none⟩ = some (.int .i64 b) ∧ W.cell? ⟨n0, 3, none⟩ = some (.int .i64 x) ∧ W.cell? ⟨n0, 4, none⟩ = some (.int .i64 y) :=
  ⟨cell_of_row _ _ 0 _ _ _ h.1, cell_of_row _ _ 1 _ _ _ h.1, cell_of_row _ _ 2 _ _ _ h.1, cell_of_row _ _ 3 _ _ _ h.1, cell_of_row _ _ 4 _ _ _ h.1⟩
theorem Held.set {w : World} {B g cap n0 : Nat} {zs : List Int} {op a b x y : Int} {W : World} (h : Held B g cap n0 zs op a b x y w W) (k : Nat) (z : Int) : Held B g cap n0 (zs.set k z) op a b x y w (W.setCell ⟨g, k, none⟩ (.int .i64 z)).drew :=
  ⟨(heap_setCell_other _ _ _ _ (fun e => h.2.2.2 e.symm)).trans h.1, h.2.1.set k z, (show Below B w (W.setCell ⟨g, k, none⟩ (.int .i64 z)).drew from (fun h => ⟨h.os, h.tape, h.output, h.size, h.block⟩) (h.2.2.1.setCell (p := ⟨g, k, none⟩) h.2.1.lt.2 (.int .i64 z))), h.2.2.2⟩
theorem Held.drew {w : World} {B g cap n0 : Nat} {zs : List Int} {op a b x y : Int} {W : World} (h : Held B g cap n0 zs op a b x y w W) : Held B g cap n0 zs op a b x y w W.drew :=
  ⟨h.1, h.2.1, ⟨h.2.2.1.os, h.2.2.1.tape, h.2.2.1.output, h.2.2.1.size, h.2.2.1.block⟩, h.2.2.2⟩
theorem Bal.sees {w : World} {B g cap : Nat} {zs : List Int} (h : Bal w B g cap zs) : Sees w (some ⟨g, 0, none⟩) zs := Sees.of_own h
theorem refDo_no (ao : Option Addr) (c : Nat) (zs : List Int) (n op a b x y : Int) (w : World) (hno : doOk zs n op a b x y = false) :
    Calls Tryz.prog 10 #[.slice ao zs.length c, .int .i64 n, deedV op a b x y] w (RefDoes zs n op a b x y w) := by
  have HD := Lib.hid hno
  by_cases h0 : roomI n = 0
  · have HR := Lib.hid h0
    clear hno h0
    unfold deedV
    go_enter Tryz.func10, Tryz.ntmps10
    go_wp2_with (first
      | (go_at_call 18; go_must (refine (May_any n op a b x y _).mono ?_; rintro e w2 ⟨rfl, hb2⟩))
      | (go_at_call 15; go_must (refine (refRoom_any n _).mono ?_; rintro e w3 ⟨rfl, rfl⟩; rw [HR.out])))
    go_ret3
    unfold RefDoes
    rw [HD.out]
    exact ⟨rfl, ((Below.refl _ _).alloc (Nat.le_refl _) _).trans (hb2.mono (by simp))⟩
  have hn : roomI n = n ∧ 1 ≤ n := by unfold roomI at h0 ⊢; split at h0 <;> simp_all
  have HR := Lib.hid hn.1
  have hn0 : (n == 0) = false := by have := hn.2; simp; omega
  by_cases hl : (zs.length : Int) = n
  · have ho : ofB n op a b x y = false := by
      simp [doOk, h0, hl] at hno
      exact hno
    have HO := Lib.hid ho
    have hl2 : ((zs.length : Int) != n) = false := by simpa using hl
    clear hno h0 ho hl hn
    unfold deedV
    go_enter Tryz.func10, Tryz.ntmps10
    go_wp2_with (first
      | (go_at_call 18; go_must (refine (May_any n op a b x y _).mono ?_; rintro e w2 ⟨rfl, hb2⟩; rw [HO.out]))
      | (go_at_call 15; go_must (refine (refRoom_any n _).mono ?_; rintro e w3 ⟨rfl, rfl⟩; rw [HR.out])))
    go_ret3
    unfold RefDoes
    rw [HD.out]
    exact ⟨rfl, ((Below.refl _ _).alloc (Nat.le_refl _) _).trans (hb2.mono (by simp))⟩
  · have hl2 : ((zs.length : Int) != n) = true := by simpa using hl
    clear hno h0 hl hn
    unfold deedV
    go_enter Tryz.func10, Tryz.ntmps10
    go_wp2_with (first
      | (go_at_call 18; go_must (refine (May_any n op a b x y _).mono ?_; rintro e w2 ⟨rfl, hb2⟩))
      | (go_at_call 15; go_must (refine (refRoom_any n _).mono ?_; rintro e w3 ⟨rfl, rfl⟩; rw [HR.out])))
    go_ret3
    unfold RefDoes
    rw [HD.out]
    exact ⟨rfl, ((Below.refl _ _).alloc (Nat.le_refl _) _).trans (hb2.mono (by simp))⟩
theorem make64 (m : Nat) (h : m ≤ 64) (w : World) : (Instr.makeSlice 23 (.int .i64 m) (.int .i64 m)).run Tryz.prog w = .ok (.slice (some ⟨w.heap.size, 0, none⟩) m m) (w.alloc (.cells (madeCells #[.int .i64 0] m) 2)) := by
  obtain ⟨i0, hi, hz0, hz1, hz2⟩ := info_parts info64
  have h := run_makeSlice (w := w) (P := Tryz.prog) 23 2 i0 (.int .i64 0) Tryz.underlying23 hi hz0 .i64 .i64 m m (by omega) (Int.le_refl _) (by rw [hz1]; simp; omega) (by rw [hz2]; omega) (by omega)
  rw [h, hz1]
  simp [Value.cells]
theorem doOk_parts {zs : List Int} {n op a b x y : Int} (h : doOk zs n op a b x y = true) : roomI n = n ∧ 1 ≤ n ∧ n ≤ 64 ∧ (zs.length : Int) = n ∧ ofB n op a b x y = true ∧ (1 ≤ op ∧ op ≤ 5) ∧ 0 ≤ a ∧ a < n ∧ 0 ≤ b ∧ b < n ∧ y = 0 := by
  simp only [doOk, Bool.and_eq_true, decide_eq_true_eq] at h
  obtain ⟨⟨hr, hl⟩, ho⟩ := h
  have hn : roomI n = n ∧ 1 ≤ n ∧ n ≤ 64 := by unfold roomI at hr ⊢; split at hr <;> simp_all
  have hop := ofB_op ho
  have ho' := ho
  simp only [ofB, Bool.and_eq_true, decide_eq_true_eq] at ho'
  obtain ⟨⟨⟨⟨⟨⟨_, hy⟩, hra⟩, hrb⟩, _⟩, _⟩, _⟩ := ho'
  have ha : 0 ≤ a ∧ a < n := by
    unfold rightB at hra
    split at hra <;> simp at hra <;> omega
  have hb : 0 ≤ b ∧ b < n := by
    unfold rightB at hrb
    split at hrb <;> simp at hrb <;> omega
  exact ⟨hn.1, hn.2.1, hn.2.2, hl, ho, hop, ha.1, ha.2, hb.1, hb.2, hy⟩
theorem splice_whole {α : Type} (L cs : List α) (h : cs.length = L.length) : splice L 0 cs = cs := by
  unfold splice
  simp [h]
/-- what the copy of the balances is made of: their slice -/
def Src (w : World) (ao : Option Addr) (zs : List Int) : Prop := ∃ b o, ao = some ⟨b, o, none⟩ ∧ b < w.heap.size ∧ ∀ j, j < zs.length → w.cell? ⟨b, o + j, none⟩ = some (.int .i64 (zs.getD j 0))
set_option maxHeartbeats 2000000 in
theorem refDo_yes (b0 o0 : Nat) (c : Nat) (zs : List Int) (n op : Int) (k m : Nat) (x : Int) (w : World) (hc : ∀ j, j < zs.length → w.cell? ⟨b0, o0 + j, none⟩ = some (.int .i64 (zs.getD j 0))) (hb0 : b0 < w.heap.size) (hok : doOk zs n op k m x 0 = true) :
    Calls Tryz.prog 10 #[.slice (some ⟨b0, o0, none⟩) zs.length c, .int .i64 n, deedV op k m x 0] w (RefDoes zs n op k m x 0 w) := by
  have HD := Lib.hid hok
  obtain ⟨hr, h1, h64, hl, ho, hop, _, ha, _, hb, _⟩ := doOk_parts hok
  obtain ⟨N, rfl⟩ : ∃ N : Nat, n = N := ⟨n.toNat, by omega⟩
  have hl2 : (((zs.length : Nat) : Int) != (N : Int)) = false := by simpa using hl
  have hlN : zs.length = N := by omega
  have HR := Lib.hid hr
  have HO := Lib.hid ho
  have HC := Lib.hid hc
  have hn0 : ((N : Int) == 0) = false := by simp; omega
  have hkN : k < N := by omega
  have hmN : m < N := by omega
  obtain ⟨z, hz⟩ : ∃ z, zs[k]? = some z := ⟨_, List.getElem?_eq_getElem (by omega)⟩
  have HZ := Lib.hid hz
  have HLN := Lib.hid hlN
  have hmk := fun w => make64 N (by omega) w
  clear hok hr hl ho hc hz hlN ha hb
  unfold deedV
  go_enter Tryz.func10, Tryz.ntmps10
  go_upto_region 5 with (first
    | (go_at_call 18; go_must (refine (May_any N op k m x 0 _).mono ?_; rintro e w2 ⟨rfl, hb2⟩; rw [HO.out]))
    | (go_at_call 15; go_must (refine (refRoom_any N _).mono ?_; rintro e w3 ⟨rfl, rfl⟩; rw [HR.out])))
  refine wp_gen (fun W => W.heap[w.heap.size]? = some (.cells #[.int .i64 op, .int .i64 k, .int .i64 m, .int .i64 x, .int .i64 0] 25) ∧ W.heap[w3.heap.size]? = some (.cells (madeCells #[.int .i64 0] N) 2) ∧ Below w.heap.size w W) ⟨?_, heap_new _ _ _ rfl, ?_⟩ ?_
  · exact (Below.heap_alloc _ _ _ (by have := hb2.size; simp at this; omega)).trans ((hb2.block _ (by simp)).trans (heap_new _ _ _ rfl))
  · exact (((Below.refl _ _).alloc (Nat.le_refl _) _).trans (hb2.mono (by simp))).alloc (by have := hb2.size; simp at this; omega) _
  rintro W ⟨q0, q1, hB⟩
  clear hmk
  have hg : w.heap.size < w3.heap.size := by have := hb2.size; simp at this; omega
  obtain ⟨cs, hcs⟩ : ∃ cs, cs = zs.map (Value.int .i64) := ⟨_, rfl⟩
  have HCL := Lib.hid (show cs.length = N by rw [hcs]; simpa using HLN.out)
  have hsrc : ∀ j v, cs[j]? = some v → W.cell? ((⟨b0, o0, none⟩ : Addr).add j) = some v := fun j v hj => by
    rw [hcs, List.getElem?_map, Option.map_eq_some_iff] at hj
    obtain ⟨z', hj, rfl⟩ := hj
    have hjl := (List.getElem?_eq_some_iff.1 hj).1
    rw [Addr.add_lit]
    refine (hB.cell (p := ⟨b0, o0 + j, none⟩) hb0).trans ((HC.out j hjl).trans ?_)
    rw [List.getD_eq_getElem?_getD, hj]; rfl
  have h1c : ∀ v ∈ cs, v.oneCell' = true := fun v hv => by
    rw [hcs] at hv
    obtain ⟨_, _, rfl⟩ := List.mem_map.1 hv
    rfl
  have HCS := Lib.hid hcs
  have K1 := Lib.hid (show W.heap[w3.heap.size]? = some (.cells (madeCells #[.int .i64 0] N).toList.toArray 2 (0, 0)) by rw [Array.toArray_toList]; exact q1)
  have K2 := Lib.hid (show cs.length = Nat.min zs.length N by rw [HCL.out, HLN.out]; exact (Nat.min_self N).symm)
  have K3 := Lib.hid (show 0 < cs.length → some (⟨w3.heap.size, 0, none⟩ : Addr) = some ⟨w3.heap.size, 0, none⟩ ∧ ∃ ad, some (⟨b0, o0, none⟩ : Addr) = some ad ∧ ∀ j v, cs[j]? = some v → W.cell? (ad.add j) = some v from fun _ => ⟨rfl, _, rfl, hsrc⟩)
  have K4 := Lib.hid (show 0 + cs.length ≤ (madeCells #[.int .i64 0] N).toList.length by rw [HCL.out]; simp [size_madeCells])
  have H1C := Lib.hid h1c
  have HQ0 := Lib.hid q0
  have hge : w.heap.size ≤ w3.heap.size := by omega
  clear hcs hsrc h1c q0 q1
  go_upto_region 7 with (first
    | (with_reducible refine wpList_copy_splice (o := ⟨some 33, _, _, _, _, _⟩) rfl (.tmp 31) (.tmp 32) 23 23 rfl 2 Tryz.underlying23 (by kernel_rfl) (some ⟨w3.heap.size, 0, none⟩) (some ⟨b0, o0, none⟩) N N zs.length c rfl rfl w3.heap.size 0 (madeCells #[.int .i64 0] N).toList 2 K1.out cs K2.out K3.out K4.out H1C.out w3.heap.size W (Below.refl _ _) (Nat.le_refl _) ?_; intro w4 HG4 hB4))
  have hsp : splice (madeCells #[.int .i64 0] N).toList 0 cs = i64s zs := by
    rw [splice_whole _ _ (by rw [HCL.out]; simp [size_madeCells]), HCS.out]; rfl
  have g4 := HG4.out
  rw [hsp] at g4
  have hbal : Bal w4 w.heap.size w3.heap.size N zs := by
    have := Bal.of_cells g4 hge (by rw [HLN.out]; unfold maxLen; omega)
    rwa [HLN.out] at this
  refine wp_gen (fun V => Held w.heap.size w3.heap.size N w.heap.size zs op k m x 0 w V) ⟨(hB4.block _ hg).trans HQ0.out, hbal, hB.trans (hB4.mono hge), by omega⟩ ?_
  intro V hV
  clear hB4 HG4 g4 hsp hbal K1 K2 K3 K4 H1C HCS HCL HQ0 hB hb2
  have hkz := HZ.out
  have hz63 : (deedS zs op k m x).1.length = zs.length := deedS_length _ _ _ _ _
  have HLD := Lib.hid hz63
  clear hz63 hkz
  obtain ⟨c0, c1, c2, c3, c4⟩ := hV.cells
  have h0 := hV.2.1.cell k HZ.out
  have hf : V.frozen? ⟨w3.heap.size, k, none⟩ = false := hV.2.1.frozenAt k
  have hgd : zs.getD k 0 = z := by rw [List.getD_eq_getElem?_getD, HZ.out]; rfl
  have HGD := Lib.hid hgd
  clear hgd
  obtain ho | ho | ho | ho | ho : op = 1 ∨ op = 2 ∨ op = 3 ∨ op = 4 ∨ op = 5 := by omega
  · -- pay
    have HS := Lib.hid (show deedS zs op k m x = (zs.set k (wrap64 (z + x)), wrap64 (z + x)) by rw [ho]; unfold deedS; simp only [Int.toNat_natCast, HGD.out, if_true])
    have hset := Lib.hid (show (zs.set k (wrap64 (z + x)))[k]? = some (wrap64 (z + x)) by simp [HLN.out, hkN])
    have e1 : (op == 1) = true := by simp [ho]
    clear ho hop
    go_upto_region 9 with fail
    go_still_tail 9, (by kernel_rfl)
    go_upto_region 10 with fail
    refine wp_gen (fun W2 => Held w.heap.size w3.heap.size N w.heap.size (zs.set k (wrap64 (z + x))) op k m x 0 w W2) (hV.set k _) ?_
    intro W2 hW2
    clear c0 c1 c2 c3 c4 h0 hf
    obtain ⟨c0, c1, c2, c3, c4⟩ := hW2.cells
    have h0 := hW2.2.1.cell k hset.out
    go_wp2
    go_ret3
    unfold RefDoes
    rw [HD.out, if_pos rfl, HS.out, HLN.out]
    exact ⟨_, _, rfl, (hW2.2.1.below ((Below.refl _ _).alloc (Nat.le_refl _) _)).sees, Sees.one (heap_new _ _ _ rfl), hW2.2.2.1.alloc hW2.2.2.1.size _⟩
  · -- take
    have e1 : (op == 1) = false := by simp [ho]
    have e2 : (op == 2) = true := by simp [ho]
    have e3 : (op == 3) = false := by simp [ho]
    by_cases hlt : z < x
    · have HS := Lib.hid (show deedS zs op k m x = (zs, 0) by rw [ho]; unfold deedS; simp only [Int.toNat_natCast, HGD.out]; simp [takeZ, takeR, hlt])
      have hd : decide (x ≤ z) = false := by simp; omega
      have hnl : ¬ x ≤ z := by omega
      clear ho hop
      go_upto_region 13 with fail
      go_still (by kernel_rfl)
      go_upto_region 25 with fail
      refine wp_gen (fun W2 => Held w.heap.size w3.heap.size N w.heap.size zs op k m x 0 w W2) ⟨hV.1, hV.2.1, ⟨hV.2.2.1.os, hV.2.2.1.tape, hV.2.2.1.output, hV.2.2.1.size, hV.2.2.1.block⟩, hV.2.2.2⟩ ?_
      intro W2 hW2
      go_wp2
      go_ret3
      unfold RefDoes
      rw [HD.out, if_pos rfl, HS.out, HLN.out]
      exact ⟨_, _, rfl, (hW2.2.1.below ((Below.refl _ _).alloc (Nat.le_refl _) _)).sees, Sees.one (heap_new _ _ _ rfl), hW2.2.2.1.alloc hW2.2.2.1.size _⟩
    · have HS := Lib.hid (show deedS zs op k m x = (zs.set k (wrap64 (z - x)), 1) by rw [ho]; unfold deedS; simp only [Int.toNat_natCast, HGD.out]; simp [takeZ, takeR, hlt])
      have hd : decide (x ≤ z) = true := by simp; omega
      have hnl : x ≤ z := by omega
      clear ho hop hlt
      go_upto_region 13 with fail
      go_still (by kernel_rfl)
      go_upto_region 14 with fail
      refine wp_gen (fun W2 => Held w.heap.size w3.heap.size N w.heap.size zs op k m x 0 w W2) ⟨hV.1, hV.2.1, ⟨hV.2.2.1.os, hV.2.2.1.tape, hV.2.2.1.output, hV.2.2.1.size, hV.2.2.1.block⟩, hV.2.2.2⟩ ?_
      intro W2 hW2
      clear c0 c1 c2 c3 c4 h0 hf
      obtain ⟨c0, c1, c2, c3, c4⟩ := hW2.cells
      have h0 := hW2.2.1.cell k HZ.out
      have hf : W2.frozen? ⟨w3.heap.size, k, none⟩ = false := hW2.2.1.frozenAt k
      go_upto_region 15 with fail
      go_still_tail 9, (by kernel_rfl)
      go_upto_region 16 with fail
      refine wp_gen (fun W3 => Held w.heap.size w3.heap.size N w.heap.size (zs.set k (wrap64 (z - x))) op k m x 0 w W3) (hW2.set k _) ?_
      intro W3 hW3
      clear c0 c1 c2 c3 c4 h0 hf
      obtain ⟨c0, c1, c2, c3, c4⟩ := hW3.cells
      go_wp2
      go_ret3
      unfold RefDoes
      rw [HD.out, if_pos rfl, HS.out, HLN.out]
      exact ⟨_, _, rfl, (hW3.2.1.below ((Below.refl _ _).alloc (Nat.le_refl _) _)).sees, Sees.one (heap_new _ _ _ rfl), hW3.2.2.1.alloc hW3.2.2.1.size _⟩
  · -- move
    have e1 : (op == 1) = false := by simp [ho]
    have e2 : (op == 2) = false := by simp [ho]
    have e3 : (op == 3) = true := by simp [ho]
    by_cases hlt : z < x
    · have HS := Lib.hid (show deedS zs op k m x = (zs, 0) by rw [ho]; unfold deedS; simp only [Int.toNat_natCast, HGD.out]; simp [moveZ, takeR, hlt])
      have hd : decide (x ≤ z) = false := by simp; omega
      have hnl : ¬ x ≤ z := by omega
      clear ho hop
      go_upto_region 13 with fail
      go_still (by kernel_rfl)
      go_upto_region 25 with fail
      refine wp_gen (fun W2 => Held w.heap.size w3.heap.size N w.heap.size zs op k m x 0 w W2) ⟨hV.1, hV.2.1, ⟨hV.2.2.1.os, hV.2.2.1.tape, hV.2.2.1.output, hV.2.2.1.size, hV.2.2.1.block⟩, hV.2.2.2⟩ ?_
      intro W2 hW2
      go_wp2
      go_ret3
      unfold RefDoes
      rw [HD.out, if_pos rfl, HS.out, HLN.out]
      exact ⟨_, _, rfl, (hW2.2.1.below ((Below.refl _ _).alloc (Nat.le_refl _) _)).sees, Sees.one (heap_new _ _ _ rfl), hW2.2.2.1.alloc hW2.2.2.1.size _⟩
    · obtain ⟨z2, hz2⟩ : ∃ z2, (zs.set k (wrap64 (z - x)))[m]? = some z2 := ⟨_, List.getElem?_eq_getElem (by simp [HLN.out, hmN])⟩
      have hz2d : (zs.set k (wrap64 (z - x))).getD m 0 = z2 := by rw [List.getD_eq_getElem?_getD, hz2]; rfl
      have HS := Lib.hid (show deedS zs op k m x = ((zs.set k (wrap64 (z - x))).set m (wrap64 (z2 + x)), 1) by rw [ho]; unfold deedS; simp only [Int.toNat_natCast, HGD.out]; simp only [moveZ, takeR, if_neg hlt, hz2d]; simp)
      have HZ2 := Lib.hid hz2
      have hd : decide (x ≤ z) = true := by simp; omega
      have hnl : x ≤ z := by omega
      clear ho hop hlt hz2 hz2d
      go_upto_region 13 with fail
      go_still (by kernel_rfl)
      go_upto_region 14 with fail
      refine wp_gen (fun W2 => Held w.heap.size w3.heap.size N w.heap.size zs op k m x 0 w W2) ⟨hV.1, hV.2.1, ⟨hV.2.2.1.os, hV.2.2.1.tape, hV.2.2.1.output, hV.2.2.1.size, hV.2.2.1.block⟩, hV.2.2.2⟩ ?_
      intro W2 hW2
      clear c0 c1 c2 c3 c4 h0 hf
      obtain ⟨c0, c1, c2, c3, c4⟩ := hW2.cells
      have h0 := hW2.2.1.cell k HZ.out
      have hf : W2.frozen? ⟨w3.heap.size, k, none⟩ = false := hW2.2.1.frozenAt k
      go_upto_region 15 with fail
      go_still_tail 9, (by kernel_rfl)
      go_upto_region 16 with fail
      refine wp_gen (fun W3 => Held w.heap.size w3.heap.size N w.heap.size (zs.set k (wrap64 (z - x))) op k m x 0 w W3) (hW2.set k _) ?_
      intro W3 hW3
      clear c0 c1 c2 c3 c4 h0 hf
      obtain ⟨c0, c1, c2, c3, c4⟩ := hW3.cells
      have h0 := hW3.2.1.cell m HZ2.out
      have hf : W3.frozen? ⟨w3.heap.size, m, none⟩ = false := hW3.2.1.frozenAt m
      go_upto_region 17 with fail
      go_still_tail 9, (by kernel_rfl)
      go_upto_region 25 with fail
      refine wp_gen (fun W4 => Held w.heap.size w3.heap.size N w.heap.size ((zs.set k (wrap64 (z - x))).set m (wrap64 (z2 + x))) op k m x 0 w W4) (hW3.set m _) ?_
      intro W4 hW4
      clear c0 c1 c2 c3 c4 h0 hf
      go_wp2
      go_ret3
      unfold RefDoes
      rw [HD.out, if_pos rfl, HS.out, HLN.out]
      exact ⟨_, _, rfl, (hW4.2.1.below ((Below.refl _ _).alloc (Nat.le_refl _) _)).sees, Sees.one (heap_new _ _ _ rfl), hW4.2.2.1.alloc hW4.2.2.1.size _⟩
  · -- see
    have e1 : (op == 1) = false := by simp [ho]
    have e2 : (op == 2) = false := by simp [ho]
    have e3 : (op == 3) = false := by simp [ho]
    have e4 : (op == 4) = true := by simp [ho]
    have HS := Lib.hid (show deedS zs op k m x = (zs, z) by rw [ho]; unfold deedS; simp only [Int.toNat_natCast, HGD.out]; simp)
    clear ho hop
    go_wp2
    go_ret3
    unfold RefDoes
    rw [HD.out, if_pos rfl, HS.out, HLN.out]
    exact ⟨_, _, rfl, (hV.2.1.below ((Below.refl _ _).alloc (Nat.le_refl _) _)).sees, Sees.one (heap_new _ _ _ rfl), hV.2.2.1.alloc hV.2.2.1.size _⟩
  · -- sum
    have e1 : (op == 1) = false := by simp [ho]
    have e2 : (op == 2) = false := by simp [ho]
    have e3 : (op == 3) = false := by simp [ho]
    have e4 : (op == 4) = false := by simp [ho]
    have e5 : (op == 5) = true := by simp [ho]
    have HS := Lib.hid (show deedS zs op k m x = (zs, sumZ zs 0) by rw [ho]; unfold deedS; simp)
    clear ho hop c1 c2 c3 c4 h0 hf
    go_wp2
    go_loop [11, 12] (fun s i => ∃ j : Nat, j ≤ N ∧ i = .int .i64 j ∧ s = .int .i64 (sumZ (zs.take j) 0)) (fun _ i => N - (intOf i).toNat)
    case atStart => exact ⟨0, Nat.zero_le _, rfl, by simp [sumZ]⟩
    case round =>
      obtain ⟨j, hj, rfl, rfl⟩ := hrel
      by_cases hlt : j < N
      · obtain ⟨zj, hzj⟩ : ∃ zj, zs[j]? = some zj := ⟨_, List.getElem?_eq_getElem (show j < zs.length by rw [HLN.out]; exact hlt)⟩
        have hcj := hV.2.1.cell j hzj
        have HT := Lib.hid (sumZ_take zs j zj 0 hzj)
        clear hzj
        go_wp2
        go_round
        case rel => exact ⟨j + 1, by omega, by go_num, by rw [HT.out]⟩
        case measure => simp [intOf]; omega
      · obtain rfl : j = N := by omega
        have hs : sumZ (zs.take j) 0 = sumZ zs 0 := by rw [List.take_of_length_le (by rw [HLN.out]; exact Nat.le_refl _)]
        rw [hs]
        clear hs
        go_wp2
        go_ret3
        unfold RefDoes
        rw [HD.out, if_pos rfl, HS.out, HLN.out]
        exact ⟨_, _, rfl, (hV.2.1.below ((Below.refl _ _).alloc (Nat.le_refl _) _)).sees, Sees.one (heap_new _ _ _ rfl), hV.2.2.1.alloc hV.2.2.1.size _⟩
end Go.Proofs.YtcobmefgefkdmaaGreatDoor
