/-
  quash/quashref18.Read: every call over a slice that reads as a list. No condition.
-/
import Derived.Test.YtkioddgolmaaeaaGreatDoorSetRefList
namespace Go.Proofs.YtkioddgolmaaeaaGreatDoor
open Go.RowKit
set_option maxRecDepth 100000

def RefKeys (D : List Int) (code : Int) (w : World) (e : Ending) (w' : World) : Prop :=
  ∃ ao c, e = .returned (.tuple #[.slice ao D.length c, .int .i64 code]) ∧ Sees w' ao D ∧ Below w.heap.size w w'
def RefZ (r : Option (List Int)) (w : World) (e : Ending) (w' : World) : Prop :=
  match r with
  | some l => RefKeys l 0 w e w'
  | none => RefKeys [] 181 w e w'
theorem refZ_none {r : Option (List Int)} (hr : r = none) {w w' : World} (h2 : Below w.heap.size w w') : RefZ r w (.returned (.tuple #[.slice none 0 0, .int .i64 181])) w' := by
  rw [hr]; exact ⟨none, 0, rfl, Sees.nil _ _, h2⟩
theorem refZ_some {r : Option (List Int)} {l : List Int} {n c : Nat} {ao : Option Addr} (hr : r = some l) (hn : l.length = n) {w w' : World} (h1 : Sees w' ao l) (h2 : Below w.heap.size w w') : RefZ r w (.returned (.tuple #[.slice ao n c, .int .i64 0])) w' := by
  subst hn
  rw [hr]; exact ⟨ao, c, rfl, h1, h2⟩
theorem Own.sees2 {w : World} {B n c : Nat} {ao : Option Addr} {zs : List Int} (h : Own w B (.slice ao n c) zs) : Sees w ao zs := by
  rcases h.form with ⟨_, rfl⟩ | ⟨g, cap, h1, h2⟩
  · exact Sees.nil _ _
  · injection h1 with h3 _ _
    subst h3
    exact h2.sees
theorem infoBoolS : (Tryz.prog.info? 4).map (fun i => (i.zero, i.size, i.bytes)) = some (some (.bool false), 1, 1) := by kernel_rfl
theorem makeBoolsS (m : Nat) (h : m ≤ 1000000) (w : World) : (Instr.makeSlice 60 (.int .i64 m) (.int .i64 m)).run Tryz.prog w = .ok (.slice (some ⟨w.heap.size, 0, none⟩) m m) (w.alloc (.cells (madeCells #[.bool false] m) 4)) := by
  obtain ⟨i0, hi, hz0, hz1, hz2⟩ := info_parts infoBoolS
  have h := run_makeSlice (w := w) (P := Tryz.prog) 60 4 i0 (.bool false) Tryz.underlying60 hi hz0 .i64 .i64 m m (by omega) (Int.le_refl _) (by rw [hz1]; simp; omega) (by rw [hz2]; omega) (by omega)
  rw [h, hz1]
  simp [Value.cells]
/-- which nodes were seen -/
def boolV (N : Nat) (s : List Int) : Array Value := ((List.range (N + 1)).map fun (j : Nat) => Value.bool (decide ((j : Int) ∈ s))).toArray
theorem boolV_nil (N : Nat) : madeCells #[.bool false] (N + 1) = boolV N [] := by
  apply Array.toList_inj.1
  rw [toList_madeCells_one]
  simp [boolV, List.map_const']
theorem boolV_at (N : Nat) (s : List Int) (x : Nat) (h : x ≤ N) : (boolV N s)[x]? = some (.bool (decide ((x : Int) ∈ s))) := by
  have : x < (List.range (N + 1)).length := by simp; omega
  simp [boolV, List.getElem?_eq_getElem this]
theorem boolV_set (N : Nat) (s : List Int) (x : Nat) : (boolV N s).setIfInBounds x (.bool true) = boolV N (s ++ [(x : Int)]) := by
  apply Array.ext_getElem?
  intro i
  by_cases hi : i ≤ N
  · rw [boolV_at _ _ _ hi, Array.getElem?_setIfInBounds]
    by_cases e : x = i
    · subst e
      have : x < (boolV N s).size := by simp [boolV]; omega
      simp [this]
    · have : ¬ (i : Int) = (x : Int) := by omega
      rw [if_neg e, boolV_at _ _ _ hi]
      simp [this]
  · rw [Array.getElem?_eq_none (by simp [boolV]; omega), Array.getElem?_eq_none (by simp [boolV]; omega)]
theorem nodup_snoc {l : List Int} {x : Int} : (l ++ [x]).Nodup ↔ l.Nodup ∧ x ∉ l := by
  rw [List.nodup_append]
  constructor
  · rintro ⟨h1, _, h3⟩
    exact ⟨h1, fun h => h3 x h x (by simp) rfl⟩
  · rintro ⟨h1, h2⟩
    exact ⟨h1, by simp, fun a ha b hb e => by
      have hb2 : b = x := by simpa using hb
      exact h2 (by rw [← hb2, ← e]; exact ha)⟩
set_option maxHeartbeats 1000000 in
theorem refRead_nofit (ao : Option Addr) (c : Nat) (zs : List Int) (base n : Int) (w : World) (_hlen : zs.length ≤ maxLen) (hno : fitB zs base n = false) :
    Calls Tryz.prog 12 #[.slice ao zs.length c, .int .i64 base, .int .i64 n] w (RefKeys [] 180 w) := by
  unfold maxLen at _hlen
  by_cases h0 : roomI n = 0
  · have HR := Lib.hid h0
    clear hno h0
    go_enter Tryz.func12, Tryz.ntmps12
    go_wp2_with (go_at_call 14; go_must (refine (refRoom_any n _).mono ?_; rintro e w3 ⟨rfl, rfl⟩; rw [HR.out]))
    go_ret2
    exact ⟨_, _, rfl, Sees.nil _ _, Below.refl _ _⟩
  have hn := roomI_yes h0
  have HR := Lib.hid hn.1
  have hn0 : (3 + 2 * n == 0) = false := by have := hn.2; simp; omega
  have hno' : ¬ (0 ≤ base ∧ base + (3 + 2 * n) ≤ zs.length) := by
    simp [fitB, hn.1] at hno
    intro h
    have := hno (by omega) h.1
    omega
  have hn1 := hn.2.1
  have hn2 := hn.2.2
  clear hno h0 hn
  by_cases h1 : base < 0
  · clear hno'
    go_enter Tryz.func12, Tryz.ntmps12
    go_wp2_with (go_at_call 14; go_must (refine (refRoom_any n _).mono ?_; rintro e w3 ⟨rfl, rfl⟩; rw [HR.out]))
    go_ret2
    exact ⟨_, _, rfl, Sees.nil _ _, Below.refl _ _⟩
  · by_cases h2 : (zs.length : Int) < base
    · clear hno'
      have h1' : ¬ base < 0 := h1
      go_enter Tryz.func12, Tryz.ntmps12
      go_wp2_with (go_at_call 14; go_must (refine (refRoom_any n _).mono ?_; rintro e w3 ⟨rfl, rfl⟩; rw [HR.out]))
      go_ret2
      exact ⟨_, _, rfl, Sees.nil _ _, Below.refl _ _⟩
    · have h3 : (zs.length : Int) - base < 3 + 2 * n := by omega
      have h4 : 0 ≤ base := by omega
      have h5 : base ≤ zs.length := by omega
      clear hno'
      go_enter Tryz.func12, Tryz.ntmps12
      go_wp2_with (go_at_call 14; go_must (refine (refRoom_any n _).mono ?_; rintro e w3 ⟨rfl, rfl⟩; rw [HR.out]))
      go_ret2
      exact ⟨_, _, rfl, Sees.nil _ _, Below.refl _ _⟩
theorem take_snoc {l : List Int} {i : Nat} {x : Int} (h : l[i]? = some x) : l.take (i + 1) = l.take i ++ [x] := by
  obtain ⟨hl, e⟩ := List.getElem?_eq_some_iff.1 h
  rw [List.take_succ_eq_append_getElem hl, e]
set_option maxHeartbeats 8000000 in
theorem refRead_fit (b o c : Nat) (zs : List Int) (k N : Nat) (w : World) (hlen : zs.length ≤ maxLen) (hcap : zs.length ≤ c) (hc63 : c ≤ maxLen) (hs : Sees w (some ⟨b, o, none⟩) zs) (h1 : 1 ≤ N) (h60 : N ≤ 60) (hfit : k + (3 + 2 * N) ≤ zs.length) :
    Calls Tryz.prog 12 #[.slice (some ⟨b, o, none⟩) zs.length c, .int .i64 k, .int .i64 N] w (RefZ (keysZ zs k N) w) := by
  have hKZ : keysZ zs k N = keysR (fun x => zs.getD (k + (1 + 2 * x.toNat)) 0) (fun x => zs.getD (k + (2 + 2 * x.toNat)) 0) N (zs.getD k 0) (zs.getD (k + 1) 0) (zs.getD (k + 2) 0) := by
    unfold keysZ
    rw [keys_same]
  rw [hKZ]
  have HCELL := Lib.hid (show ∀ W, Below w.heap.size w W → ∀ j, j < 3 + 2 * N → W.cell? ⟨b, o + k + j, none⟩ = some (.int .i64 (zs.getD (k + j) 0)) from fun W hB j hj => by
    have := seen_at hs (k + j) (by omega)
    rw [← Nat.add_assoc] at this
    exact (hB.cell (p := ⟨b, o + k + j, none⟩) (block_lt_of_cell this)).trans this)
  obtain ⟨key, hkey⟩ : ∃ key : Int → Int, key = fun x => zs.getD (k + (1 + 2 * x.toNat)) 0 := ⟨_, rfl⟩
  obtain ⟨link, hlink⟩ : ∃ link : Int → Int, link = fun x => zs.getD (k + (2 + 2 * x.toNat)) 0 := ⟨_, rfl⟩
  rw [← hkey, ← hlink]
  have HLINK := Lib.hid (show ∀ x : Nat, link (x : Int) = zs.getD (k + (2 + 2 * x)) 0 from fun x => by rw [hlink]; simp)
  have HKEY := Lib.hid (show ∀ x : Nat, key (x : Int) = zs.getD (k + (1 + 2 * x)) 0 from fun x => by rw [hkey]; simp)
  have q0 := HCELL.out w (Below.refl _ _) 0 (by omega)
  have q1 := fun W hB => HCELL.out W hB 1 (by omega)
  have q2 := fun W hB => HCELL.out W hB 2 (by omega)
  rw [Nat.add_zero, Nat.add_zero] at q0
  obtain ⟨z0, hz0⟩ : ∃ z0, z0 = zs.getD k 0 := ⟨_, rfl⟩
  obtain ⟨z1, hz1⟩ : ∃ z1, z1 = zs.getD (k + 1) 0 := ⟨_, rfl⟩
  obtain ⟨z2, hz2⟩ : ∃ z2, z2 = zs.getD (k + 2) 0 := ⟨_, rfl⟩
  rw [← hz0] at q0
  rw [← hz1] at q1
  rw [← hz2] at q2
  rw [← hz0, ← hz1, ← hz2]
  have HQ1 := Lib.hid q1
  have HQ2 := Lib.hid q2
  clear hKZ hkey hlink hz0 hz1 hz2 q1 q2
  unfold maxLen at hlen hc63
  have HR := Lib.hid (show roomI N = 3 + 2 * N by unfold roomI; rw [if_pos ⟨by omega, by omega⟩])
  have hn0 : (3 + 2 * (N : Int) == 0) = false := by simp; omega
  have g1 : ¬ (k : Int) < 0 := by omega
  have g2 : ¬ (zs.length : Int) < (k : Int) := by omega
  have g3 : ¬ (zs.length : Int) - (k : Int) < 3 + 2 * (N : Int) := by omega
  have d5 : decide (zs.length < k) = false := by simp; omega
  have d6 : decide ((zs.length : Int) - (k : Int) < 3 + 2 * (N : Int)) = false := by simp; omega
  have d7 : decide ((k : Int) < 0) = false := by simp
  have g4 : (k : Int) + (3 + 2 * (N : Int)) - (k : Int) = ((3 + 2 * N : Nat) : Int) := by omega
  have g5 : ((k : Int) + (3 + 2 * (N : Int))).toNat - k = 3 + 2 * N := by omega
  obtain ⟨L, hL⟩ : ∃ L, L = zs.length := ⟨_, rfl⟩
  rw [← hL] at hlen hcap hfit g2 g3 d5 d6 ⊢
  have HLI := Lib.hid (fun (h : Int) W (hB : Below w.heap.size w W) => refList_any key link b (o + k) (c - k) (3 + 2 * N) N h W h60 rfl (fun x hx1 hx2 => by rw [HLINK.out]; exact HCELL.out W hB (2 + 2 * x) (by omega)))
  clear hs hL
  go_enter Tryz.func12, Tryz.ntmps12
  go_upto_region 5 with (go_at_call 14; go_must (refine (refRoom_any N _).mono ?_; rintro e w3 ⟨rfl, rfl⟩; rw [HR.out]))
  cases hea : listL key link N N z0 with
  | none =>
    have HN := Lib.hid (show keysR key link N z0 z1 z2 = none by unfold keysR; rw [hea])
    have HEA := Lib.hid hea
    clear hea
    go_upto_region 6 with (go_at_call 28; go_must (refine (HLI.out z0 _ (Below.refl _ _)).mono ?_; intro e w4 h4; rw [HEA.out] at h4; obtain ⟨rfl, hb4⟩ := h4; have q1 := HQ1.out _ hb4))
    cases heb : listL key link N N z1 with
    | none =>
      have HEB := Lib.hid heb
      clear heb
      go_wp2_with (go_at_call 28; go_must (refine (HLI.out z1 _ hb4).mono ?_; intro e w5 h5; rw [HEB.out] at h5; obtain ⟨rfl, hb5⟩ := h5))
      go_ret2
      exact refZ_none HN.out (hb4.trans (hb5.mono hb4.size))
    | some bl =>
      have HEB := Lib.hid heb
      clear heb
      go_wp2_with (go_at_call 28; go_must (refine (HLI.out z1 _ hb4).mono ?_; intro e w5 h5; rw [HEB.out] at h5; obtain ⟨v5, rfl, ho5, hb5⟩ := h5))
      go_ret2
      exact refZ_none HN.out (hb4.trans (hb5.mono hb4.size))
  | some a =>
    have HEA := Lib.hid hea
    go_upto_region 6 with (go_at_call 28; go_must (refine (HLI.out z0 _ (Below.refl _ _)).mono ?_; intro e w4 h4; rw [HEA.out] at h4; obtain ⟨v4, rfl, ho4, hb4⟩ := h4; have q1 := HQ1.out _ hb4))
    cases heb : listL key link N N z1 with
    | none =>
      have HN := Lib.hid (show keysR key link N z0 z1 z2 = none by unfold keysR; rw [hea, heb])
      have HEB := Lib.hid heb
      clear heb hea
      go_wp2_with (go_at_call 28; go_must (refine (HLI.out z1 _ hb4).mono ?_; intro e w5 h5; rw [HEB.out] at h5; obtain ⟨rfl, hb5⟩ := h5))
      go_ret2
      exact refZ_none HN.out (hb4.trans (hb5.mono hb4.size))
    | some bl =>
      have hKR : keysR key link N z0 z1 z2 = if (a.length + bl.length = N ∧ z2 = a.length) ∧ (a ++ bl).Nodup ∧ (a.map key).Pairwise (· < ·) then some (a.map key) else none := by unfold keysR; rw [hea, heb]
      have hra := listL_range _ _ _ _ _ _ hea
      have hrb := listL_range _ _ _ _ _ _ heb
      have HEB := Lib.hid heb
      have HKR := Lib.hid hKR
      have HRA := Lib.hid (show ∀ x ∈ a ++ bl, 1 ≤ x ∧ x ≤ (N : Int) from fun x hx => by
        rcases List.mem_append.1 hx with h | h
        · exact hra x h
        · exact hrb x h)
      clear hea heb hKR hra hrb
      go_upto_region 7 with (go_at_call 28; go_must (refine (HLI.out z1 _ hb4).mono ?_; intro e w5 h5; rw [HEB.out] at h5; obtain ⟨v5, rfl, ho5, hb5⟩ := h5))
      have hB5 := hb4.trans (hb5.mono hb4.size)
      have ho45 := ho4.below hb5
      obtain ⟨ao4, c4, rfl, hg4⟩ := ho4.slice
      obtain ⟨ao5, c5, rfl, hg5⟩ := ho5.slice
      have q2 := HQ2.out _ hB5
      obtain ⟨la, hla⟩ : ∃ la, la = a.length := ⟨_, rfl⟩
      obtain ⟨lb, hlb⟩ : ∃ lb, lb = bl.length := ⟨_, rfl⟩
      have hlaN : la ≤ N := by rw [hla]; exact listL_len _ _ _ _ _ _ HEA.out
      have hlbN : lb ≤ N := by rw [hlb]; exact listL_len _ _ _ _ _ _ HEB.out
      have HLA := Lib.hid hla
      have HLB := Lib.hid hlb
      rw [← hla] at hg4 ⊢
      rw [← hlb] at hg5 ⊢
      have HO4 := Lib.hid ho45
      have HO5 := Lib.hid ho5
      have HG4 := Lib.hid hg4
      have HG5 := Lib.hid hg5
      have HB5 := Lib.hid hB5
      clear ho4 ho5 ho45 hg4 hg5 hb4 hb5 hB5 hla hlb q0 q1
      by_cases hsum : la + lb = N
      · by_cases hz2 : z2 = (la : Int)
        · have e1 : ((la : Int) + (lb : Int) != (N : Int)) = false := by simp; omega
          have e2 : (z2 != (la : Int)) = false := by simpa using hz2
          have hmk := fun w => makeBoolsS (N + 1) (by omega) w
          rw [show ((N + 1 : Nat) : Int) = (N : Int) + 1 by omega] at hmk
          have HCND := Lib.hid (show a.length + bl.length = N ∧ z2 = a.length from ⟨by rw [← HLA.out, ← HLB.out]; exact hsum, by rw [← HLA.out]; exact hz2⟩)
          clear hz2
          have HBV := Lib.hid (boolV_nil N)
          go_wp2_with fail
          have hB6 := HB5.out.alloc HB5.out.size (.cells (boolV N []) 4)
          go_loopw [15, 16] (fun v _ wr => ∃ i : Nat, i ≤ N ∧ v = .int .i64 i ∧ wr.heap[w5.heap.size]? = some (.cells (boolV N ((a ++ bl).take i)) 4) ∧ ((a ++ bl).take i).Nodup ∧ Below w5.heap.size w5 wr) (fun v _ _ => N - (intOf v).toNat)
          case atStart => exact ⟨0, Nat.zero_le _, rfl, by rw [HBV.out]; exact heap_new _ _ _ rfl, .nil, (Below.refl _ _).alloc (Nat.le_refl _) _⟩
          case round =>
            obtain ⟨i, hi, rfl, hbv, hnd, hB⟩ := hrel
            have HBB := Lib.hid hB
            by_cases hlt : i < N
            · obtain ⟨x, hx⟩ : ∃ x, (a ++ bl)[i]? = some x := ⟨_, List.getElem?_eq_getElem (by rw [List.length_append, HCND.out.1]; exact hlt)⟩
              obtain ⟨hx1, hx2⟩ := HRA.out x (List.mem_of_getElem? hx)
              obtain ⟨xn, rfl⟩ : ∃ xn : Nat, x = xn := ⟨x.toNat, by omega⟩
              have hxN : xn ≤ N := by omega
              have hbc := (cell_of_row _ _ xn _ _ (0, 0) hbv).trans (boolV_at N _ xn hxN)
              have hbf : wr.frozen? ⟨w5.heap.size, xn, none⟩ = false := frozen_of_row _ _ xn _ _ hbv
              have HST := Lib.hid (take_snoc hx)
              have HBS := Lib.hid (show (wr.setCell ⟨w5.heap.size, xn, none⟩ (.bool true)).heap[w5.heap.size]? = some (.cells (boolV N ((a ++ bl).take (i + 1))) 4) by
                have := heap_setCell_same wr w5.heap.size xn _ _ (.bool true) hbv
                rw [this, boolV_set, take_snoc hx])
              have HND := Lib.hid hnd
              have hside : (i < la ∧ ∃ g, ao4 = some ⟨g, 0, none⟩ ∧ wr.cell? ⟨g, i, none⟩ = some (.int .i64 xn)) ∨ (¬ i < la ∧ ∃ g, ao5 = some ⟨g, 0, none⟩ ∧ ∃ j, i = j + la ∧ j < lb ∧ wr.cell? ⟨g, j, none⟩ = some (.int .i64 xn)) := by
                by_cases hil : i < la
                · obtain ⟨g, rfl⟩ := HG4.out (by omega)
                  have h4 := HO4.out.below hB
                  have hx' : a[i]? = some (xn : Int) := by rw [List.getElem?_append_left (by rw [← HLA.out]; exact hil)] at hx; exact hx
                  exact .inl ⟨hil, g, rfl, h4.cell i hx'⟩
                · obtain ⟨g, rfl⟩ := HG5.out (by omega)
                  have h5 := HO5.out.below hB
                  have hx' : bl[i - la]? = some (xn : Int) := by rw [List.getElem?_append_right (by rw [← HLA.out]; omega), ← HLA.out] at hx; exact hx
                  exact .inr ⟨hil, g, rfl, i - la, by omega, by omega, h5.cell _ hx'⟩
              clear hbv hnd hB hx
              by_cases hmem : (xn : Int) ∈ (a ++ bl).take i
              · have HN := Lib.hid (show keysR key link N z0 z1 z2 = none by
                  rw [HKR.out, if_neg]
                  rintro ⟨_, h, _⟩
                  have h2 := h.sublist (List.take_sublist (i + 1) _)
                  rw [HST.out, nodup_snoc] at h2
                  exact h2.2 hmem)
                rw [decide_eq_true hmem] at hbc
                clear hmem
                rcases hside with ⟨s1, g, rfl, s2⟩ | ⟨s1, g, rfl, j, rfl, s3, s2⟩
                all_goals
                  go_wp2
                  go_ret2
                  exact refZ_none HN.out (HB5.out.trans (HBB.out.mono HB5.out.size))
              · have HND2 := Lib.hid (show ((a ++ bl).take (i + 1)).Nodup by rw [HST.out, nodup_snoc]; exact ⟨HND.out, hmem⟩)
                rw [decide_eq_false hmem] at hbc
                clear hmem
                rcases hside with ⟨s1, g, rfl, s2⟩ | ⟨s1, g, rfl, j, rfl, s3, s2⟩
                all_goals
                  go_wp2
                  go_roundw
                  case rel => exact ⟨_, hlt, by go_num, HBS.out, HND2.out, HBB.out.setCell (p := ⟨w5.heap.size, xn, none⟩) (Nat.le_refl _) _⟩
                  case measure => simp [intOf]; omega
            · obtain rfl : i = N := by omega
              have hND : (a ++ bl).Nodup := by
                have h := hnd
                rw [List.take_of_length_le (by rw [List.length_append, HCND.out.1]; exact Nat.le_refl _)] at h
                exact h
              have HND := Lib.hid hND
              obtain ⟨wA, rfl⟩ : ∃ wA : World, wA = wr := ⟨_, rfl⟩
              clear hbv hnd hND hB
              go_wp2_with fail
              go_loopw [17, 18, 19] (fun u v _ wr => ∃ j : Nat, j ≤ la ∧ v = .int .i64 j ∧ Own wr w5.heap.size u ((a.take j).map key) ∧ ((a.take j).map key).Pairwise (· < ·) ∧ Below w5.heap.size w5 wr) (fun _ v _ _ => la - (intOf v).toNat)
              case atStart => exact ⟨0, Nat.zero_le _, rfl, Own.nil _ _, .nil, HBB.out⟩
              case round =>
                obtain ⟨j, hj, rfl, hown, hpw, hB⟩ := hrel
                obtain ⟨ao, c7, rfl, -, -, hsome⟩ := hown.slice
                have hkl : ((a.take j).map key).length = j := by rw [List.length_map, List.length_take, ← HLA.out]; omega
                have HKL := Lib.hid hkl
                have HO7 := Lib.hid hown
                have HB7 := Lib.hid hB
                have HPW := Lib.hid hpw
                rw [hkl] at hsome ⊢
                by_cases hjl : j < la
                · obtain ⟨x, hx⟩ : ∃ x, a[j]? = some x := ⟨_, List.getElem?_eq_getElem (by rw [← HLA.out]; exact hjl)⟩
                  obtain ⟨hx1, hx2⟩ := HRA.out x (List.mem_append_left _ (List.mem_of_getElem? hx))
                  obtain ⟨xn, rfl⟩ : ∃ xn : Nat, x = xn := ⟨x.toNat, by omega⟩
                  obtain ⟨g4, rfl⟩ := HG4.out (by omega)
                  have h4 := HO4.out.below hB
                  have ca := h4.cell j hx
                  have cz := HCELL.out wr (HB5.out.trans (hB.mono HB5.out.size)) (1 + 2 * xn) (by omega)
                  rw [← HKEY.out] at cz
                  have HST := Lib.hid (show (a.take (j + 1)).map key = (a.take j).map key ++ [key xn] by rw [take_snoc hx]; simp)
                  have hbx : 1 + 2 * (xn : Int) < ((3 + 2 * i : Nat) : Int) := by omega
                  obtain ⟨kx, hkx⟩ : ∃ kx, kx = key xn := ⟨_, rfl⟩
                  rw [← hkx] at cz HST
                  clear h4 hx hown hpw hB hkl hkx
                  by_cases hj0 : j = 0
                  · subst hj0
                    clear hsome
                    have HPW2 := Lib.hid (show ((a.take 1).map key).Pairwise (· < ·) by rw [HST.out]; simp)
                    go_wp2_with (at_builtin; refine wpList_append64 (HO7.out.below ((Below.refl _ _).alloc (Nat.le_refl _) _)) (by have := HB7.out.size; simp; omega) (some ⟨wr.heap.size, 0, none⟩) 1 1 [kx] rfl (sees_one (heap_new _ _ _ rfl)) (fun h => by cases h) (by rw [HKL.out]; simp) rfl _ _ rfl (by show _ = Value.slice ao _ c7; rw [HKL.out]; rfl) rfl ?_; intro v8 w8 hown8 hgrow8; obtain ⟨ao8, c8, rfl, -⟩ := hown8.slice)
                    go_roundw
                    case rel => exact ⟨1, by omega, by go_num, by rw [HST.out]; exact hown8, HPW2.out, (HB7.out.alloc HB7.out.size _).grown hgrow8 (by have := HB7.out.size; simp; omega) (fun k hk => own_ge HO7.out hk)⟩
                    case measure => simp [intOf]; omega
                  · obtain ⟨g7, rfl, hbal⟩ := hsome hj0
                    obtain ⟨J, rfl⟩ : ∃ J, j = J + 1 := ⟨j - 1, by omega⟩
                    obtain ⟨y, hy⟩ : ∃ y, ((a.take (J + 1)).map key)[J]? = some y := ⟨_, List.getElem?_eq_getElem (by rw [HKL.out]; omega)⟩
                    have cy := hbal.cell J hy
                    have HLAST := Lib.hid (show ((a.take (J + 1)).map key).getD (((a.take (J + 1)).map key).length - 1) 0 = y by rw [HKL.out, Nat.add_sub_cancel, List.getD_eq_getElem?_getD, hy]; rfl)
                    clear hbal hy hj0 hsome
                    by_cases hle : kx ≤ y
                    · have HN := Lib.hid (show keysR key link i z0 z1 z2 = none by
                        rw [HKR.out, if_neg]
                        rintro ⟨_, _, h⟩
                        have h2 : ((a.take (J + 1 + 1)).map key).Pairwise (· < ·) := by
                          rw [List.map_take]
                          exact h.sublist (List.take_sublist _ _)
                        rw [HST.out, pairwise_snoc] at h2
                        rcases h2.2 with h3 | h3
                        · have := HKL.out
                          rw [h3] at this
                          cases this
                        · rw [HLAST.out] at h3
                          omega)
                      go_wp2
                      go_ret2
                      exact refZ_none HN.out (HB5.out.trans (HB7.out.mono HB5.out.size))
                    · have hd : decide (kx ≤ y) = false := by simpa using hle
                      have HPW2 := Lib.hid (show ((a.take (J + 1 + 1)).map key).Pairwise (· < ·) by
                        rw [HST.out, pairwise_snoc]
                        exact ⟨HPW.out, .inr (by rw [HLAST.out]; omega)⟩)
                      clear hle
                      go_wp2_with (at_builtin; refine wpList_append64 (HO7.out.below ((Below.refl _ _).alloc (Nat.le_refl _) _)) (by have := HB7.out.size; simp; omega) (some ⟨wr.heap.size, 0, none⟩) 1 1 [kx] rfl (sees_one (heap_new _ _ _ rfl)) (fun h => by cases h) (by rw [HKL.out]; simp; omega) rfl _ _ rfl (by show _ = Value.slice (some ⟨g7, 0, none⟩) _ c7; rw [HKL.out]; rfl) rfl ?_; intro v8 w8 hown8 hgrow8; obtain ⟨ao8, c8, rfl, -⟩ := hown8.slice)
                      go_roundw
                      case rel => exact ⟨J + 1 + 1, by omega, by go_num, by rw [HST.out]; have h := hown8; rw [show ((a.take (J + 1)).map key ++ [kx]).length = min (J + 1) a.length + 1 by simp] at h; exact h, HPW2.out, (HB7.out.alloc HB7.out.size _).grown hgrow8 (by have := HB7.out.size; simp; omega) (fun k hk => own_ge HO7.out hk)⟩
                      case measure => simp [intOf]; omega
                · obtain rfl : j = la := by omega
                  have HN := Lib.hid (show keysR key link i z0 z1 z2 = some ((a.take j).map key) by
                    have h := hpw
                    have e : a.take j = a := List.take_of_length_le (by rw [← HLA.out]; exact Nat.le_refl _)
                    rw [e] at h
                    rw [HKR.out, if_pos ⟨HCND.out, HND.out, h⟩, e])
                  clear hown hpw hB hkl hsome
                  go_wp2
                  go_ret2
                  exact refZ_some HN.out HKL.out (Own.sees2 HO7.out) (HB5.out.trans (HB7.out.mono HB5.out.size))
        · have HN := Lib.hid (show keysR key link N z0 z1 z2 = none by rw [HKR.out, if_neg]; rintro ⟨⟨_, h⟩, _⟩; exact hz2 (by rw [HLA.out]; exact h))
          have e1 : ((la : Int) + (lb : Int) != (N : Int)) = false := by simp; omega
          have e2 : (z2 != (la : Int)) = true := by simpa using hz2
          clear hz2 hsum
          go_wp2_with fail
          go_ret2
          exact refZ_none HN.out HB5.out
      · have HN := Lib.hid (show keysR key link N z0 z1 z2 = none by rw [HKR.out, if_neg]; rintro ⟨⟨h, _⟩, _⟩; exact hsum (by rw [HLA.out, HLB.out]; exact h))
        have e1 : ((la : Int) + (lb : Int) != (N : Int)) = true := by simp; omega
        clear hsum
        go_wp2_with fail
        go_ret2
        exact refZ_none HN.out HB5.out
/-- every Read of a slice that is not nil -/
theorem refRead_any (b o m c : Nat) (zs : List Int) (base n : Int) (w : World) (hm : zs.length = m) (hlen : m ≤ maxLen) (hcap : m ≤ c) (hc63 : c ≤ maxLen) (hs : Sees w (some ⟨b, o, none⟩) zs) :
    Calls Tryz.prog 12 #[.slice (some ⟨b, o, none⟩) m c, .int .i64 base, .int .i64 n] w (RefKeys (setS zs base n).1 (setS zs base n).2 w) := by
  subst hm
  unfold setS
  cases hf : fitB zs base n with
  | false => exact refRead_nofit _ c zs base n w hlen hf
  | true =>
    obtain ⟨k, N, rfl, rfl, h1, h2, h3, _⟩ := fit_parts hf
    simp only [if_true, Int.toNat_natCast]
    have := refRead_fit b o c zs k N w hlen hcap hc63 hs h1 h2 h3
    unfold RefZ at this
    cases hg : keysZ zs k N with
    | none => rw [hg] at this; exact this
    | some l => rw [hg] at this; exact this
end Go.Proofs.YtkioddgolmaaeaaGreatDoor
