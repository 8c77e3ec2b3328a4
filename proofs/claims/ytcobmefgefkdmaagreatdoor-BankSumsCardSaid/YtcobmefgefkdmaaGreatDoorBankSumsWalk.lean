/-
  quash/quashlaw17.BankSums answers true. Condition: the library's variables (Env), what the reading gives of the slices.
-/
import Derived.Test.YtcobmefgefkdmaaGreatDoorBankDoesWalk
namespace Go.Proofs.YtcobmefgefkdmaaGreatDoor
open Go.RowKit
set_option maxRecDepth 100000

theorem wrap64_wrap (a b : Int) : wrap64 (wrap64 a + b) = wrap64 (a + b) := by unfold wrap64; omega
theorem sumZ_sum : ∀ (zs : List Int) (s : Int), sumZ zs (wrap64 s) = wrap64 (s + zs.sum)
  | [], s => by simp [sumZ]
  | z :: r, s => by
    rw [sumZ, wrap64_wrap, sumZ_sum r (s + z), List.sum_cons, Int.add_assoc]
theorem sumZ_zero (zs : List Int) : sumZ zs 0 = wrap64 zs.sum := by
  have := sumZ_sum zs 0
  rw [show wrap64 0 = 0 by unfold wrap64; omega, Int.zero_add] at this
  exact this
theorem sum_set : ∀ (zs : List Int) (k : Nat) (z v : Int), zs[k]? = some z → (zs.set k v).sum = zs.sum + v - z
  | [], _, _, _, h => by simp at h
  | y :: r, 0, z, v, h => by
    simp at h
    subst h
    simp; omega
  | y :: r, k + 1, z, v, h => by
    have := sum_set r k z v (by simpa using h)
    simp [this]; omega
theorem deed_sum {zs : List Int} {n op a b x y : Int} (hok : doOk zs n op a b x y = true) (h1 : op ≠ 1) (h2 : op ≠ 2) : sumZ (deedS zs op a b x).1 0 = sumZ zs 0 := by
  obtain ⟨_, _, _, hl, _, hop, ha0, ha, hb0, hb, _⟩ := doOk_parts hok
  have hz : zs[a.toNat]? = some (zs.getD a.toNat 0) := by rw [List.getD_eq_getElem?_getD, List.getElem?_eq_getElem (by omega)]; rfl
  unfold deedS
  simp only
  rw [if_neg h1, if_neg h2]
  split
  · unfold moveZ
    split
    · rfl
    · generalize hzs : zs.set a.toNat (wrap64 (zs.getD a.toNat 0 - x)) = zs2
      have hl2 : zs2.length = zs.length := by rw [← hzs]; simp
      have hz2 : zs2[b.toNat]? = some (zs2.getD b.toNat 0) := by rw [List.getD_eq_getElem?_getD, List.getElem?_eq_getElem (by omega)]; rfl
      have s1 := sum_set zs a.toNat _ (wrap64 (zs.getD a.toNat 0 - x)) hz
      rw [hzs] at s1
      rw [sumZ_zero, sumZ_zero, sum_set zs2 b.toNat _ (wrap64 (zs2.getD b.toNat 0 + x)) hz2, s1]
      unfold wrap64
      omega
  · split <;> rfl

/-- the deeds that came in -/
def Deeds (w : World) (ao : Option Addr) (ds : List (Int × Int × Int × Int × Int)) : Prop := ∃ b o, (ds ≠ [] → ao = some ⟨b, o, none⟩) ∧ ∀ j d, ds[j]? = some d →
  w.cell? ⟨b, o + j * 5, none⟩ = some (.int .i64 d.1) ∧ w.cell? ⟨b, o + j * 5 + 1, none⟩ = some (.int .i64 d.2.1) ∧ w.cell? ⟨b, o + j * 5 + 2, none⟩ = some (.int .i64 d.2.2.1) ∧ w.cell? ⟨b, o + j * 5 + 3, none⟩ = some (.int .i64 d.2.2.2.1) ∧ w.cell? ⟨b, o + j * 5 + 4, none⟩ = some (.int .i64 d.2.2.2.2)
theorem sums_yes (ad : Addr) (cap : Nat) (zs : List Int) (n op a b x y : Int) (w : World) (hcap : zs.length ≤ cap) (hs : Sees w (some ad) zs) (hok : doOk zs n op a b x y = true) :
    Calls Tryz.prog 9 #[.slice (some ad) zs.length cap, .int .i64 n, .agg #[.int .i64 op, .int .i64 a, .int .i64 b, .int .i64 x, .int .i64 y]] w fun e w' => ∃ g4 cap4 h, e = .returned (.tuple #[.slice (some g4) (deedS zs op a b x).1.length cap4, .slice (some ⟨h, 0, none⟩) 1 1, .int .i64 0]) ∧
      (deedS zs op a b x).1.length ≤ cap4 ∧ Sees w' (some g4) (deedS zs op a b x).1 ∧ w'.cell? ⟨h, 0, none⟩ = some (.int .i64 (deedS zs op a b x).2) ∧ Below w.heap.size w w' := by
  obtain ⟨b', o', h1, h2⟩ := hs
  have hne : zs ≠ [] := by
    intro e
    subst e
    have := doOk_parts hok
    simp at this
    omega
  obtain rfl : ad = ⟨b', o', none⟩ := by
    have := h1 hne
    simpa using this
  refine (Do_any b' o' cap zs n op a b x y w hcap (block_lt_of_cell (h2 0 (List.length_pos_iff.2 hne))) h2).mono fun e w' hd => ?_
  unfold DoDoes at hd
  rw [if_pos hok] at hd
  obtain ⟨g4, cap4, h, rfl, hb, hc, hn, hle, hB⟩ := hd
  refine ⟨⟨g4, 0, none⟩, cap4, h, rfl, ?_, hb.sees, cell_of_row _ _ 0 _ _ _ hc, hB⟩
  obtain ⟨_, h | ⟨_, _, _, hv, _, _, h1, _⟩⟩ := hb
  · cases h.1
  · injection hv with _ _ h3; subst h3; exact h1
theorem sums_no (ad : Addr) (cap : Nat) (zs : List Int) (n op a b x y : Int) (w : World) (hcap : zs.length ≤ cap) (hne : zs ≠ []) (hs : Sees w (some ad) zs) (hno : doOk zs n op a b x y = false) :
    Calls Tryz.prog 9 #[.slice (some ad) zs.length cap, .int .i64 n, .agg #[.int .i64 op, .int .i64 a, .int .i64 b, .int .i64 x, .int .i64 y]] w fun e w' => e = .returned (.tuple #[.slice none 0 0, .slice none 0 0, .int .i64 170]) ∧ Below w.heap.size w w' := by
  obtain ⟨b', o', h1, h2⟩ := hs
  obtain rfl : ad = ⟨b', o', none⟩ := by
    have := h1 hne
    simpa using this
  refine (Do_any b' o' cap zs n op a b x y w hcap (block_lt_of_cell (h2 0 (List.length_pos_iff.2 hne))) h2).mono fun e w' hd => ?_
  unfold DoDoes at hd
  rw [hno] at hd
  exact hd
theorem BankSums_none (v0 : Value) (v1 : Value) (ao : Option Addr) (m c : Nat) (w : World) (hv : v0 = .slice ao m c) (h : roomI m = 0) (he : Env w) (_hm : m ≤ maxLen) :
    Calls Tryz.prog 5 #[v0, v1] w fun e w' => e = .returned (.bool true) ∧ Below w.heap.size w w' := by
  subst hv
  have HR := Lib.hid h
  clear h
  go_enter Tryz.func5, Tryz.ntmps5
  go_wp2_with (first
    | (go_at_call 8; go_must (refine (awake_any _ he).mono ?_; rintro e w1 ⟨rfl, hb1⟩))
    | (go_at_call 13; go_must (refine (Room_any m _).mono ?_; rintro e w3 ⟨rfl, rfl⟩; rw [HR.out])))
  go_ret
  exact ⟨rfl, hb1⟩
set_option maxHeartbeats 2000000 in
theorem BankSums_some (ad : Addr) (c : Nat) (zs : List Int) (do' : Option Addr) (dc : Nat) (ds : List (Int × Int × Int × Int × Int)) (w : World) (he : Env w) (hs : Sees w (some ad) zs) (hcap : zs.length ≤ c) (hd : Deeds w do' ds) (h1 : 1 ≤ zs.length) (h64 : zs.length ≤ 64) (hdl : ds.length ≤ maxLen) :
    Calls Tryz.prog 5 #[.slice (some ad) zs.length c, .slice do' ds.length dc] w fun e w' => e = .returned (.bool true) ∧ Below w.heap.size w w' := by
  unfold maxLen at hdl
  obtain ⟨N, hN⟩ : ∃ N, N = zs.length := ⟨_, rfl⟩
  obtain ⟨M, hM⟩ : ∃ M, M = ds.length := ⟨_, rfl⟩
  have HR := Lib.hid (show roomI N = N by unfold roomI; rw [if_pos ⟨by omega, by omega⟩])
  have hn0 : ((N : Int) == 0) = false := by simp; omega
  obtain ⟨bz, oz, hz1, hz2⟩ := hs
  obtain rfl : ad = ⟨bz, oz, none⟩ := by
    have := hz1 (by intro e; subst e; simp at h1)
    simpa using this
  have HZ := Lib.hid hz2
  have HDS := Lib.hid hd
  have HN := Lib.hid hN
  have HM := Lib.hid hM
  have HE := Lib.hid he
  rw [← hN] at h1 h64 hcap
  rw [← hM] at hdl
  rw [← hN, ← hM]
  clear he hd hz1 hz2 hN hM
  go_enter Tryz.func5, Tryz.ntmps5
  go_wp2_with (first
    | (go_at_call 8; go_must (refine (awake_any _ HE.out).mono ?_; rintro e w1 ⟨rfl, hb1⟩))
    | (go_at_call 13; go_must (refine (Room_any N _).mono ?_; rintro e w3 ⟨rfl, rfl⟩; rw [HR.out])))
  go_loop [7, 8] (fun s i => ∃ j : Nat, j ≤ N ∧ i = .int .i64 j ∧ s = .int .i64 (sumZ (zs.take j) 0)) (fun _ i => N - (intOf i).toNat)
  case atStart => exact ⟨0, Nat.zero_le _, rfl, by simp [sumZ]⟩
  case round =>
    obtain ⟨j, hj, rfl, rfl⟩ := hrel
    by_cases hlt : j < N
    · obtain ⟨zj, hzj⟩ : ∃ zj, zs[j]? = some zj := ⟨_, List.getElem?_eq_getElem (show j < zs.length by rw [← HN.out]; exact hlt)⟩
      have hcj := below_cellK hb1 (block_lt_of_cell (HZ.out j (by rw [← HN.out]; exact hlt))) (HZ.out j (by rw [← HN.out]; exact hlt))
      rw [List.getD_eq_getElem?_getD, hzj, Option.getD_some] at hcj
      have HT := Lib.hid (sumZ_take zs j zj 0 hzj)
      clear hzj
      go_wp2
      go_round
      case rel => exact ⟨j + 1, by omega, by go_num, by rw [HT.out]⟩
      case measure => simp [intOf]; omega
    · obtain rfl : j = N := by omega
      have hs : sumZ (zs.take j) 0 = sumZ zs 0 := by rw [List.take_of_length_le (by rw [← HN.out]; exact Nat.le_refl _)]
      rw [hs]
      clear hs
      go_wp2
      go_loopw [0, 9] (fun v i wr => ∃ (k : Nat) (ad : Addr) (c : Nat) (ys : List Int), k ≤ M ∧ i = .int .i64 k ∧ v = .slice (some ad) j c ∧ ys.length = j ∧ j ≤ c ∧ Sees wr (some ad) ys ∧ sumZ ys 0 = sumZ zs 0 ∧ Below w.heap.size w wr) (fun _ i _ => M - (intOf i).toNat)
      case atStart => exact ⟨0, _, c, zs, Nat.zero_le _, rfl, rfl, HN.out.symm, hcap, (Sees.cells HZ.out).below hb1, rfl, hb1⟩
      case round =>
        obtain ⟨k, ad, c', ys, hk, rfl, rfl, hyl, hcc, hsy, hsum, hB⟩ := hrel
        have HY := Lib.hid hyl
        have HSU := Lib.hid hsum
        have HSY := Lib.hid hsy
        have hne : ys ≠ [] := by intro e; subst e; simp at hyl; omega
        clear hyl hsum hsy
        have HNE := Lib.hid hne
        clear hne
        by_cases hlk : k < M
        · obtain ⟨⟨op, a, b, x, y⟩, hdk⟩ : ∃ d, ds[k]? = some d := ⟨_, List.getElem?_eq_getElem (by rw [← HM.out]; exact hlk)⟩
          obtain ⟨bd, od, hbd, hcd⟩ := HDS.out
          obtain rfl := hbd (by intro e; subst e; simp at hdk)
          obtain ⟨q0, q1, q2, q3, q4⟩ := hcd k _ hdk
          have c0 := below_cellK hB (block_lt_of_cell q0) q0
          have c1 := below_cellK hB (block_lt_of_cell q1) q1
          have c2 := below_cellK hB (block_lt_of_cell q2) q2
          have c3 := below_cellK hB (block_lt_of_cell q3) q3
          have c4 := below_cellK hB (block_lt_of_cell q4) q4
          clear q0 q1 q2 q3 q4 hbd hcd hdk
          by_cases e1 : op = 1
          · have b1 : (op == 1) = true := by simp [e1]
            clear e1
            go_wp2
            go_roundw
            case rel => exact ⟨k + 1, ad, c', ys, by omega, by go_num, rfl, HY.out, hcc, by exact HSY.out, HSU.out, by exact hB⟩
            case measure => simp [intOf]; omega
          by_cases e2 : op = 2
          · have b1 : (op == 1) = false := by simp [e2]
            have b2 : (op == 2) = true := by simp [e2]
            clear e1 e2
            go_wp2
            go_roundw
            case rel => exact ⟨k + 1, ad, c', ys, by omega, by go_num, rfl, HY.out, hcc, by exact HSY.out, HSU.out, by exact hB⟩
            case measure => simp [intOf]; omega
          have b1 : (op == 1) = false := by simp [e1]
          have b2 : (op == 2) = false := by simp [e2]
          cases hok : doOk ys j op a b x y with
          | true =>
            have hDo := sums_yes ad c' ys j op a b x y wr (by rw [HY.out]; exact hcc) HSY.out hok
            have hDS := deed_sum hok e1 e2
            have hDL := deedS_length ys op a b x
            rw [HY.out] at hDL
            rw [HY.out, hDL] at hDo
            generalize (deedS ys op a b x).1 = D at hDo hDS hDL
            generalize (deedS ys op a b x).2 = R at hDo
            have HDO := Lib.hid hDo
            have HDS' := Lib.hid hDS
            have HDL := Lib.hid hDL
            clear hDo hDS hDL hok e1 e2
            go_wp2_with (go_at_call 9; go_must (refine HDO.out.mono ?_; rintro e w4 ⟨g4, cap4, h4, rfl, hcap4, hs4, _, hB4⟩))
            have hs4' := Lib.hid hs4
            clear hs4
            go_roundw
            case rel => exact ⟨k + 1, g4, cap4, D, by omega, by go_num, rfl, HDL.out, hcap4, by exact hs4'.out, HDS'.out.trans HSU.out, by exact hB.trans (hB4.mono hB.size)⟩
            case measure => simp [intOf]; omega
          | false =>
            have hDo := sums_no ad c' ys j op a b x y wr (by rw [HY.out]; exact hcc) HNE.out HSY.out hok
            rw [HY.out] at hDo
            have HDO := Lib.hid hDo
            clear hDo hok e1 e2
            go_wp2_with (go_at_call 9; go_must (refine HDO.out.mono ?_; rintro e w4 ⟨rfl, hB4⟩))
            go_roundw
            case rel => exact ⟨k + 1, ad, c', ys, by omega, by go_num, rfl, HY.out, hcc, by exact HSY.out.below hB4, HSU.out, by exact hB.trans (hB4.mono hB.size)⟩
            case measure => simp [intOf]; omega
        · obtain rfl : k = M := by omega
          have hok : doOk ys j 5 0 0 0 0 = true := by
            simp only [doOk, Bool.and_eq_true, decide_eq_true_eq]
            refine ⟨⟨?_, by rw [HY.out]⟩, by simp [ofB, kA, kB, kX, rightB]⟩
            rw [HR.out]; omega
          have hDo := sums_yes ad c' ys j 5 0 0 0 0 wr (by rw [HY.out]; exact hcc) HSY.out hok
          have hR : (deedS ys 5 0 0 0).2 = sumZ zs 0 := by rw [← HSU.out]; rfl
          have hDL := deedS_length ys 5 0 0 0
          rw [HY.out] at hDL
          rw [HY.out, hDL, hR] at hDo
          generalize (deedS ys 5 0 0 0).1 = D at hDo
          have HDO := Lib.hid hDo
          clear hDo hok hR hDL
          go_wp2_with (go_at_call 9; go_must (refine HDO.out.mono ?_; rintro e w4 ⟨g4, cap4, h4, rfl, _, _, hr4, hB4⟩))
          go_ret
          exact ⟨rfl, hB.trans (hB4.mono hB.size)⟩
end Go.Proofs.YtcobmefgefkdmaaGreatDoor
