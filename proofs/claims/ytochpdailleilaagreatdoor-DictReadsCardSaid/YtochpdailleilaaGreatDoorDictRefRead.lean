/-
  quash/quashref19.Read: every call over a slice that reads as a list. No condition.
-/
import Derived.Test.YtochpdailleilaaGreatDoorDictRead2
import Derived.Test.YtochpdailleilaaGreatDoorDictPut
namespace Go.Proofs.YtochpdailleilaaGreatDoor
open Go.RowKit
set_option maxRecDepth 100000

def RefEnts (D : List (Int × Int)) (code : Int) (w : World) (e : Ending) (w' : World) : Prop :=
  ∃ ao c, e = .returned (.tuple #[.slice ao D.length c, .int .i64 code]) ∧ SeesP w' ao D ∧ Below w.heap.size w w'
def RefZ (r : Option (List (Int × Int))) (w : World) (e : Ending) (w' : World) : Prop :=
  match r with
  | some l => RefEnts l 0 w e w'
  | none => RefEnts [] 191 w e w'
theorem refZ_none {r : Option (List (Int × Int))} (hr : r = none) {w w' : World} (h2 : Below w.heap.size w w') : RefZ r w (.returned (.tuple #[.slice none 0 0, .int .i64 191])) w' := by
  rw [hr]; exact ⟨none, 0, rfl, SeesP.nil _ _, h2⟩
theorem refZ_some {r : Option (List (Int × Int))} {l : List (Int × Int)} {n c : Nat} {ao : Option Addr} (hr : r = some l) (hn : l.length = n) {w w' : World} (h1 : SeesP w' ao l) (h2 : Below w.heap.size w w') : RefZ r w (.returned (.tuple #[.slice ao n c, .int .i64 0])) w' := by
  subst hn
  rw [hr]; exact ⟨ao, c, rfl, h1, h2⟩
theorem sortE_len {l : List (Int × Int)} (h : (l.map (·.1)).Nodup) : (sortE l).length = l.length := (sortE_perm h).length_eq
set_option maxHeartbeats 1000000 in
theorem refRead_nofit (ao : Option Addr) (c : Nat) (zs : List Int) (base n : Int) (w : World) (_hlen : zs.length ≤ maxLen) (hno : fitB zs base n = false) :
    Calls Tryz.prog 12 #[.slice ao zs.length c, .int .i64 base, .int .i64 n] w (RefEnts [] 190 w) := by
  unfold maxLen at _hlen
  by_cases h0 : roomI n = 0
  · have HR := Lib.hid h0
    clear hno h0
    go_enter Tryz.func12, Tryz.ntmps12
    go_wp2_with (go_at_call 15; go_must (refine (refRoom_any n _).mono ?_; rintro e w3 ⟨rfl, rfl⟩; rw [HR.out]))
    go_ret2
    exact ⟨_, _, rfl, SeesP.nil _ _, Below.refl _ _⟩
  have hn := roomI_yes h0
  have HR := Lib.hid hn.1
  have hn0 : (1 + 3 * n == 0) = false := by have := hn.2; simp; omega
  have hno' : ¬ (0 ≤ base ∧ base + (1 + 3 * n) ≤ zs.length) := by
    simp [fitB, hn.1] at hno
    intro h
    have := hno (by omega) h.1
    omega
  have hn1 := hn.2.1
  have hn2 := hn.2.2
  clear hno h0 hn
  by_cases h1 : base < 0
  · clear hno'
    go_enter Tryz.func12, Tryz.ntmps12
    go_wp2_with (go_at_call 15; go_must (refine (refRoom_any n _).mono ?_; rintro e w3 ⟨rfl, rfl⟩; rw [HR.out]))
    go_ret2
    exact ⟨_, _, rfl, SeesP.nil _ _, Below.refl _ _⟩
  · by_cases h2 : (zs.length : Int) < base
    · clear hno'
      have h1' : ¬ base < 0 := h1
      go_enter Tryz.func12, Tryz.ntmps12
      go_wp2_with (go_at_call 15; go_must (refine (refRoom_any n _).mono ?_; rintro e w3 ⟨rfl, rfl⟩; rw [HR.out]))
      go_ret2
      exact ⟨_, _, rfl, SeesP.nil _ _, Below.refl _ _⟩
    · have h3 : (zs.length : Int) - base < 1 + 3 * n := by omega
      have h4 : 0 ≤ base := by omega
      have h5 : base ≤ zs.length := by omega
      clear hno'
      go_enter Tryz.func12, Tryz.ntmps12
      go_wp2_with (go_at_call 15; go_must (refine (refRoom_any n _).mono ?_; rintro e w3 ⟨rfl, rfl⟩; rw [HR.out]))
      go_ret2
      exact ⟨_, _, rfl, SeesP.nil _ _, Below.refl _ _⟩
set_option maxHeartbeats 8000000 in
theorem refRead_go (b o c L : Nat) (zs : List Int) (k N : Nat) (w : World) (hL : zs.length = L) (_hlen : L ≤ maxLen) (hcap : L ≤ c) (hc63 : c ≤ maxLen) (hs : Sees w (some ⟨b, o, none⟩) zs) (h1 : 1 ≤ N) (h60 : N ≤ 60) (hfit : k + (1 + 3 * N) ≤ L)
    (st key val : Nat → Int) (hst : st = fun i => zs.getD (k + (1 + 3 * i)) 0) (hkey : key = fun i => zs.getD (k + (2 + 3 * i)) 0) (hval : val = fun i => zs.getD (k + (3 + 3 * i)) 0) (c0 : Int) (hc0 : c0 = zs.getD k 0) :
    Calls Tryz.prog 12 #[.slice (some ⟨b, o, none⟩) L c, .int .i64 k, .int .i64 N] w (RefZ (readZ st key val N c0) w) := by
  have HCELL := Lib.hid (show ∀ W, Below w.heap.size w W → ∀ j, j < 1 + 3 * N → W.cell? ⟨b, o + k + j, none⟩ = some (.int .i64 (zs.getD (k + j) 0)) from fun W hB j hj => by
    have := seen_at hs (k + j) (by omega)
    rw [← Nat.add_assoc] at this
    exact (hB.cell (p := ⟨b, o + k + j, none⟩) (block_lt_of_cell this)).trans this)
  have HC1 := Lib.hid (show ∀ W, Below w.heap.size w W → ∀ i, i < N → W.cell? ⟨b, o + k + (1 + 3 * i), none⟩ = some (.int .i64 (st i)) from fun W hB i hi => by rw [hst]; exact HCELL.out W hB _ (by omega))
  have HC2 := Lib.hid (show ∀ W, Below w.heap.size w W → ∀ i, i < N → W.cell? ⟨b, o + k + (2 + 3 * i), none⟩ = some (.int .i64 (key i)) from fun W hB i hi => by rw [hkey]; exact HCELL.out W hB _ (by omega))
  have HC3 := Lib.hid (show ∀ W, Below w.heap.size w W → ∀ i, i < N → W.cell? ⟨b, o + k + (3 + 3 * i), none⟩ = some (.int .i64 (val i)) from fun W hB i hi => by rw [hval]; exact HCELL.out W hB _ (by omega))
  have HC0 := Lib.hid (show ∀ W, Below w.heap.size w W → W.cell? ⟨b, o + k, none⟩ = some (.int .i64 c0) from fun W hB => by rw [hc0]; exact HCELL.out W hB 0 (by omega))
  clear hs hL hst hkey hval hc0 HCELL
  unfold maxLen at _hlen hc63
  have HR := Lib.hid (show roomI N = 1 + 3 * N by unfold roomI; rw [if_pos ⟨by omega, by omega⟩])
  have hn0 : (1 + 3 * (N : Int) == 0) = false := by simp; omega
  have hN0 : ((N : Int) == 0) = false := by simp; omega
  have g1 : ¬ (k : Int) < 0 := by omega
  have g2 : ¬ (L : Int) < (k : Int) := by omega
  have g3 : ¬ (L : Int) - (k : Int) < 1 + 3 * (N : Int) := by omega
  have d5 : decide (L < k) = false := by simp; omega
  have d6 : decide ((L : Int) - (k : Int) < 1 + 3 * (N : Int)) = false := by simp; omega
  have d7 : decide ((k : Int) < 0) = false := by simp
  have g4 : (k : Int) + (1 + 3 * (N : Int)) - (k : Int) = ((1 + 3 * N : Nat) : Int) := by omega
  have g5 : ((k : Int) + (1 + 3 * (N : Int))).toNat - k = 1 + 3 * N := by omega
  go_enter Tryz.func12, Tryz.ntmps12
  go_wp2_with (go_at_call 15; go_must (refine (refRoom_any N _).mono ?_; rintro e w3 ⟨rfl, rfl⟩; rw [HR.out]))
  go_loopw [10, 11, 12] (fun vo vm vi wr => ∃ i : Nat, i ≤ N ∧ vi = .int .i64 i ∧ vm = .int .i64 (usedL st key val i).length ∧ (∀ j, j < i → okAt st key N j = true) ∧ OwnE wr w3.heap.size vo (sortE (usedL st key val i)) ∧ Below w3.heap.size w3 wr) (fun _ _ vi _ => N - (intOf vi).toNat)
  case atStart => exact ⟨0, Nat.zero_le _, rfl, rfl, fun j hj => by omega, OwnE.nil _ _, Below.refl _ _⟩
  case round =>
    obtain ⟨i, hiN, rfl, rfl, hok, hO, hB⟩ := hrel
    obtain ⟨wO, rfl⟩ : ∃ wO : World, wO = wr := ⟨_, rfl⟩
    have hlu := usedL_len st key val i
    have hls := sortE_len (usedL_nodup val i hok)
    obtain ⟨M, hM⟩ : ∃ M, M = (usedL st key val i).length := ⟨_, rfl⟩
    rw [← hM] at hlu hls ⊢
    obtain ⟨ao, co, rfl, hf1, hf2, -, -⟩ := hO.slice
    rw [hls] at hO hf2 ⊢
    have HLS := Lib.hid hls
    have HM := Lib.hid hM
    have HOK := Lib.hid hok
    have HO := Lib.hid hO
    have HB := Lib.hid hB
    clear hls hM hok hO
    by_cases hlt : i < N
    · have q1 := HC1.out _ hB i hlt
      have q2 := HC2.out _ hB i hlt
      have q3 := HC3.out _ hB i hlt
      obtain ⟨z, hz⟩ : ∃ z, z = st i := ⟨_, rfl⟩
      obtain ⟨kk, hkk⟩ : ∃ kk, kk = key i := ⟨_, rfl⟩
      obtain ⟨vv, hvv⟩ : ∃ vv, vv = val i := ⟨_, rfl⟩
      rw [← hz] at q1
      rw [← hkk] at q2
      rw [← hvv] at q3
      have HZ := Lib.hid hz
      have HK := Lib.hid hkk
      have HV := Lib.hid hvv
      have g1 : IntKind.i64.wrap (3 * (i : Int)) = 3 * (i : Int) := IntWalk.i64_in _ (by omega)
      have g2 : IntKind.i64.wrap (1 + 3 * (i : Int)) = 1 + 3 * (i : Int) := IntWalk.i64_in _ (by omega)
      have g3 : IntKind.i64.wrap (2 + 3 * (i : Int)) = 2 + 3 * (i : Int) := IntWalk.i64_in _ (by omega)
      have g4 : (0 : Int) ≤ 1 + 3 * (i : Int) := by omega
      have g5 : (0 : Int) ≤ 2 + 3 * (i : Int) := by omega
      have g6 : (1 + 3 * (i : Int)).toNat = 1 + 3 * i := by omega
      have g7 : (2 + 3 * (i : Int)).toNat = 2 + 3 * i := by omega
      have g8 : (1 + 3 * (i : Int)) < 1 + 3 * (N : Int) := by omega
      have g9 : (2 + 3 * (i : Int)) < 1 + 3 * (N : Int) := by omega
      have gA : IntKind.i64.wrap (3 + 3 * (i : Int)) = 3 + 3 * (i : Int) := IntWalk.i64_in _ (by omega)
      have gB : (0 : Int) ≤ 3 + 3 * (i : Int) := by omega
      have gC : (3 + 3 * (i : Int)).toNat = 3 + 3 * i := by omega
      have gD : (3 + 3 * (i : Int)) < 1 + 3 * (N : Int) := by omega
      clear hz hkk hvv hB
      by_cases hz0 : z < 0
      · have hd : decide (z < 0) = true := by simpa using hz0
        have HBAD := Lib.hid (show okAt st key N i = false by simp [okAt, ← HZ.out]; omega)
        clear hz0
        go_wp2
        go_ret2
        exact refZ_none (readZ_bad hlt HBAD.out) HB.out
      by_cases hz2 : 2 < z
      · have hd : decide (z < 0) = false := by simp; omega
        have hd2 : decide (2 < z) = true := by simpa using hz2
        have HBAD := Lib.hid (show okAt st key N i = false by simp [okAt, ← HZ.out]; omega)
        clear hz0 hz2
        go_wp2
        go_ret2
        exact refZ_none (readZ_bad hlt HBAD.out) HB.out
      have hd : decide (z < 0) = false := by simp; omega
      have hd2 : decide (2 < z) = false := by simp; omega
      by_cases hz1 : z = 1
      case neg =>
        have hd3 : (z != 1) = true := by simpa using hz1
        have HGOOD := Lib.hid (show okAt st key N i = true by simp [okAt, ← HZ.out]; exact ⟨by omega, .inl hz1⟩)
        have HUS := Lib.hid (show usedL st key val (i + 1) = usedL st key val i by rw [usedL_succ, if_neg (by rw [← HZ.out]; exact hz1), List.append_nil])
        clear hz0 hz2 hz1
        go_wp2
        go_roundw
        case rel => exact ⟨i + 1, by omega, by go_num, by rw [HUS.out, HM.out], fun j hj => by
          by_cases e : j = i
          · rw [e]; exact HGOOD.out
          · exact HOK.out j (by omega), by rw [HUS.out]; exact HO.out, HB.out⟩
        case measure => simp [intOf]; omega
      subst hz1
      clear hz0 hz2 hd hd2
      have HUS := Lib.hid (show usedL st key val (i + 1) = usedL st key val i ++ [(kk, vv)] by rw [usedL_succ, if_pos HZ.out.symm, HK.out, HV.out])
      go_upto_region 17 with (fail)
      go_loop [15] (fun vk => ∃ t : Nat, t ≤ i ∧ vk = .int .i64 t ∧ ∀ u, u < t → st u = 1 → key u ≠ kk) (fun vk => i - (intOf vk).toNat)
      case atStart => exact ⟨0, Nat.zero_le _, rfl, fun u hu => by omega⟩
      case round =>
        obtain ⟨t, hti, rfl, hpre⟩ := hrel
        have HPRE := Lib.hid hpre
        clear hpre
        by_cases htl : t < i
        · have r1 := HC1.out _ HB.out t (by omega)
          have r2 := HC2.out _ HB.out t (by omega)
          obtain ⟨zt, hzt⟩ : ∃ zt, zt = st t := ⟨_, rfl⟩
          obtain ⟨kt, hkt⟩ : ∃ kt, kt = key t := ⟨_, rfl⟩
          rw [← hzt] at r1
          rw [← hkt] at r2
          have HZT := Lib.hid hzt
          have HKT := Lib.hid hkt
          have f1 : IntKind.i64.wrap (3 * (t : Int)) = 3 * (t : Int) := IntWalk.i64_in _ (by omega)
          have f2 : IntKind.i64.wrap (1 + 3 * (t : Int)) = 1 + 3 * (t : Int) := IntWalk.i64_in _ (by omega)
          have f3 : IntKind.i64.wrap (2 + 3 * (t : Int)) = 2 + 3 * (t : Int) := IntWalk.i64_in _ (by omega)
          have f4 : (0 : Int) ≤ 1 + 3 * (t : Int) := by omega
          have f5 : (0 : Int) ≤ 2 + 3 * (t : Int) := by omega
          have f6 : (1 + 3 * (t : Int)).toNat = 1 + 3 * t := by omega
          have f7 : (2 + 3 * (t : Int)).toNat = 2 + 3 * t := by omega
          have f8 : (1 + 3 * (t : Int)) < 1 + 3 * (N : Int) := by omega
          have f9 : (2 + 3 * (t : Int)) < 1 + 3 * (N : Int) := by omega
          clear hzt hkt
          by_cases hb : zt = 1 ∧ kt = kk
          · have e1 : (zt == 1) = true := by simpa using hb.1
            have e2 : (kt == kk) = true := by simpa using hb.2
            have HBAD := Lib.hid (show okAt st key N i = false by
              have e1 : decide (st i ≠ 1) = false := by rw [← HZ.out]; simp
              have e2 : decide (∀ k, k < i → st k = 1 → key k ≠ key i) = false := by
                simp only [decide_eq_false_iff_not]
                intro h
                exact h t htl (by rw [← HZT.out, hb.1]) (by rw [← HKT.out, ← HK.out, hb.2])
              unfold okAt
              rw [e1, e2]
              simp)
            clear hb
            go_wp2
            go_ret2
            exact refZ_none (readZ_bad hlt HBAD.out) HB.out
          · have HNB := Lib.hid (show ∀ u, u < t + 1 → st u = 1 → key u ≠ kk from fun u hu h1 h2 => by
              by_cases e : u = t
              · subst e
                exact hb ⟨by rw [HZT.out, h1], by rw [HKT.out, h2]⟩
              · exact HPRE.out u (by omega) h1 h2)
            by_cases hz1 : zt = 1
            · have hk1 : ¬ kt = kk := fun h => hb ⟨hz1, h⟩
              have e1 : (zt == 1) = true := by simpa using hz1
              have e2 : (kt == kk) = false := by simpa using hk1
              clear hb hz1 hk1
              go_wp2
              go_round
              case rel => exact ⟨t + 1, by omega, by go_num, HNB.out⟩
              case measure => simp [intOf]; omega
            · have e1 : (zt == 1) = false := by simpa using hz1
              clear hb hz1
              go_wp2
              go_round
              case rel => exact ⟨t + 1, by omega, by go_num, HNB.out⟩
              case measure => simp [intOf]; omega
        · obtain rfl : t = i := by omega
          obtain ⟨h, hhd⟩ : ∃ h, h = homeN kk N := ⟨_, rfl⟩
          have hhN : h < N := by rw [hhd]; exact homeN_lt kk (by omega)
          have HH := Lib.hid hhd
          clear hhd htl hti
          go_upto_region 22 with (go_at_call 29; go_must (refine (refHome_any kk N h1 h60 _).mono ?_; rintro e w8 ⟨rfl, rfl⟩; rw [← HH.out]))
          go_loop [16] (fun vh => ∃ j, j ≤ distN N h t ∧ vh = .int .i64 (stepN N h j : Nat) ∧ ∀ u, u < j → st (stepN N h u) ≠ 0) (fun vh => distN N (intOf vh).toNat t)
          case atStart => exact ⟨0, Nat.zero_le _, by rw [stepN_zero hhN, HH.out], fun u hu => by omega⟩
          case round =>
            obtain ⟨j, hj, rfl, hpre⟩ := hrel
            have HPR := Lib.hid hpre
            obtain ⟨g, hg⟩ : ∃ g, g = stepN N h j := ⟨_, rfl⟩
            have hgN : g < N := by rw [hg]; exact stepN_lt hhN hlt hj
            have HG := Lib.hid hg
            rw [← hg]
            clear hpre hg
            by_cases hjl : j < distN N h t
            · have hne : g ≠ t := by rw [HG.out]; exact stepN_ne hhN hjl
              have hd4 : ((g : Int) != (t : Int)) = true := by simp; omega
              have r3 := HC1.out _ HB.out g hgN
              obtain ⟨z, hz⟩ : ∃ z, z = st g := ⟨_, rfl⟩
              rw [← hz] at r3
              have HZG := Lib.hid hz
              have HJL := Lib.hid hjl
              have f1 : IntKind.i64.wrap (3 * (g : Int)) = 3 * (g : Int) := IntWalk.i64_in _ (by omega)
              have f2 : IntKind.i64.wrap (1 + 3 * (g : Int)) = 1 + 3 * (g : Int) := IntWalk.i64_in _ (by omega)
              have f3 : (0 : Int) ≤ 1 + 3 * (g : Int) := by omega
              have f4 : (1 + 3 * (g : Int)).toNat = 1 + 3 * g := by omega
              have f5 : (1 + 3 * (g : Int)) < 1 + 3 * (N : Int) := by omega
              clear hz hne hjl
              by_cases hz0 : z = 0
              · have hd5 : (z == 0) = true := by simpa using hz0
                have HBAD := Lib.hid (show okAt st key N t = false by
                  have e1 : decide (st t ≠ 1) = false := by rw [← HZ.out]; simp
                  have e2 : pathB st N (homeN (key t) N) t = false := by
                    unfold pathB
                    simp only [decide_eq_false_iff_not]
                    intro hp
                    rw [← HK.out, ← HH.out] at hp
                    exact hp j HJL.out (by rw [← HG.out, ← HZG.out, hz0])
                  unfold okAt
                  rw [e1, e2]
                  simp)
                clear hz0
                go_wp2
                go_ret2
                exact refZ_none (readZ_bad hlt HBAD.out) HB.out
              · have hd5 : (z == 0) = false := by simpa using hz0
                have HNZ := Lib.hid hz0
                have HST := Lib.hid (stepN_succ hhN hlt HJL.out)
                rw [← HG.out] at HST
                have hrt : ((g : Int) + 1).tmod (N : Int) = (((g + 1) % N : Nat) : Int) := by
                  rw [Int.tmod_eq_emod_of_nonneg (by omega)]
                  simp
                have hre : ((g : Int) + 1) % (N : Int) = (((g + 1) % N : Nat) : Int) := by simp
                have hM := distN_step hhN hlt (j := j) (by have := HJL.out; omega)
                have hM2 := distN_step hhN hlt (j := j + 1) HJL.out
                rw [← HG.out] at hM
                rw [← HST.out] at hM2
                have HM1 := Lib.hid hM
                have HM2 := Lib.hid hM2
                have hjl := HJL.out
                have HST2 := Lib.hid HST.out
                clear hM hM2 hz0 HST
                generalize (g + 1) % N = r at hrt hre HST2 HM2
                go_wp2
                go_round
                case rel => exact ⟨j + 1, hjl, by rw [HST2.out], fun u hu => by
                  by_cases e : u = j
                  · rw [e, ← HG.out, ← HZG.out]; exact HNZ.out
                  · exact HPR.out u (by omega)⟩
                case measure => simp only [intOf, Int.toNat_natCast]; rw [HM1.out, HM2.out]; omega
            · have hje : j = distN N h t := by omega
              have hgi : g = t := by rw [HG.out, hje]; exact stepN_end hhN hlt
              have hd4 : ((g : Int) != (t : Int)) = false := by simp; omega
              have HGOOD := Lib.hid (show okAt st key N t = true by
                have e0 : decide (0 ≤ st t ∧ st t ≤ 2) = true := by rw [← HZ.out]; simp
                have e1 : decide (∀ k, k < t → st k = 1 → key k ≠ key t) = true := by rw [decide_eq_true_eq, ← HK.out]; exact HPRE.out
                have e2 : pathB st N (homeN (key t) N) t = true := by
                  unfold pathB
                  rw [decide_eq_true_eq, ← HK.out, ← HH.out, ← hje]
                  exact HPR.out
                unfold okAt
                rw [e0, e1, e2]
                simp)
              clear hje hgi HG hgN
              go_wp2_with (go_at_call 30; go_must (refine (put_any ao M co (sortE (usedL st key val t)) kk vv _ HLS.out (by omega) (by exact HO.out.sees)).mono ?_; rintro e w9 ⟨v9, rfl, ho9, hb9⟩))
              go_roundw
              case rel => exact ⟨t + 1, by omega, by go_num, by rw [HUS.out, List.length_append, ← HM.out]; go_num, fun j hj => by
                by_cases e : j = t
                · rw [e]; exact HGOOD.out
                · exact HOK.out j (by omega), by rw [HUS.out, sortE_snoc]; exact ho9.lower HB.out.size, HB.out.trans (hb9.mono HB.out.size)⟩
              case measure => simp [intOf]; omega
    · obtain rfl : i = N := by omega
      have q0 := HC0.out _ hB
      clear hB
      by_cases hc : c0 = (M : Int)
      case neg =>
        have hd : (c0 != (M : Int)) = true := by simpa using hc
        have HNO := Lib.hid (show readZ st key val i c0 = none by
          unfold readZ
          rw [if_neg]
          rintro ⟨_, h2⟩
          rw [h2, HM.out] at hc
          exact hc rfl)
        clear hc
        go_wp2
        go_ret2
        exact refZ_none HNO.out HB.out
      have hd : (c0 != (M : Int)) = false := by simpa using hc
      have HYES := Lib.hid (show readZ st key val i c0 = some (sortE (usedL st key val i)) by
        unfold readZ
        rw [if_pos ⟨HOK.out, by rw [hc, HM.out]⟩])
      clear hc
      go_wp2
      go_ret2
      exact refZ_some HYES.out HLS.out HO.out.sees HB.out
theorem refRead_fit (b o c L : Nat) (zs : List Int) (k N : Nat) (w : World) (hL : zs.length = L) (hlen : L ≤ maxLen) (hcap : L ≤ c) (hc63 : c ≤ maxLen) (hs : Sees w (some ⟨b, o, none⟩) zs) (h1 : 1 ≤ N) (h60 : N ≤ 60) (hfit : k + (1 + 3 * N) ≤ L) :
    Calls Tryz.prog 12 #[.slice (some ⟨b, o, none⟩) L c, .int .i64 k, .int .i64 N] w (RefZ (entsZ zs k N) w) :=
  refRead_go b o c L zs k N w hL hlen hcap hc63 hs h1 h60 hfit _ _ _ rfl rfl rfl _ rfl
theorem refRead_any (b o m c : Nat) (zs : List Int) (base n : Int) (w : World) (hm : zs.length = m) (hlen : m ≤ maxLen) (hcap : m ≤ c) (hc63 : c ≤ maxLen) (hs : Sees w (some ⟨b, o, none⟩) zs) :
    Calls Tryz.prog 12 #[.slice (some ⟨b, o, none⟩) m c, .int .i64 base, .int .i64 n] w (RefEnts (dictS zs base n).1 (dictS zs base n).2 w) := by
  unfold dictS
  cases hf : fitB zs base n with
  | false => subst hm; exact refRead_nofit _ c zs base n w hlen hf
  | true =>
    obtain ⟨k, N, rfl, rfl, h1, h2, h3, _⟩ := fit_parts hf
    simp only [if_true, Int.toNat_natCast]
    have := refRead_fit b o c m zs k N w hm hlen hcap hc63 hs h1 h2 (by omega)
    cases hg : entsZ zs k N with
    | none => rw [hg] at this; exact this
    | some l => rw [hg] at this; exact this
end Go.Proofs.YtochpdailleilaaGreatDoor
