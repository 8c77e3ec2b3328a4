/-
  quash/code.Join: every call over a slice that reads as programs. Condition: each of at most 2^43 instructions.
-/
import Derived.Test.YtoiokbdipcecnaaGreatDoorJoinMem
namespace Go.Proofs.YtoiokbdipcecnaaGreatDoor
open Go.RowKit
set_option maxRecDepth 100000

/-- what Join leaves -/
def JoinDoes (L : List Prog) (w : World) (e : Ending) (w' : World) : Prop :=
  ∃ v, e = .returned (.tuple #[v, .int .i64 (joinS L).2]) ∧ OwnP w' w.heap.size v (joinS L).1 ∧ Below w.heap.size w w'
theorem take3_ok {n : Nat} {l : Prog} (h : (checkL l).1 = 0) (hn : l.length = n) : 1 ≤ n ∧ n ≤ 400 ∧ ∀ (j : Nat) (x : Int × Int), l[j]? = some x → takes x.1 = 3 → 0 ≤ x.2 ∧ x.2 ≤ 400 := by
  subst hn
  obtain ⟨h1, h2, h3⟩ := checkL_ok h
  refine ⟨h1, h2, fun j x hx ht => ?_⟩
  have := (h3 j x hx).2
  rw [ht] at this
  have := place_ok this
  omega
set_option maxHeartbeats 8000000 in
theorem Join_any (ro : Option Addr) (K cR : Nat) (P : List PartV) (w : World) (hK : P.length = K) (hs : SeesR w ro P) (hPl : K ≤ 100000000000000) (hlen : ∀ x ∈ P, x.2.2.length * 16 ≤ 140737488351232 ∧ x.2.2.length ≤ x.2.1) :
    Calls Tryz.prog 55 #[.slice ro K cR] w (JoinDoes (progsV P) w) := by
  have HK := Lib.hid hK
  have HS := Lib.hid hs
  have HLEN := Lib.hid hlen
  obtain ⟨E, hE⟩ : ∃ E, E = errFrom (progsV P) := ⟨_, rfl⟩
  have HE := Lib.hid hE
  clear hK hs hlen hE
  go_enter Tryz.func55, Tryz.ntmps55
  go_wp2
  go_loopw [4, 16] (fun v u wr => ∃ k Z : Nat, k ≤ K ∧ u = .int .i64 k ∧ v = .int .i64 Z ∧ Z = min (sumL ((progsV P).take k)) 401 ∧ errFrom ((progsV P).drop k) = E ∧ Below w.heap.size w wr) (fun _ u _ => K - (intOf u).toNat)
  case atStart => exact ⟨0, 0, Nat.zero_le _, rfl, rfl, rfl, HE.out.symm, Below.refl _ _⟩
  case round =>
    obtain ⟨k, Z, hk, rfl, rfl, hZ, hR, hB⟩ := hrel
    have hZ4 : Z ≤ 401 := by omega
    have HZ := Lib.hid hZ
    clear hZ
    by_cases hlt : k < K
    · obtain ⟨⟨ao, cx, l⟩, hx⟩ : ∃ x, P[k]? = some x := ⟨_, List.getElem?_eq_getElem (by rw [HK.out]; exact hlt)⟩
      obtain ⟨b, o, hro, hc⟩ := HS.out.below hB
      obtain rfl := hro (by intro e; subst e; simp at hx)
      obtain ⟨c0, hsl⟩ := hc k _ hx
      simp only at c0 hsl
      have hll := (HLEN.out _ (List.mem_of_getElem? hx)).1
      simp only at hll
      have hes := errFrom_drop (progsV_at hx)
      rw [hR] at hes
      simp only at hes
      have hsn := sumL_snoc (progsV_at hx)
      simp only at hsn
      obtain ⟨n, hn⟩ : ∃ n, n = l.length := ⟨_, rfl⟩
      have HCHK := fun W (h : SeesP W ao l) => Lib.hid (Check_all ao n cx l W hn.symm h (by unfold maxLen; omega))
      rw [← hn] at c0 hll hsn
      have HSL := Lib.hid hsl
      have HSN := Lib.hid hsn
      have hi0 : (0 : Int) ≤ (k : Int) := by omega
      clear hc hsl hx hR hsn hn
      by_cases h0 : (checkL l).1 = 0
      · rw [if_pos h0] at hes
        generalize checkL l = R0 at h0 HCHK
        obtain ⟨r1, r2⟩ := R0
        simp only at h0
        subst h0
        have HES := Lib.hid hes
        obtain ⟨Z2, hZ2⟩ : ∃ Z2, Z2 = min (Z + n) 401 := ⟨_, rfl⟩
        have hmin : min ((Z : Int) + (n : Int)) 401 = (Z2 : Int) := by omega
        have HZ2 := Lib.hid hZ2
        clear hes hZ2
        go_wp2_with (go_at_call 16; go_must (refine (HCHK _ (by exact HSL.out)).out.mono ?_; rintro e w3 ⟨rfl, hb3⟩))
        go_roundw
        case rel => exact ⟨k + 1, Z2, by omega, by go_num, rfl, by rw [HZ2.out, HSN.out, HZ.out]; omega, HES.out.symm, hB.trans (hb3.mono hB.size)⟩
        case measure => simp [intOf]; omega
      · rw [if_neg h0] at hes
        generalize checkL l = R0 at h0 HCHK hes
        obtain ⟨r1, r2⟩ := R0
        simp only at h0 hes
        have hr1 : (r1 == 0) = false := by simpa using h0
        have HES := Lib.hid hes
        clear hes h0
        go_wp2_with (go_at_call 16; go_must (refine (HCHK _ (by exact HSL.out)).out.mono ?_; rintro e w3 ⟨rfl, hb3⟩))
        go_ret2
        have hj : joinS (progsV P) = ([], r1) := by
          unfold joinS
          rw [← HE.out, HES.out, if_neg (by simpa using hr1)]
        refine ⟨.slice none 0 0, ?_, ?_, hB.trans (hb3.mono hB.size)⟩
        · rw [hj]; rfl
        · rw [hj]; exact OwnP.nil _ _
    · obtain rfl : k = K := by omega
      have hdr : (progsV P).drop k = [] := List.drop_eq_nil_of_le (by rw [progsV_length, HK.out]; exact Nat.le_refl _)
      have htk : (progsV P).take k = progsV P := List.take_of_length_le (by rw [progsV_length, HK.out]; exact Nat.le_refl _)
      rw [hdr] at hR
      have hE0 : errFrom (progsV P) = 0 := by rw [← HE.out, ← hR]; rfl
      have hz := HZ.out
      rw [htk] at hz
      have HE0 := Lib.hid hE0
      have HZ3 := Lib.hid hz
      clear hR hdr htk hE0 hz
      by_cases hbad : Z < 1 ∨ 400 < Z
      · have hj : joinS (progsV P) = ([], 150) := by
          unfold joinS
          rw [HE0.out, if_pos rfl, if_pos (by have := HZ3.out; omega)]
        have HJ := Lib.hid hj
        clear hj
        by_cases hz1 : Z < 1
        · obtain rfl : Z = 0 := by omega
          clear hbad
          go_wp2
          go_ret2
          exact ⟨.slice none 0 0, by rw [HJ.out]; rfl, by rw [HJ.out]; exact OwnP.nil _ _, hB⟩
        · have hz2 : 400 < Z := by omega
          clear hbad
          go_wp2
          go_ret2
          exact ⟨.slice none 0 0, by rw [HJ.out]; rfl, by rw [HJ.out]; exact OwnP.nil _ _, hB⟩
      · have hz1 : ¬ Z < 1 := by omega
        have hz2 : ¬ 400 < Z := by omega
        have hj : joinS (progsV P) = (joinFrom [] (progsV P), 0) := by
          unfold joinS
          rw [HE0.out, if_pos rfl, if_neg (by have := HZ3.out; omega)]
        have HJ := Lib.hid hj
        have HSUM := Lib.hid (show sumL (progsV P) ≤ 400 by have := HZ3.out; omega)
        clear hj hbad
        go_wp2
        go_loopw [9, 43] (fun v u wr' => ∃ j : Nat, j ≤ k ∧ u = .int .i64 j ∧ OwnP wr' w.heap.size v (joinFrom [] ((progsV P).take j)) ∧ Below w.heap.size w wr') (fun _ u _ => k - (intOf u).toNat)
        case atStart => exact ⟨0, Nat.zero_le _, rfl, OwnP.nil _ _, hB⟩
        case round =>
          obtain ⟨j, hj, rfl, hown, hB2⟩ := hrel
          by_cases hjk : j < k
          · obtain ⟨⟨ao, cx, l⟩, hx⟩ : ∃ x, P[j]? = some x := ⟨_, List.getElem?_eq_getElem (by rw [HK.out]; exact hjk)⟩
            obtain ⟨b, o, hro, hc⟩ := HS.out.below hB2
            obtain rfl := hro (by intro e; subst e; simp at hx)
            obtain ⟨c0, hsl⟩ := hc j _ hx
            simp only at c0 hsl
            have hcapl := (HLEN.out _ (List.mem_of_getElem? hx)).2
            simp only at hcapl
            have h0 := errFrom_all HE0.out l (List.mem_of_getElem? (progsV_at hx))
            obtain ⟨hn1, hn2, hpl⟩ := take3_ok h0 rfl
            obtain ⟨bl, ol, hao, hcl⟩ := hsl
            obtain rfl := hao (by intro e; subst e; simp at hn1)
            have HSL := Lib.hid (show SeesP wr (some ⟨bl, ol, none⟩) l from ⟨bl, ol, fun _ => rfl, hcl⟩)
            have HPL := Lib.hid hpl
            have hsn := sumL_snoc (progsV_at hx)
            have hst := sumL_take (progsV P) (j + 1)
            have hjl := joinFrom_length ((progsV P).take j) []
            have hjs := joinFrom_snoc (progsV_at hx) []
            simp only at hsn hjs
            obtain ⟨acc, hacc⟩ : ∃ acc, acc = joinFrom [] ((progsV P).take j) := ⟨_, rfl⟩
            rw [← hacc] at hown hjl hjs
            obtain ⟨A, hA⟩ : ∃ A, A = acc.length := ⟨_, rfl⟩
            obtain ⟨n, hn⟩ : ∃ n, n = l.length := ⟨_, rfl⟩
            rw [← hn] at hn1 hn2 hcapl hsn c0
            have hAn : A + n ≤ 400 := by
              have h1 := HSUM.out
              rw [hA, hjl, List.length_nil]
              omega
            have HJS := Lib.hid hjs
            have HA := Lib.hid hA
            have HNL := Lib.hid hn
            have HCL := Lib.hid (CloneP_some bl ol cx l wr (by rw [← hn]; omega) (by rw [← hn]; exact hcapl) HSL.out)
            rw [← hn] at HCL
            obtain ⟨ao2, c2, rfl, -, -⟩ := hown.slice
            rw [← hA] at hown ⊢
            have HO := Lib.hid hown
            have HB2 := Lib.hid hB2
            have hz2 := hB2.size
            have hi0 : (0 : Int) ≤ (j : Int) := by omega
            clear hcl hpl hsn hst hjl hjs hacc hA hn hx hc hown hB2 hro hao h0
            go_upto_region 19 with (first
              | (go_at_call 80; go_must (refine HCL.out.mono ?_; rintro e w4 ⟨v4, rfl, ho4, hb4⟩; obtain ⟨ao4, c4, rfl, hs4, hn4⟩ := ho4.slice; rw [← HNL.out]))
              | (at_builtin; refine wpList_appendP (HO.out.below hb4) (Nat.le_trans hz2 hb4.size) ao4 n c4 l HNL.out.symm hs4 hn4 (by rw [← HA.out, ← HNL.out]; omega) rfl _ _ rfl rfl rfl ?_; intro v5 w5 hown5 hgrow5))
            have hlen5 : (acc ++ l).length = A + n := by rw [List.length_append, ← HA.out, ← HNL.out]
            obtain ⟨g, cap, hv5⟩ := Joins.ownsRow_form hown5 (by omega)
            rw [hlen5] at hv5
            subst hv5
            have hown6 : OwnP w5 w.heap.size (.slice (some ⟨g, 0, none⟩) (A + n) cap) (midP acc l 0) := by rw [midP_zero]; exact hown5
            have hB5 : Below w.heap.size w w5 := (HB2.out.trans (hb4.mono hz2)).grown hgrow5 (Nat.le_trans hz2 hb4.size) (fun k hk => own_ge HO.out hk)
            have HO6 := Lib.hid hown6
            have HB5 := Lib.hid hB5
            clear ho4 hb4 hs4 hown5 hgrow5 hown6 hB5 hlen5
            go_wp2
            go_loopw [13] (fun v wr3 => ∃ t I : Nat, t ≤ n ∧ I = A + t ∧ v = .int .i64 I ∧ OwnP wr3 w.heap.size (.slice (some ⟨g, 0, none⟩) (A + n) cap) (midP acc l t) ∧ Below w.heap.size w wr3) (fun v _ => A + n - (intOf v).toNat)
            case atStart => exact ⟨0, A, Nat.zero_le _, rfl, rfl, HO6.out, HB5.out⟩
            case round =>
              obtain ⟨t, I, ht, hI, rfl, ho, hb⟩ := hrel
              have hIA : I ≤ 400 := by omega
              by_cases htn : t < n
              · obtain ⟨⟨op, a⟩, hlx⟩ : ∃ x, l[t]? = some x := ⟨_, List.getElem?_eq_getElem (by rw [← HNL.out]; exact htn)⟩
                have hmx := midP_at acc l t hlx
                rw [← HA.out, ← hI] at hmx
                have hml := midP_length acc l t (by rw [← HNL.out]; exact ht)
                rw [← HA.out, ← HNL.out] at hml
                have hIl : I < A + n := by omega
                have hIl' : (I : Int) < (A : Int) + (n : Int) := by omega
                have x0 := (ho.at' hml hmx).1
                have hI0 : (0 : Int) ≤ (I : Int) := by omega
                have hstep := midP_step acc l t hlx
                rw [← HA.out, ← hI] at hstep
                have HST := Lib.hid hstep
                have HMX := Lib.hid hmx
                have HML := Lib.hid hml
                have HLX := Lib.hid hlx
                have HO7 := Lib.hid ho
                have HB7 := Lib.hid hb
                have hz7 := hb.size
                have HII := Lib.hid hI
                have htn2 : t + 1 ≤ n := by omega
                clear hmx hml hstep hlx ho hb hI
                simp only at x0
                by_cases h3 : takes op = 3
                · obtain ⟨ha0, ha1⟩ := HPL.out t _ HLX.out h3
                  simp only at ha0 ha1
                  have H3 := Lib.hid h3
                  clear h3
                  go_upto_region 23 with (go_at_call 81; go_must (refine (Takes_any op _).mono ?_; rintro e w6 ⟨rfl, hb6⟩; rw [H3.out]))
                  have h3 := H3.out
                  have HO8 := Lib.hid (HO7.out.below hb6)
                  have HB8 := Lib.hid (HB7.out.trans (hb6.mono hz7))
                  obtain ⟨-, y1, f1⟩ := HO8.out.at' HML.out HMX.out
                  simp only at y1
                  have hset := HO8.out.set HML.out (k := I) (by rw [HML.out]; exact hIl) (a + (A : Int))
                  have hgd : (midP acc l t).getD I (0, 0) = (op, a) := by rw [List.getD_eq_getElem?_getD, HMX.out]; rfl
                  have hsx : shiftX A (op, a) = (op, a + (A : Int)) := by unfold shiftX; rw [if_pos h3]
                  rw [hgd] at hset
                  simp only at hset
                  rw [← hsx, ← HST.out] at hset
                  have HSET := Lib.hid hset
                  have hgB := own_ge HO8.out (g := g) rfl
                  clear hset hgd hsx h3 H3 x0 hb6
                  go_wp2
                  go_roundw
                  case rel => exact ⟨t + 1, I + 1, htn2, by rw [HII.out, Nat.add_assoc], by go_num, HSET.out, HB8.out.setCell (p := ⟨g, I * 2 + 1, none⟩) hgB _⟩
                  case measure => simp [intOf]; omega
                · have hsx : shiftX A (op, a) = (op, a) := by unfold shiftX; rw [if_neg h3]
                  have hkp := midP_keep acc l t HLX.out (by rw [← HA.out]; exact hsx)
                  have HKP := Lib.hid hkp
                  have hb3 : (takes op == 3) = false := by simpa using h3
                  clear hsx hkp h3
                  go_wp2_with (go_at_call 81; go_must (refine (Takes_any op _).mono ?_; rintro e w6 ⟨rfl, hb6⟩))
                  go_roundw
                  case rel => exact ⟨t + 1, I + 1, htn2, by rw [HII.out, Nat.add_assoc], by go_num, by rw [HKP.out]; exact HO7.out.below hb6, HB7.out.trans (hb6.mono hz7)⟩
                  case measure => simp [intOf]; omega
              · obtain rfl : t = n := by omega
                have HI := Lib.hid hI
                have hw : ¬ I < A + t := by omega
                clear hI
                go_wp2
                go_roundw
                case rel =>
                  refine ⟨j + 1, by omega, by go_num, ?_, hb⟩
                  rw [HJS.out]
                  have := midP_end acc l
                  rw [← HNL.out] at this
                  rw [← this]
                  exact ho
                case measure => simp [intOf]; omega
          · obtain rfl : j = k := by omega
            have htk : (progsV P).take j = progsV P := List.take_of_length_le (by rw [progsV_length, HK.out]; exact Nat.le_refl _)
            rw [htk] at hown
            clear htk
            obtain ⟨ao9, c9, rfl, -, -⟩ := hown.slice
            go_wp2
            go_ret2
            exact ⟨.slice ao9 (joinFrom [] (progsV P)).length c9, by rw [HJ.out]; rfl, by rw [HJ.out]; exact hown, hB2⟩
end Go.Proofs.YtoiokbdipcecnaaGreatDoor
