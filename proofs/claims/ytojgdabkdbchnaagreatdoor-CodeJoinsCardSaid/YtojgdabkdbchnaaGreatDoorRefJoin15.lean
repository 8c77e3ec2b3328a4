/-
  quash/quashref15.Join: every call over a slice that reads as programs. Condition: each of at most 2^43 instructions.
-/
import Derived.Test.YtojgdabkdbchnaaGreatDoorCodeJoin
import Derived.Test.YtojgdabkdbchnaaGreatDoorRefSmall15
namespace Go.Proofs.YtojgdabkdbchnaaGreatDoor
open Go.RowKit
set_option maxRecDepth 100000

theorem moved_step (acc l : Prog) (A t : Nat) {x : Int × Int} (h : l[t]? = some x) : acc ++ (l.take (t + 1)).map (shiftX A) = (acc ++ (l.take t).map (shiftX A)) ++ [shiftX A x] := by
  rw [List.take_add_one, h]
  simp
set_option maxHeartbeats 8000000 in
theorem refJoin_any (ro : Option Addr) (K cR : Nat) (P : List PartV) (w : World) (hK : P.length = K) (hs : SeesR w ro P) (hPl : K ≤ 100000000000000) (hlen : ∀ x ∈ P, x.2.2.length * 16 ≤ 140737488351232) :
    Calls Tryz.prog 17 #[.slice ro K cR] w (JoinDoes (progsV P) w) := by
  have HK := Lib.hid hK
  have HS := Lib.hid hs
  have HLEN := Lib.hid hlen
  obtain ⟨E, hE⟩ : ∃ E, E = errFrom (progsV P) := ⟨_, rfl⟩
  have HE := Lib.hid hE
  clear hK hs hlen hE
  go_enter Tryz.func17, Tryz.ntmps17
  go_wp2
  go_loop [4, 5] (fun v u => ∃ k Z : Nat, k ≤ K ∧ u = .int .i64 k ∧ v = .int .i64 Z ∧ (Z = sumL ((progsV P).take k) ∨ (400 < Z ∧ 400 < sumL ((progsV P).take k))) ∧ Z ≤ 140737488351632 ∧ errFrom ((progsV P).drop k) = E) (fun _ u => K - (intOf u).toNat)
  case atStart => exact ⟨0, 0, Nat.zero_le _, rfl, rfl, .inl rfl, by decide, HE.out.symm⟩
  case round =>
    obtain ⟨k, Z, hk, rfl, rfl, hZ, hZ4, hR⟩ := hrel
    have HZ := Lib.hid hZ
    clear hZ
    by_cases hlt : k < K
    · obtain ⟨⟨ao, cx, l⟩, hx⟩ : ∃ x, P[k]? = some x := ⟨_, List.getElem?_eq_getElem (by rw [HK.out]; exact hlt)⟩
      obtain ⟨b, o, hro, hc⟩ := HS.out
      obtain rfl := hro (by intro e; subst e; simp at hx)
      obtain ⟨c0, hsl⟩ := hc k _ hx
      simp only at c0 hsl
      have hll := HLEN.out _ (List.mem_of_getElem? hx)
      simp only at hll
      have hes := errFrom_drop (progsV_at hx)
      rw [hR] at hes
      simp only at hes
      have hsn := sumL_snoc (progsV_at hx)
      simp only at hsn
      obtain ⟨n, hn⟩ : ∃ n, n = l.length := ⟨_, rfl⟩
      have HCHK := fun W (h : SeesP W ao l) => Lib.hid (refCheck_any ao n cx l W hn.symm h (by unfold maxLen; omega))
      rw [← hn] at c0 hll hsn
      have HSL := Lib.hid hsl
      have HSN := Lib.hid hsn
      have hi0 : (0 : Int) ≤ (k : Int) := by omega
      clear hc hsl hx hR hsn hn
      by_cases h0 : (checkL l).1 = 0
      · rw [if_pos h0] at hes
        generalize checkL l = R0 at h0 HCHK
        obtain ⟨r1, r2⟩ := R0
        simp only at h0
        subst h0
        have HES := Lib.hid hes
        clear hes
        by_cases hz4 : Z ≤ 400
        · go_wp2_with (go_at_call 21; go_must (refine (HCHK _ (by exact HSL.out)).out.mono ?_; rintro e w3 ⟨rfl, rfl⟩))
          go_round
          case rel => exact ⟨k + 1, Z + n, by omega, by go_num, by go_num, by rw [HSN.out]; have := HZ.out; omega, by omega, HES.out.symm⟩
          case measure => simp [intOf]; omega
        · have hz5 : decide (Z ≤ 400) = false := by simp; omega
          go_wp2_with (go_at_call 21; go_must (refine (HCHK _ (by exact HSL.out)).out.mono ?_; rintro e w3 ⟨rfl, rfl⟩))
          go_round
          case rel => exact ⟨k + 1, Z, by omega, by go_num, rfl, by rw [HSN.out]; have := HZ.out; omega, by omega, HES.out.symm⟩
          case measure => simp [intOf]; omega
      · rw [if_neg h0] at hes
        generalize checkL l = R0 at h0 HCHK hes
        obtain ⟨r1, r2⟩ := R0
        simp only at h0 hes
        have hr1 : (r1 == 0) = false := by simpa using h0
        have HES := Lib.hid hes
        clear hes h0
        go_wp2_with (go_at_call 21; go_must (refine (HCHK _ (by exact HSL.out)).out.mono ?_; rintro e w3 ⟨rfl, rfl⟩))
        go_ret2
        have hj : joinS (progsV P) = ([], r1) := by
          unfold joinS
          rw [← HE.out, HES.out, if_neg (by simpa using hr1)]
        refine ⟨.slice none 0 0, ?_, ?_, Below.refl _ _⟩
        · rw [hj]; rfl
        · rw [hj]; exact OwnP.nil _ _
    · obtain rfl : k = K := by omega
      have hdr : (progsV P).drop k = [] := List.drop_eq_nil_of_le (by rw [progsV_length, HK.out]; exact Nat.le_refl _)
      have htk : (progsV P).take k = progsV P := List.take_of_length_le (by rw [progsV_length, HK.out]; exact Nat.le_refl _)
      rw [hdr] at hR
      have hE0 : errFrom (progsV P) = 0 := by rw [← HE.out, ← hR]; rfl
      have hz := HZ.out
      rw [htk] at hz
      have HE0 := Lib.hid hE0
      have HZ3 := Lib.hid hz
      clear hR hdr htk hE0 hz
      by_cases hbad : Z < 1 ∨ 400 < Z
      · have hj : joinS (progsV P) = ([], 150) := by
          unfold joinS
          rw [HE0.out, if_pos rfl, if_pos (by have := HZ3.out; omega)]
        have HJ := Lib.hid hj
        clear hj
        by_cases hz1 : Z < 1
        · obtain rfl : Z = 0 := by omega
          clear hbad
          go_wp2
          go_ret2
          exact ⟨.slice none 0 0, by rw [HJ.out]; rfl, by rw [HJ.out]; exact OwnP.nil _ _, Below.refl _ _⟩
        · have hz2 : 400 < Z := by omega
          clear hbad
          go_wp2
          go_ret2
          exact ⟨.slice none 0 0, by rw [HJ.out]; rfl, by rw [HJ.out]; exact OwnP.nil _ _, Below.refl _ _⟩
      · have hz1 : ¬ Z < 1 := by omega
        have hz2 : ¬ 400 < Z := by omega
        have hj : joinS (progsV P) = (joinFrom [] (progsV P), 0) := by
          unfold joinS
          rw [HE0.out, if_pos rfl, if_neg (by have := HZ3.out; omega)]
        have HJ := Lib.hid hj
        have HSUM := Lib.hid (show sumL (progsV P) ≤ 400 by have := HZ3.out; omega)
        clear hj hbad
        go_wp2
        go_loopw [8, 9] (fun v u wr' => ∃ j : Nat, j ≤ k ∧ u = .int .i64 j ∧ OwnP wr' w.heap.size v (joinFrom [] ((progsV P).take j)) ∧ Below w.heap.size w wr') (fun _ u _ => k - (intOf u).toNat)
        case atStart => exact ⟨0, Nat.zero_le _, rfl, OwnP.nil _ _, Below.refl _ _⟩
        case round =>
          obtain ⟨j, hj, rfl, hown, hB2⟩ := hrel
          by_cases hjk : j < k
          · obtain ⟨⟨ao, cx, l⟩, hx⟩ : ∃ x, P[j]? = some x := ⟨_, List.getElem?_eq_getElem (by rw [HK.out]; exact hjk)⟩
            obtain ⟨b, o, hro, hcw⟩ := HS.out
            obtain rfl := hro (by intro e; subst e; simp at hx)
            have C0 := Lib.hid (hcw j _ hx).1
            have hsl0 := (hcw j _ hx).2
            have h0 := errFrom_all HE0.out l (List.mem_of_getElem? (progsV_at hx))
            obtain ⟨hn1, hn2, hpl⟩ := take3_ok h0 rfl
            obtain ⟨bl, ol, hao, hclw⟩ := hsl0
            simp only at hao hclw
            obtain rfl := hao (by intro e; subst e; simp at hn1)
            have HCLW := Lib.hid hclw
            have HPL := Lib.hid hpl
            have hsn := sumL_snoc (progsV_at hx)
            have hst := sumL_take (progsV P) (j + 1)
            have hjl := joinFrom_length ((progsV P).take j) []
            have hjs := joinFrom_snoc (progsV_at hx) []
            simp only at hsn hjs
            obtain ⟨acc, hacc⟩ : ∃ acc, acc = joinFrom [] ((progsV P).take j) := ⟨_, rfl⟩
            rw [← hacc] at hown hjl hjs
            obtain ⟨A, hA⟩ : ∃ A, A = acc.length := ⟨_, rfl⟩
            obtain ⟨n, hn⟩ : ∃ n, n = l.length := ⟨_, rfl⟩
            have c0w := C0.out
            simp only at c0w
            rw [← hn] at hn1 hn2 hsn c0w
            have hAn : A + n ≤ 400 := by
              have h1 := HSUM.out
              rw [hA, hjl, List.length_nil]
              omega
            rw [← hA] at hjs
            have HJS := Lib.hid hjs
            have HA := Lib.hid hA
            have HNL := Lib.hid hn
            have C0W := Lib.hid c0w
            obtain ⟨ao2, c2, rfl, -, -⟩ := hown.slice
            rw [← hA] at hown ⊢
            have HO := Lib.hid hown
            have HB2 := Lib.hid hB2
            have hz2 := hB2.size
            have hi0 : (0 : Int) ≤ (j : Int) := by omega
            have hbw : b < w.heap.size := block_lt_of_cell c0w
            clear hclw hpl hsn hst hjl hjs hacc hA hn hx hcw hown hB2 hro hao h0 c0w
            go_wp2
            go_loopw [8, 11] (fun v u wr3 => ∃ t : Nat, t ≤ n ∧ u = .int .i64 t ∧ OwnP wr3 w.heap.size v (acc ++ (l.take t).map (shiftX A)) ∧ Below w.heap.size w wr3) (fun _ u _ => n - (intOf u).toNat)
            case atStart => exact ⟨0, Nat.zero_le _, rfl, by simpa using HO.out, HB2.out⟩
            case round =>
              obtain ⟨t, ht, rfl, ho, hb⟩ := hrel
              have c0 := (hb.cell (p := ⟨b, _, none⟩) hbw).trans C0W.out
              obtain ⟨ao3, c3, rfl, -, -⟩ := ho.slice
              have hln : (acc ++ (l.take t).map (shiftX A)).length = A + t := by
                rw [List.length_append, List.length_map, List.length_take, ← HA.out, ← HNL.out]; omega
              rw [hln] at ho ⊢
              have HLN := Lib.hid hln
              by_cases htn : t < n
              · obtain ⟨⟨op, a⟩, hlx⟩ : ∃ x, l[t]? = some x := ⟨_, List.getElem?_eq_getElem (by rw [← HNL.out]; exact htn)⟩
                obtain ⟨y0, y1⟩ := HCLW.out t _ hlx
                have x0 := (hb.cell (p := ⟨bl, _, none⟩) (block_lt_of_cell y0)).trans y0
                have x1 := (hb.cell (p := ⟨bl, _, none⟩) (block_lt_of_cell y1)).trans y1
                simp only at x0 x1
                have hstep := moved_step acc l A t hlx
                have HST := Lib.hid hstep
                have HLX := Lib.hid hlx
                have HO7 := Lib.hid ho
                have HB7 := Lib.hid hb
                have hz7 := hb.size
                have htn2 : t + 1 ≤ n := by omega
                have hi3 : (0 : Int) ≤ (t : Int) := by omega
                have hj0 : (0 : Int) ≤ (j : Int) := by omega
                clear y0 y1 hstep hlx ho hb hln
                by_cases h3 : takes op = 3
                · obtain ⟨ha0, ha1⟩ := HPL.out t _ HLX.out h3
                  simp only at ha0 ha1
                  have hsx : shiftX A (op, a) = (op, a + (A : Int)) := by unfold shiftX; rw [if_pos h3]
                  rw [hsx] at HST
                  have H3 := Lib.hid h3
                  clear h3 hsx
                  go_wp2_with (first
                    | (go_at_call 31; go_must (refine (refTakes_any op _).mono ?_; rintro e w6 ⟨rfl, rfl⟩; rw [H3.out]))
                    | (at_builtin; refine wpList_appendP (HO7.out.below (((Below.refl _ _).alloc (Nat.le_refl _) _).alloc (by simp) _)) (by simp <;> omega) (some ⟨wr.heap.size + 1, 0, none⟩) 1 1 [(op, a + (A : Int))] rfl (seesP_one (heap_new _ _ _ (by simp))) (fun h => by cases h) (by rw [HLN.out]; simp; omega) rfl _ _ rfl rfl rfl ?_; intro v8 w8 hown8 hgrow8))
                  go_roundw
                  case rel => exact ⟨t + 1, htn2, by go_num, by rw [HST.out]; exact hown8, ((HB7.out.alloc hz7 _).alloc (by simp; omega) _).grown hgrow8 (by simp <;> omega) (fun k hk => own_ge HO7.out hk)⟩
                  case measure => simp [intOf]; omega
                · have hsx : shiftX A (op, a) = (op, a) := by unfold shiftX; rw [if_neg h3]
                  rw [hsx] at HST
                  have hb3 : (takes op == 3) = false := by simpa using h3
                  clear hsx h3
                  go_wp2_with (first
                    | (go_at_call 31; go_must (refine (refTakes_any op _).mono ?_; rintro e w6 ⟨rfl, rfl⟩))
                    | (at_builtin; refine wpList_appendP (HO7.out.below (((Below.refl _ _).alloc (Nat.le_refl _) _).alloc (by simp) _)) (by simp <;> omega) (some ⟨wr.heap.size + 1, 0, none⟩) 1 1 [(op, a)] rfl (seesP_one (heap_new _ _ _ (by simp))) (fun h => by cases h) (by rw [HLN.out]; simp; omega) rfl _ _ rfl rfl rfl ?_; intro v8 w8 hown8 hgrow8))
                  go_roundw
                  case rel => exact ⟨t + 1, htn2, by go_num, by rw [HST.out]; exact hown8, ((HB7.out.alloc hz7 _).alloc (by simp; omega) _).grown hgrow8 (by simp <;> omega) (fun k hk => own_ge HO7.out hk)⟩
                  case measure => simp [intOf]; omega
              · obtain rfl : t = n := by omega
                have htl : l.take t = l := List.take_of_length_le (by rw [← HNL.out]; exact Nat.le_refl _)
                rw [htl] at ho
                rw [← HJS.out] at ho
                have HO9 := Lib.hid ho
                clear htl ho hln
                go_wp2
                go_roundw
                case rel => exact ⟨j + 1, by omega, by go_num, HO9.out, hb⟩
                case measure => simp [intOf]; omega
          · obtain rfl : j = k := by omega
            have htk : (progsV P).take j = progsV P := List.take_of_length_le (by rw [progsV_length, HK.out]; exact Nat.le_refl _)
            rw [htk] at hown
            clear htk
            obtain ⟨ao9, c9, rfl, -, -⟩ := hown.slice
            go_wp2
            go_ret2
            exact ⟨.slice ao9 (joinFrom [] (progsV P)).length c9, by rw [HJ.out]; rfl, by rw [HJ.out]; exact hown, hB2⟩
end Go.Proofs.YtojgdabkdbchnaaGreatDoor
