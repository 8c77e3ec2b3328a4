/-
  quash/quashref15.blank, Bare, Name: for every text. No condition but sizes.
-/
import Derived.Test.YtojgdabkdbchnaaGreatDoorCodeName
import Derived.Test.YtojgdabkdbchnaaGreatDoorBareS15
namespace Go.Proofs.YtojgdabkdbchnaaGreatDoor
open Go.RowKit
set_option maxRecDepth 100000

def blankB (c : UInt8) : Bool := ([32, 9] : List UInt8).contains c
theorem blank_any (c : UInt8) (w : World) : Calls Tryz.prog 51 #[.int .u8 (c.toNat : Int)] w fun e w' => e = .returned (.bool (blankB c)) ∧ w = w' := by
  by_cases h1 : c = 32
  · subst h1
    go_enter Tryz.func51, Tryz.ntmps51
    go_wp2
    go_ret
    exact ⟨rfl, rfl⟩
  · have n1 : ((c.toNat : Int) == 32) = false := by
      rw [beq_eq_false_iff_ne]; intro e
      exact h1 (UInt8.toNat_inj.1 (by show c.toNat = 32; omega))
    by_cases h2 : c = 9
    · subst h2
      go_enter Tryz.func51, Tryz.ntmps51
      go_wp2
      go_ret
      exact ⟨rfl, rfl⟩
    · have n2 : ((c.toNat : Int) == 9) = false := by
        rw [beq_eq_false_iff_ne]; intro e
        exact h2 (UInt8.toNat_inj.1 (by show c.toNat = 9; omega))
      have hb : blankB c = false := by simp [blankB, h1, h2]
      rw [hb]
      clear h1 h2 hb
      go_enter Tryz.func51, Tryz.ntmps51
      go_wp2
      go_ret
      exact ⟨rfl, rfl⟩
theorem S_of_data {s : ByteArray} {l : List UInt8} (h : s.data.toList = l) : s = S l := by
  rw [← h]; exact (S_eta s).symm
set_option maxHeartbeats 4000000 in
theorem Bare_any (s : ByteArray) (w : World) (hs : s.size ≤ maxLen) :
    Calls Tryz.prog 34 #[.string s] w fun e w' => e = .returned (.string (S (Lib.trimS (Lib.cut s.data.toList [59]).1 [32, 9]))) ∧ w = w' := by
  unfold maxLen at hs
  have hz := Lib.size_eq s
  have HZ := Lib.hid hz
  obtain ⟨A, hA⟩ : ∃ A, A = S (Lib.trimS (Lib.cut s.data.toList [59]).1 [32, 9]) := ⟨_, rfl⟩
  rw [← hA]
  have HA := Lib.hid hA
  clear hz hA
  go_enter Tryz.func34, Tryz.ntmps34
  go_wp2
  go_loop [3] (fun v => ∃ k : Nat, k ≤ s.size ∧ v = .int .i64 k ∧ ∀ j, j < k → s.data.toList[j]? ≠ some 59) (fun v => s.size - (intOf v).toNat)
  case atStart => exact ⟨0, Nat.zero_le _, rfl, fun j h => absurd h (by omega)⟩
  case round =>
    obtain ⟨k, hk, rfl, hno⟩ := hrel
    have HNO := Lib.hid hno
    clear hno
    by_cases hgo : ∃ hlt : k < s.size, s[k] ≠ 59
    · obtain ⟨hlt, hne⟩ := hgo
      have hx := Lib.data_getElem? s k hlt
      have hd : ((s[k].toNat : Int) != 59) = true := by
        rw [bne_iff_ne]; intro e
        exact hne (UInt8.toNat_inj.1 (by show (s[k]).toNat = 59; omega))
      have HX := Lib.hid hx
      have HNE := Lib.hid hne
      clear hx hne
      go_wp2
      go_round
      case rel => exact ⟨k + 1, by omega, by go_num, fun j hj => by
        by_cases e : j = k
        · subst e; rw [HX.out]; intro h; injection h with h; exact HNE.out h
        · exact HNO.out j (by omega)⟩
      case measure => simp [intOf]; omega
    · have hcut : (Lib.cut s.data.toList [59]).1 = s.data.toList.take k := cut_take (by have := HZ.out; omega) HNO.out (by
        by_cases hlt : k < s.size
        · right
          rw [Lib.data_getElem? s k hlt]
          congr 1
          exact Classical.byContradiction fun h => hgo ⟨hlt, h⟩
        · left; have := HZ.out; omega)
      have HCUT := Lib.hid hcut
      clear hcut
      obtain ⟨s1, hs1⟩ : ∃ s1, s1 = s.extract 0 k := ⟨_, rfl⟩
      have hd1 : s1.data.toList = s.data.toList.take k := by rw [hs1, Lib.extract_from_zero]
      rw [← hd1] at HCUT
      have HS1 := Lib.hid hs1
      have hz1 : s1.size ≤ s.size := by
        rw [Lib.size_eq s1, Lib.size_eq s, hd1]; simp; omega
      have HZ1 := Lib.hid (Lib.size_eq s1)
      clear hd1 hs1
      have HA2 := Lib.hid (show A = S (Lib.trimS s1.data.toList [32, 9]) from by rw [HA.out, HCUT.out])
      clear HCUT HA
      by_cases hlt : k < s.size
      all_goals
        first
          | (have heq : ((s[k].toNat : Int) != 59) = false := by
               have : s[k] = 59 := Classical.byContradiction fun h => hgo ⟨hlt, h⟩
               rw [this]; rfl)
          | skip
        clear hgo
        go_upto_region 5 with (fail)
        rw [← HS1.out]
        go_wp2
        go_loop [4] (fun v => ∃ a : Nat, a ≤ s1.size ∧ v = .int .i64 a ∧ ∀ (j : Nat) x, j < a → s1.data.toList[j]? = some x → ([32, 9] : List UInt8).contains x = true) (fun v => s1.size - (intOf v).toNat)
        case atStart => exact ⟨0, Nat.zero_le _, rfl, fun j x h => absurd h (by omega)⟩
        case round =>
          obtain ⟨a, ha, rfl, hbl⟩ := hrel
          have HBL := Lib.hid hbl
          clear hbl
          by_cases hgo : ∃ hlt : a < s1.size, blankB s1[a] = true
          · obtain ⟨hlt, hne⟩ := hgo
            have hx := Lib.data_getElem? s1 a hlt
            have HX := Lib.hid hx
            have HNE := Lib.hid hne
            clear hx hne
            go_wp2_with (go_at_call 51; refine (blank_any _ _).mono ?_; rintro e w1 ⟨rfl, rfl⟩; rw [HNE.out])
            go_round
            case rel => exact ⟨a + 1, by omega, by go_num, fun j x hj hx => by
              by_cases e : j = a
              · subst e; rw [HX.out] at hx; injection hx with hx; subst hx; exact HNE.out
              · exact HBL.out j x (by omega) hx⟩
            case measure => simp [intOf]; omega
          · have hfirst : ∀ x, s1.data.toList[a]? = some x → ([32, 9] : List UInt8).contains x = false := fun x hx => by
              have hl : a < s1.size := by have := (List.getElem?_eq_some_iff.1 hx).1; have := HZ1.out; omega
              rw [Lib.data_getElem? s1 a hl] at hx
              injection hx with hx
              subst hx
              cases hb : ([32, 9] : List UInt8).contains s1[a] with
              | false => rfl
              | true => exact absurd ⟨hl, hb⟩ hgo
            have HF := Lib.hid hfirst
            clear hfirst
            by_cases hlt : a < s1.size
            all_goals
              first
                | (have hnb : blankB s1[a] = false := by
                     cases hb : blankB s1[a] with
                     | false => rfl
                     | true => exact absurd ⟨hlt, hb⟩ hgo
                   have HNB := Lib.hid hnb
                   clear hnb)
                | have HNB := Lib.hid (show True from trivial)
              clear hgo
              go_wp2_with (go_at_call 51; refine (blank_any _ _).mono ?_; rintro e w1 ⟨rfl, rfl⟩; rw [HNB.out])
              go_loop [5] (fun v => ∃ b : Nat, a ≤ b ∧ b ≤ s1.size ∧ v = .int .i64 b ∧ ∀ (j : Nat) x, b ≤ j → s1.data.toList[j]? = some x → ([32, 9] : List UInt8).contains x = true) (fun v => (intOf v).toNat - a)
              case atStart => exact ⟨s1.size, ha, Nat.le_refl _, rfl, fun j x hj hx => by
                have := (List.getElem?_eq_some_iff.1 hx).1; have := HZ1.out; omega⟩
              case round =>
                obtain ⟨b, hab, hb, rfl, hbl⟩ := hrel
                have HBB := Lib.hid hbl
                clear hbl
                by_cases hab2 : a < b
                · obtain ⟨q, rfl⟩ : ∃ q, b = q + 1 := ⟨b - 1, by omega⟩
                  have hq : q < s1.size := by omega
                  have kq : ((q + 1 : Nat) : Int) - 1 = (q : Int) := by omega
                  rw [show ((q + 1 : Nat) : Int) = (q : Int) + 1 by omega]
                  have kq2 : (q : Int) + 1 - 1 = (q : Int) := by omega
                  have hga : (a : Int) < (q : Int) + 1 := by omega
                  have hx := Lib.data_getElem? s1 q hq
                  have HX := Lib.hid hx
                  clear hx kq
                  cases hbq : blankB s1[q] with
                  | true =>
                    have HBQ := Lib.hid hbq
                    clear hbq
                    go_wp2_with (go_at_call 51; refine (blank_any _ _).mono ?_; rintro e w1 ⟨rfl, rfl⟩; rw [HBQ.out])
                    go_round
                    case rel => exact ⟨q, by omega, by omega, rfl, fun j x hj hx => by
                      by_cases e : j = q
                      · subst e; rw [HX.out] at hx; injection hx with hx; subst hx; exact HBQ.out
                      · exact HBB.out j x (by omega) hx⟩
                    case measure => simp [intOf]; omega
                  | false =>
                    have HBQ := Lib.hid hbq
                    clear hbq
                    go_wp2_with (go_at_call 51; refine (blank_any _ _).mono ?_; rintro e w1 ⟨rfl, rfl⟩; rw [HBQ.out])
                    go_ret
                    have ht := trim_span (l := s1.data.toList) (a := a) (b := q + 1) hab (by have := HZ1.out; omega) HBL.out HF.out HBB.out (fun _ x hx => by
                      rw [Nat.add_sub_cancel, HX.out] at hx; injection hx with hx; subst hx; exact HBQ.out)
                    refine ⟨show Ending.returned (.string (s1.extract a (q + 1))) = .returned (.string A) from ?_, rfl⟩
                    rw [HA2.out, ht, S_of_data (s := s1.extract a (q + 1)) (l := (s1.data.toList.take (q + 1)).drop a) (by rw [Lib.extract_data, List.drop_take])]
                · obtain rfl : b = a := by omega
                  have hng : ¬ (b : Int) < (b : Int) := by omega
                  go_wp2
                  go_ret
                  have ht := trim_span (l := s1.data.toList) (a := b) (b := b) (Nat.le_refl _) (by have := HZ1.out; omega) HBL.out HF.out HBB.out (fun h => absurd h (by omega))
                  refine ⟨show Ending.returned (.string .empty) = .returned (.string A) from ?_, rfl⟩
                  rw [HA2.out, ht, List.drop_eq_nil_of_le (by simp; omega)]
                  rfl
theorem name_len {l : List UInt8} (h : l.length < 1 ∨ 16 < l.length) : isNameB l = false := by
  unfold isNameB
  rcases h with h | h
  · rw [decide_eq_false (show ¬ 1 ≤ l.length by omega)]; simp
  · rw [decide_eq_false (show ¬ l.length ≤ 16 by omega)]; simp
theorem name_head {c : UInt8} {r : List UInt8} (h : nameC 0 c = false) : isNameB (c :: r) = false := by
  unfold isNameB
  simp [nameFrom, h]
theorem name_ok {l : List UInt8} (h1 : 1 ≤ l.length) (h2 : l.length ≤ 16) : isNameB l = nameFrom 0 l := by
  unfold isNameB
  rw [decide_eq_true h1, decide_eq_true h2]; simp
set_option maxHeartbeats 4000000 in
theorem refName_any (s : ByteArray) (w : World) (hs : s.size ≤ maxLen) :
    Calls Tryz.prog 35 #[.string s] w fun e w' => e = .returned (.bool (isNameB s.data.toList)) ∧ w = w' := by
  unfold maxLen at hs
  have hz := Lib.size_eq s
  by_cases h1 : s.size < 1
  · rw [name_len (by omega)]
    clear hz
    go_enter Tryz.func35, Tryz.ntmps35
    go_wp2
    go_ret
    exact ⟨rfl, rfl⟩
  by_cases h2 : 16 < s.size
  · rw [name_len (by omega)]
    clear hz
    go_enter Tryz.func35, Tryz.ntmps35
    go_wp2
    go_ret
    exact ⟨rfl, rfl⟩
  have h0 : 0 < s.size := by omega
  have hd := drop_cons s 0 h0
  rw [List.drop_zero] at hd
  cases hc : nameC 0 s[0] with
  | false =>
    rw [hd, name_head hc]
    have hb : s[0].toNat < 97 ∨ 122 < s[0].toNat := by
      simp [nameC, smallC] at hc; omega
    clear hz hd hc
    rcases hb with hb | hb
    · have b1 : (s[0].toNat : Int) < 97 := by omega
      clear hb
      go_enter Tryz.func35, Tryz.ntmps35
      go_wp2
      go_ret
      exact ⟨rfl, rfl⟩
    · have b1 : ¬ (s[0].toNat : Int) < 97 := by omega
      have b2 : (122 : Int) < (s[0].toNat : Int) := by omega
      clear hb
      go_enter Tryz.func35, Tryz.ntmps35
      go_wp2
      go_ret
      exact ⟨rfl, rfl⟩
  | true =>
    have hb : 97 ≤ s[0].toNat ∧ s[0].toNat ≤ 122 := by
      simp [nameC, smallC] at hc; omega
    have b1 : ¬ (s[0].toNat : Int) < 97 := by omega
    have b2 : ¬ (122 : Int) < (s[0].toNat : Int) := by omega
    have hn : isNameB s.data.toList = nameFrom 1 (s.data.toList.drop 1) := by
      rw [name_ok (by omega) (by omega)]
      conv => lhs; rw [hd]
      simp [nameFrom, hc]
    obtain ⟨A, hA⟩ : ∃ A, A = isNameB s.data.toList := ⟨_, rfl⟩
    rw [← hA]
    have HN := Lib.hid (hA.trans hn)
    have h2' : s.size ≤ 16 := by omega
    clear hb hz hd hc hn h2 hA
    go_enter Tryz.func35, Tryz.ntmps35
    go_wp2
    go_loop [3] (fun v => ∃ k : Nat, 1 ≤ k ∧ k ≤ s.size ∧ v = .int .i64 (k : Int) ∧ nameFrom k (s.data.toList.drop k) = nameFrom 1 (s.data.toList.drop 1)) (fun v => s.size - (intOf v).toNat)
    case atStart => exact ⟨1, Nat.le_refl _, by omega, rfl, rfl⟩
    case round =>
      obtain ⟨k, hk1, hk, rfl, hsp⟩ := hrel
      by_cases hlt : k < s.size
      · rw [drop_cons s k hlt] at hsp
        simp only [nameFrom] at hsp
        refine nameC_cases k s[k] _ ?_ ?_ ?_ ?_ ?_ ?_ ?_ ?_ ?_
        all_goals intros
        all_goals rename_i hn
        all_goals rw [hn] at hsp
        all_goals have HS := Lib.hid hsp
        all_goals clear hsp hn
        all_goals try (exfalso; omega)
        all_goals go_wp2
        all_goals first | (go_ret; refine ⟨?_, rfl⟩; rw [show A = false from by rw [HN.out, ← HS.out]; rfl]; rfl) | (go_round; (case rel => exact ⟨k + 1, by omega, by omega, by go_num, by rw [← HS.out]; rfl⟩); (case measure => simp [intOf]; omega)) | (exfalso; (try simp at *); omega)
      · have HS := Lib.hid hsp
        clear hsp
        obtain rfl : k = s.size := by omega
        have hv : A = true := by
          rw [HN.out, ← HS.out, List.drop_of_length_le (by simp)]; rfl
        have HV := Lib.hid hv
        clear hv
        go_wp2
        go_ret
        exact ⟨by rw [HV.out]; rfl, rfl⟩
end Go.Proofs.YtojgdabkdbchnaaGreatDoor
