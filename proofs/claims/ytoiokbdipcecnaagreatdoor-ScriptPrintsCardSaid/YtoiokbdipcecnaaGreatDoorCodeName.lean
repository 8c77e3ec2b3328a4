/-
  isName: for every text. fail: it panics with the fault that names the reader's line. No condition.
-/
import Derived.Test.YtoiokbdipcecnaaGreatDoorCodeSmall
namespace Go.Proofs.YtoiokbdipcecnaaGreatDoor
open Go.RowKit
set_option maxRecDepth 100000

def smallC (c : UInt8) : Bool := decide (97 ≤ c.toNat) && decide (c.toNat ≤ 122)
def otherC (c : UInt8) : Bool := (decide (48 ≤ c.toNat) && decide (c.toNat ≤ 57)) || c.toNat == 45
/-- is the byte at place k of a name right? -/
def nameC (k : Nat) (c : UInt8) : Bool := smallC c || (k != 0 && otherC c)
def nameFrom : Nat → List UInt8 → Bool
  | _, [] => true
  | k, c :: r => nameC k c && nameFrom (k + 1) r
def isNameB (l : List UInt8) : Bool := nameFrom 0 l && decide (1 ≤ l.length) && decide (l.length ≤ 16)
theorem drop_cons (s : ByteArray) (k : Nat) (h : k < s.size) : s.data.toList.drop k = s[k] :: s.data.toList.drop (k + 1) := by
  rw [List.drop_eq_getElem_cons (by simpa using h)]; rfl
/-- Where a byte lies, and whether it is the first: what the walk's tests say. -/
theorem nameC_cases (k : Nat) (c : UInt8) (P : Prop)
    (h1 : 97 ≤ (c.toNat : Int) → (c.toNat : Int) ≤ 122 → nameC k c = true → P)
    (h2 : k = 0 → (c.toNat : Int) < 97 → nameC k c = false → P)
    (h3 : k = 0 → 122 < (c.toNat : Int) → nameC k c = false → P)
    (h4 : 0 < k → (c.toNat : Int) < 45 → nameC k c = false → P)
    (h5 : 0 < k → (c.toNat : Int) = 45 → nameC k c = true → P)
    (h6 : 0 < k → 45 < (c.toNat : Int) → (c.toNat : Int) < 48 → nameC k c = false → P)
    (h7 : 0 < k → 48 ≤ (c.toNat : Int) → (c.toNat : Int) ≤ 57 → nameC k c = true → P)
    (h8 : 0 < k → 57 < (c.toNat : Int) → (c.toNat : Int) < 97 → nameC k c = false → P)
    (h9 : 0 < k → 122 < (c.toNat : Int) → nameC k c = false → P) : P := by
  have hc : nameC k c = (decide (97 ≤ c.toNat) && decide (c.toNat ≤ 122) || (k != 0 && (decide (48 ≤ c.toNat) && decide (c.toNat ≤ 57) || c.toNat == 45))) := rfl
  by_cases a : 97 ≤ c.toNat ∧ c.toNat ≤ 122
  · exact h1 (by omega) (by omega) (by rw [hc]; simp [a])
  by_cases k0 : k = 0
  · by_cases b : c.toNat < 97
    · exact h2 k0 (by omega) (by rw [hc]; simp [k0]; omega)
    · exact h3 k0 (by omega) (by rw [hc]; simp [k0]; omega)
  have k1 : (k != 0) = true := by simpa using k0
  rw [k1] at hc
  by_cases b1 : c.toNat < 45
  · exact h4 (by omega) (by omega) (by rw [hc]; simp; omega)
  by_cases b2 : c.toNat = 45
  · exact h5 (by omega) (by omega) (by rw [hc]; simp [b2])
  by_cases b3 : c.toNat < 48
  · exact h6 (by omega) (by omega) (by omega) (by rw [hc]; simp; omega)
  by_cases b4 : c.toNat ≤ 57
  · exact h7 (by omega) (by omega) (by omega) (by rw [hc]; simp; omega)
  by_cases b5 : c.toNat < 97
  · exact h8 (by omega) (by omega) (by omega) (by rw [hc]; simp; omega)
  · exact h9 (by omega) (by omega) (by rw [hc]; simp; omega)

set_option maxHeartbeats 4000000 in
theorem isName_any (s : ByteArray) (w : World) (hs : s.size ≤ maxLen) :
    Calls Tryz.prog 129 #[.string s] w fun e w' => e = .returned (.bool (isNameB s.data.toList)) ∧ w = w' := by
  unfold maxLen at hs
  go_enter Tryz.func129, Tryz.ntmps129
  go_wp2
  go_loop [8] (fun v => ∃ k : Nat, k ≤ s.size ∧ v = .int .i64 (k : Int) ∧ nameFrom k (s.data.toList.drop k) = nameFrom 0 s.data.toList) (fun v => s.size - (intOf v).toNat)
  case atStart => exact ⟨0, by omega, rfl, rfl⟩
  case round =>
    obtain ⟨k, hk, rfl, hsp⟩ := hrel
    by_cases hlt : k < s.size
    · rw [drop_cons s k hlt] at hsp
      simp only [nameFrom] at hsp
      refine nameC_cases k s[k] _ ?_ ?_ ?_ ?_ ?_ ?_ ?_ ?_ ?_
      all_goals intros
      all_goals rename_i hn
      all_goals rw [hn] at hsp
      all_goals have HS := Lib.hid hsp
      all_goals clear hsp hn
      all_goals try subst k
      all_goals go_wp2
      all_goals first | (go_ret; refine ⟨?_, rfl⟩; rw [show isNameB s.data.toList = false from by unfold isNameB; rw [← HS.out]; rfl]; rfl) | (go_round; (case rel => exact ⟨k + 1, by omega, by go_num, by rw [← HS.out]; rfl⟩); (case measure => simp [intOf]; omega)) | (exfalso; (try simp at *); omega)
    · have HS := Lib.hid hsp
      clear hsp
      obtain rfl : k = s.size := by omega
      have hd : nameFrom 0 s.data.toList = true := by
        rw [← HS.out, List.drop_of_length_le (by simp)]; rfl
      have hl : s.data.toList.length = s.size := by simp
      have hv : isNameB s.data.toList = (decide (1 ≤ s.size) && decide (s.size ≤ 16)) := by
        unfold isNameB; rw [hd, hl]; rfl
      have HV := Lib.hid hv
      clear hv hl hd HS
      by_cases h1 : s.size < 1
      · go_wp2
        go_ret
        refine ⟨?_, rfl⟩; rw [HV.out]; simp; first | omega | (rw [Bool.eq_iff_iff]; simp; omega)
      · by_cases h2 : s.size ≤ 16
        · go_wp2
          go_ret
          refine ⟨?_, rfl⟩; rw [HV.out]; simp; first | omega | (rw [Bool.eq_iff_iff]; simp; omega)
        · go_wp2
          go_ret
          refine ⟨?_, rfl⟩; rw [HV.out]; simp; first | omega | (rw [Bool.eq_iff_iff]; simp; omega)
theorem fail_any (b : Nat) (e line : Int) (w : World) (hc : w.cell? ⟨b, 4, none⟩ = some (.int .i64 line)) :
    Calls Tryz.prog 130 #[.pointer (some ⟨b, 0, none⟩), .int .i64 e] w fun en w' => en = .panicked [{ v := .iface 153 (.agg #[.int .i64 e, .int .i64 line]), recovered := false }] ∧ w = w' := by
  go_enter Tryz.func130, Tryz.ntmps130
  go_wp2
  exact ⟨rfl, rfl, rfl⟩
end Go.Proofs.YtoiokbdipcecnaaGreatDoor
