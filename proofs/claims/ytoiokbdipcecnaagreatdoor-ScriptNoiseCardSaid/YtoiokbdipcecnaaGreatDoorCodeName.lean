/-
  isName: for every text. fail: it panics with the fault that names the reader's line. No condition.
  And: Name, Takes, may, opOf, isName: for every argument. No condition.
  And: THE TABLE OF INSTRUCTIONS (quash/code.about), AND Name, Takes: for every Op. No condition.
-/
import Derived.Test.YtoiokbdipcecnaaGreatDoorEnv
namespace Go.Proofs.YtoiokbdipcecnaaGreatDoor
open Go.RowKit
set_option maxRecDepth 100000

def rowsL : List (List UInt8 × Int × Int × Int) :=
 [([], 0, 0, 0), ([112, 117, 115, 104], 1, 0, 1), ([112, 111, 112], 0, 1, 0), ([100, 117, 112], 0, 1, 2), ([115, 119, 97, 112], 0, 2, 2),
  ([103, 101, 116], 2, 0, 1), ([115, 101, 116], 2, 1, 0), ([97, 100, 100], 0, 2, 1), ([115, 117, 98], 0, 2, 1), ([109, 117, 108], 0, 2, 1), ([109, 111, 100], 0, 2, 1),
  ([108, 101, 115, 115], 0, 2, 1), ([115, 97, 109, 101], 0, 2, 1), ([110, 111, 116], 0, 1, 1), ([106, 117, 109, 112], 3, 0, 0), ([122, 101, 114, 111], 3, 1, 0),
  ([98, 101, 103, 105, 110], 0, 0, 0), ([108, 111, 97, 100], 0, 1, 1), ([115, 116, 111, 114, 101], 0, 2, 0), ([99, 111, 109, 109, 105, 116], 0, 0, 0),
  ([97, 98, 111, 114, 116], 3, 0, 0), ([116, 101, 108, 108], 0, 1, 0), ([104, 97, 108, 116], 0, 0, 0)]
def rowCells (r : List UInt8 × Int × Int × Int) : List Value := [.string (S r.1), .int .i64 r.2.1, .int .i64 r.2.2.1, .int .i64 r.2.2.2]
def rowsArr : Array Value := (rowsL.flatMap rowCells).toArray
def rowAt (k : Nat) : List UInt8 × Int × Int × Int := rowsL.getD k ([], 0, 0, 0)
/-- The table's columns at any int: the first row's where there is no such Op. -/
def opRow (op : Int) : List UInt8 × Int × Int × Int := if 1 ≤ op ∧ op < 23 then rowAt op.toNat else rowAt 0
def isOp (op : Int) : Bool := decide (1 ≤ op ∧ op < 23)
def word (op : Int) : ByteArray := S (opRow op).1
def takes (op : Int) : Int := (opRow op).2.1
def pops (op : Int) : Int := (opRow op).2.2.1
def pushes (op : Int) : Int := (opRow op).2.2.2
theorem opRow_in {k : Nat} (h1 : 1 ≤ k) (h2 : k < 23) : opRow (k : Int) = rowAt k := by
  unfold opRow
  rw [if_pos (by omega)]
  simp
theorem opRow_out {n : Int} (h : n < 1 ∨ 23 ≤ n) : opRow n = rowAt 0 := by
  unfold opRow
  rw [if_neg (by omega)]
theorem rowsArr_at (k : Nat) (h : k < 23) : rowsArr[k*4]? = some (.string (S (rowAt k).1)) ∧ rowsArr[k*4+1]? = some (.int .i64 (rowAt k).2.1) ∧ rowsArr[k*4+2]? = some (.int .i64 (rowAt k).2.2.1) ∧ rowsArr[k*4+3]? = some (.int .i64 (rowAt k).2.2.2) := by
  match k, h with
  | 0, _ | 1, _ | 2, _ | 3, _ | 4, _ | 5, _ | 6, _ | 7, _ | 8, _ | 9, _ | 10, _ | 11, _ | 12, _ | 13, _ | 14, _ | 15, _ | 16, _ | 17, _ | 18, _ | 19, _ | 20, _ | 21, _ | 22, _ => exact ⟨rfl, rfl, rfl, rfl⟩
  | n+23, h => omega
attribute [irreducible] rowsArr
def partsA : Array (Nat × Value) := (((rowsL.map rowCells).zipIdx.map fun (r, i) => (i, Value.agg r.toArray)).toArray)
theorem hbs (w : World) : (Instr.buildSlice 115 23 partsA).run Tryz.prog w = .ok (.slice (some ⟨w.heap.size, 0, none⟩) 23 23) (w.alloc (.cells rowsArr 86)) := by
  kernel_rfl
theorem hbs' (w : World) (A : Obj) : (Instr.buildSlice 115 23 partsA).run Tryz.prog (w.alloc A) = .ok (.slice (some ⟨w.heap.size + 1, 0, none⟩) 23 23) ((w.alloc A).alloc (.cells rowsArr 86)) := by
  rw [hbs, World.size_alloc]
attribute [irreducible] partsA
def rowAgg (op : Int) : Value := .agg #[.string (word op), .int .i64 (takes op), .int .i64 (pops op), .int .i64 (pushes op)]

set_option maxHeartbeats 1000000 in
theorem about_in (k : Nat) (h1 : 1 ≤ k) (h2 : k < 23) (w : World) :
    Calls Tryz.prog 35 #[.int .i64 k] w fun e w' => e = .returned (.tuple #[rowAgg k, .bool true]) ∧ Below w.heap.size w w' := by
  obtain ⟨r0, r1, r2, r3⟩ := rowsArr_at k h2
  have d0 : ¬ ((k : Int) ≤ 0) := by omega
  have d1 : ¬ ((23 : Int) ≤ (k : Int)) := by omega
  go_enter Tryz.func35, Tryz.ntmps35
  go_wp2_with (refine wpList_runs2 (o := ⟨some 28, _, _, _, _, _⟩) rfl (Instr.buildSlice 115 23 partsA) (by kernel_rfl) _ _ (hbs' w _) ?_)
  have e : rowAgg k = .agg #[.string (S (rowAt k).1), .int .i64 (rowAt k).2.1, .int .i64 (rowAt k).2.2.1, .int .i64 (rowAt k).2.2.2] := by
    simp only [rowAgg, word, takes, pops, pushes, opRow_in h1 h2]
  rw [e]
  exact bodyPost_ret (v := .tuple #[.agg #[.string (S (rowAt k).1), .int .i64 (rowAt k).2.1, .int .i64 (rowAt k).2.2.1, .int .i64 (rowAt k).2.2.2], .bool true]) (by simp [results, Tryz.results35, go_sem]) rfl ⟨rfl, ((Below.refl _ _).alloc (Nat.le_refl _) _).alloc (by simp) _⟩

set_option maxHeartbeats 1000000 in
theorem about_low (n : Int) (h1 : n ≤ 0) (w : World) :
    Calls Tryz.prog 35 #[.int .i64 n] w fun e w' => e = .returned (.tuple #[rowAgg n, .bool false]) ∧ Below w.heap.size w w' := by
  have e : rowAgg n = .agg #[.string ⟨#[]⟩, .int .i64 0, .int .i64 0, .int .i64 0] := by
    simp only [rowAgg, word, takes, pops, pushes, opRow_out (show n < 1 ∨ 23 ≤ n by omega)]; rfl
  rw [e]
  clear e
  go_enter Tryz.func35, Tryz.ntmps35
  go_wp2_with (refine wpList_runs2 (o := ⟨some 28, _, _, _, _, _⟩) rfl (Instr.buildSlice 115 23 partsA) (by kernel_rfl) _ _ (hbs' w _) ?_)
  exact bodyPost_ret (v := .tuple #[.agg #[.string ⟨#[]⟩, .int .i64 0, .int .i64 0, .int .i64 0], .bool false]) (by simp [results, Tryz.results35, go_sem]) rfl ⟨rfl, ((Below.refl _ _).alloc (Nat.le_refl _) _).alloc (by simp) _⟩
set_option maxHeartbeats 1000000 in
theorem about_high (n : Int) (h1 : 23 ≤ n) (w : World) :
    Calls Tryz.prog 35 #[.int .i64 n] w fun e w' => e = .returned (.tuple #[rowAgg n, .bool false]) ∧ Below w.heap.size w w' := by
  have e : rowAgg n = .agg #[.string ⟨#[]⟩, .int .i64 0, .int .i64 0, .int .i64 0] := by
    simp only [rowAgg, word, takes, pops, pushes, opRow_out (show n < 1 ∨ 23 ≤ n by omega)]; rfl
  rw [e]
  clear e
  have d0 : ¬ (n ≤ 0) := by omega
  go_enter Tryz.func35, Tryz.ntmps35
  go_wp2_with (refine wpList_runs2 (o := ⟨some 28, _, _, _, _, _⟩) rfl (Instr.buildSlice 115 23 partsA) (by kernel_rfl) _ _ (hbs' w _) ?_)
  exact bodyPost_ret (v := .tuple #[.agg #[.string ⟨#[]⟩, .int .i64 0, .int .i64 0, .int .i64 0], .bool false]) (by simp [results, Tryz.results35, go_sem]) rfl ⟨rfl, ((Below.refl _ _).alloc (Nat.le_refl _) _).alloc (by simp) _⟩

/-- quash/code.about, for every Op. -/
theorem about_any (n : Int) (w : World) :
    Calls Tryz.prog 35 #[.int .i64 n] w fun e w' => e = .returned (.tuple #[rowAgg n, .bool (isOp n)]) ∧ Below w.heap.size w w' := by
  by_cases h0 : n ≤ 0
  · rw [show isOp n = false by simp [isOp]; omega]
    exact about_low n h0 w
  by_cases h1 : 23 ≤ n
  · rw [show isOp n = false by simp [isOp]; omega]
    exact about_high n h1 w
  · rw [show isOp n = true by simp [isOp]; omega]
    obtain ⟨k, rfl⟩ := Int.eq_ofNat_of_zero_le (show 0 ≤ n by omega)
    exact about_in k (by omega) (by omega) w

end Go.Proofs.YtoiokbdipcecnaaGreatDoor
namespace Go.Proofs.YtoiokbdipcecnaaGreatDoor
open Go.RowKit
set_option maxRecDepth 100000

theorem Name_any (n : Int) (w : World) :
    Calls Tryz.prog 150 #[.int .i64 n] w fun e w' => e = .returned (.string (word n)) ∧ Below w.heap.size w w' := by
  go_enter Tryz.func150, Tryz.ntmps150
  go_wp2_with (go_at_call 35; refine (about_any _ _).mono ?_; rintro e w1 ⟨rfl, hb⟩; simp only [rowAgg])
  go_ret
  exact ⟨rfl, hb.alloc hb.size _⟩
theorem Takes_any (n : Int) (w : World) :
    Calls Tryz.prog 81 #[.int .i64 n] w fun e w' => e = .returned (.int .i64 (takes n)) ∧ Below w.heap.size w w' := by
  go_enter Tryz.func81, Tryz.ntmps81
  go_wp2_with (go_at_call 35; refine (about_any _ _).mono ?_; rintro e w1 ⟨rfl, hb⟩; simp only [rowAgg])
  go_ret
  exact ⟨rfl, hb.alloc hb.size _⟩

/-- may an operand be, in a program of n instructions? -/
def mayB (t a n : Int) : Bool := if t = 1 then true else if t = 2 then decide (0 ≤ a ∧ a < 8) else if t = 3 then decide (0 ≤ a ∧ a ≤ n) else a == 0
theorem may_any (t a n : Int) (w : World) :
    Calls Tryz.prog 36 #[.int .i64 t, .int .i64 a, .int .i64 n] w fun e w' => e = .returned (.bool (mayB t a n)) ∧ w = w' := by
  by_cases h1 : t = 1
  · subst h1
    go_enter Tryz.func36, Tryz.ntmps36
    go_wp2
    go_ret
    exact ⟨by simp [mayB], rfl⟩
  by_cases h2 : t = 2
  · subst h2
    go_enter Tryz.func36, Tryz.ntmps36
    go_wp2
    all_goals go_ret
    all_goals refine ⟨?_, rfl⟩
    all_goals simp [mayB]
    all_goals omega
  by_cases h3 : t = 3
  · subst h3
    go_enter Tryz.func36, Tryz.ntmps36
    go_wp2
    all_goals go_ret
    all_goals refine ⟨?_, rfl⟩
    all_goals simp [mayB]
    all_goals omega
  · have e1 : (t == 1) = false := by simpa using h1
    have e2 : (t == 2) = false := by simpa using h2
    have e3 : (t == 3) = false := by simpa using h3
    go_enter Tryz.func36, Tryz.ntmps36
    go_wp2
    all_goals go_ret
    all_goals refine ⟨?_, rfl⟩
    all_goals simp [mayB, h1, h2, h3]

/-- the Op of a word; 0: none -/
def opOfN (s : ByteArray) : Nat → Int → Int
  | 0, _ => 0
  | n + 1, op => if (word op).toList == s.toList then op else opOfN s n (op + 1)
def opOfB (s : ByteArray) : Int := opOfN s 22 1
theorem opOf_any (s : ByteArray) (w : World) :
    Calls Tryz.prog 132 #[.string s] w fun e w' => e = .returned (.int .i64 (opOfB s)) ∧ Below w.heap.size w w' := by
  go_enter Tryz.func132, Tryz.ntmps132
  go_wp2
  go_loopw [3] (fun v wr => ∃ k : Nat, k ≤ 22 ∧ v = .int .i64 ((k : Int) + 1) ∧ opOfN s (22 - k) ((k : Int) + 1) = opOfB s ∧ Below w.heap.size w wr) (fun v _ => 23 - (intOf v).toNat)
  case atStart => exact ⟨0, by omega, rfl, rfl, Below.refl _ _⟩
  case round =>
    obtain ⟨k, hk, rfl, hsp, hbr⟩ := hrel
    have HS := Lib.hid hsp
    clear hsp
    by_cases hlt : k < 22
    · go_wp2_with (go_at_call 150; refine (Name_any _ _).mono ?_; rintro e w1 ⟨rfl, hb⟩)
      · go_ret
        have h : ((word (↑k + 1)).toList == s.toList) = true := by assumption
        refine ⟨?_, hbr.trans (hb.mono hbr.size)⟩
        rw [← HS.out]
        obtain ⟨m, hm⟩ : ∃ m, 22 - k = m + 1 := ⟨21 - k, by omega⟩
        rw [hm]
        simp only [opOfN, h, if_true]
        rfl
      · have h : ((word (↑k + 1)).toList == s.toList) = false := by assumption
        go_roundw
        case rel =>
          refine ⟨k + 1, by omega, by go_num, ?_, hbr.trans (hb.mono hbr.size)⟩
          rw [← HS.out]
          obtain ⟨m, hm⟩ : ∃ m, 22 - k = m + 1 := ⟨21 - k, by omega⟩
          rw [hm, show 22 - (k + 1) = m by omega]
          simp only [opOfN, h]
          simp
        case measure => simp [intOf]; omega
    · go_wp2
      go_ret
      obtain rfl : k = 22 := by omega
      exact ⟨by rw [← HS.out]; rfl, hbr⟩
end Go.Proofs.YtoiokbdipcecnaaGreatDoor
namespace Go.Proofs.YtoiokbdipcecnaaGreatDoor
open Go.RowKit
set_option maxRecDepth 100000

def smallC (c : UInt8) : Bool := decide (97 ≤ c.toNat) && decide (c.toNat ≤ 122)
def otherC (c : UInt8) : Bool := (decide (48 ≤ c.toNat) && decide (c.toNat ≤ 57)) || c.toNat == 45
/-- is the byte at place k of a name right? -/
def nameC (k : Nat) (c : UInt8) : Bool := smallC c || (k != 0 && otherC c)
def nameFrom : Nat → List UInt8 → Bool
  | _, [] => true
  | k, c :: r => nameC k c && nameFrom (k + 1) r
def isNameB (l : List UInt8) : Bool := nameFrom 0 l && decide (1 ≤ l.length) && decide (l.length ≤ 16)
theorem drop_cons (s : ByteArray) (k : Nat) (h : k < s.size) : s.data.toList.drop k = s[k] :: s.data.toList.drop (k + 1) := by
  rw [List.drop_eq_getElem_cons (by simpa using h)]; rfl
/-- Where a byte lies, and whether it is the first: what the walk's tests say. -/
theorem nameC_cases (k : Nat) (c : UInt8) (P : Prop)
    (h1 : 97 ≤ (c.toNat : Int) → (c.toNat : Int) ≤ 122 → nameC k c = true → P)
    (h2 : k = 0 → (c.toNat : Int) < 97 → nameC k c = false → P)
    (h3 : k = 0 → 122 < (c.toNat : Int) → nameC k c = false → P)
    (h4 : 0 < k → (c.toNat : Int) < 45 → nameC k c = false → P)
    (h5 : 0 < k → (c.toNat : Int) = 45 → nameC k c = true → P)
    (h6 : 0 < k → 45 < (c.toNat : Int) → (c.toNat : Int) < 48 → nameC k c = false → P)
    (h7 : 0 < k → 48 ≤ (c.toNat : Int) → (c.toNat : Int) ≤ 57 → nameC k c = true → P)
    (h8 : 0 < k → 57 < (c.toNat : Int) → (c.toNat : Int) < 97 → nameC k c = false → P)
    (h9 : 0 < k → 122 < (c.toNat : Int) → nameC k c = false → P) : P := by
  have hc : nameC k c = (decide (97 ≤ c.toNat) && decide (c.toNat ≤ 122) || (k != 0 && (decide (48 ≤ c.toNat) && decide (c.toNat ≤ 57) || c.toNat == 45))) := rfl
  by_cases a : 97 ≤ c.toNat ∧ c.toNat ≤ 122
  · exact h1 (by omega) (by omega) (by rw [hc]; simp [a])
  by_cases k0 : k = 0
  · by_cases b : c.toNat < 97
    · exact h2 k0 (by omega) (by rw [hc]; simp [k0]; omega)
    · exact h3 k0 (by omega) (by rw [hc]; simp [k0]; omega)
  have k1 : (k != 0) = true := by simpa using k0
  rw [k1] at hc
  by_cases b1 : c.toNat < 45
  · exact h4 (by omega) (by omega) (by rw [hc]; simp; omega)
  by_cases b2 : c.toNat = 45
  · exact h5 (by omega) (by omega) (by rw [hc]; simp [b2])
  by_cases b3 : c.toNat < 48
  · exact h6 (by omega) (by omega) (by omega) (by rw [hc]; simp; omega)
  by_cases b4 : c.toNat ≤ 57
  · exact h7 (by omega) (by omega) (by omega) (by rw [hc]; simp; omega)
  by_cases b5 : c.toNat < 97
  · exact h8 (by omega) (by omega) (by omega) (by rw [hc]; simp; omega)
  · exact h9 (by omega) (by omega) (by rw [hc]; simp; omega)

set_option maxHeartbeats 4000000 in
theorem isName_any (s : ByteArray) (w : World) (hs : s.size ≤ maxLen) :
    Calls Tryz.prog 129 #[.string s] w fun e w' => e = .returned (.bool (isNameB s.data.toList)) ∧ w = w' := by
  unfold maxLen at hs
  go_enter Tryz.func129, Tryz.ntmps129
  go_wp2
  go_loop [8] (fun v => ∃ k : Nat, k ≤ s.size ∧ v = .int .i64 (k : Int) ∧ nameFrom k (s.data.toList.drop k) = nameFrom 0 s.data.toList) (fun v => s.size - (intOf v).toNat)
  case atStart => exact ⟨0, by omega, rfl, rfl⟩
  case round =>
    obtain ⟨k, hk, rfl, hsp⟩ := hrel
    by_cases hlt : k < s.size
    · rw [drop_cons s k hlt] at hsp
      simp only [nameFrom] at hsp
      refine nameC_cases k s[k] _ ?_ ?_ ?_ ?_ ?_ ?_ ?_ ?_ ?_
      all_goals intros
      all_goals rename_i hn
      all_goals rw [hn] at hsp
      all_goals have HS := Lib.hid hsp
      all_goals clear hsp hn
      all_goals try subst k
      all_goals go_wp2
      all_goals first | (go_ret; refine ⟨?_, rfl⟩; rw [show isNameB s.data.toList = false from by unfold isNameB; rw [← HS.out]; rfl]; rfl) | (go_round; (case rel => exact ⟨k + 1, by omega, by go_num, by rw [← HS.out]; rfl⟩); (case measure => simp [intOf]; omega)) | (exfalso; (try simp at *); omega)
    · have HS := Lib.hid hsp
      clear hsp
      obtain rfl : k = s.size := by omega
      have hd : nameFrom 0 s.data.toList = true := by
        rw [← HS.out, List.drop_of_length_le (by simp)]; rfl
      have hl : s.data.toList.length = s.size := by simp
      have hv : isNameB s.data.toList = (decide (1 ≤ s.size) && decide (s.size ≤ 16)) := by
        unfold isNameB; rw [hd, hl]; rfl
      have HV := Lib.hid hv
      clear hv hl hd HS
      by_cases h1 : s.size < 1
      · go_wp2
        go_ret
        refine ⟨?_, rfl⟩; rw [HV.out]; simp; first | omega | (rw [Bool.eq_iff_iff]; simp; omega)
      · by_cases h2 : s.size ≤ 16
        · go_wp2
          go_ret
          refine ⟨?_, rfl⟩; rw [HV.out]; simp; first | omega | (rw [Bool.eq_iff_iff]; simp; omega)
        · go_wp2
          go_ret
          refine ⟨?_, rfl⟩; rw [HV.out]; simp; first | omega | (rw [Bool.eq_iff_iff]; simp; omega)
theorem fail_any (b : Nat) (e line : Int) (w : World) (hc : w.cell? ⟨b, 4, none⟩ = some (.int .i64 line)) :
    Calls Tryz.prog 130 #[.pointer (some ⟨b, 0, none⟩), .int .i64 e] w fun en w' => en = .panicked [{ v := .iface 153 (.agg #[.int .i64 e, .int .i64 line]), recovered := false }] ∧ w = w' := by
  go_enter Tryz.func130, Tryz.ntmps130
  go_wp2
  exact ⟨rfl, rfl, rfl⟩
end Go.Proofs.YtoiokbdipcecnaaGreatDoor
