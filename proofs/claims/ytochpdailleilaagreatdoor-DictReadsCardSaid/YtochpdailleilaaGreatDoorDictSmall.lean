/-
  quash/dict.Room, home, may; quash/quashref19.Room, home, May; quash/quashlaw19.codeDict: every call. What a deed does (plain). No condition.
-/
import Derived.Test.YtochpdailleilaaGreatDoorRowE
import Derived.Test.YtochpdailleilaaGreatDoorDictS
namespace Go.Proofs.YtochpdailleilaaGreatDoor
open Go.RowKit
set_option maxRecDepth 100000

/-- nil has no room; what is there has room -/
def Flat (ao : Option Addr) (n c : Nat) : Prop := (ao = none → c = 0) ∧ n ≤ c
theorem Own.slice {w : World} {B : Nat} {v : Value} {zs : List Int} (h : Own w B v zs) : ∃ ao c, v = .slice ao zs.length c ∧ Flat ao zs.length c ∧ c ≤ maxLen ∧ (zs.length ≠ 0 → ∃ g, ao = some ⟨g, 0, none⟩ ∧ Bal w B g c zs) := by
  rcases h.form with ⟨rfl, rfl⟩ | ⟨g, cap, rfl, hb⟩
  · exact ⟨none, 0, rfl, ⟨fun _ => rfl, Nat.le_refl _⟩, by decide, fun h => absurd rfl h⟩
  · exact ⟨_, cap, rfl, ⟨fun h => (by cases h), hb.caps.1⟩, hb.caps.2, fun _ => ⟨g, rfl, hb⟩⟩
def roomI (n : Int) : Int := if 1 ≤ n ∧ n ≤ 60 then 1 + 3 * n else 0
theorem roomI_yes {n : Int} (h : roomI n ≠ 0) : roomI n = 1 + 3 * n ∧ 1 ≤ n ∧ n ≤ 60 := by
  unfold roomI at h ⊢
  split at h <;> simp_all
theorem Room_any (n : Int) (w : World) : Calls Tryz.prog 21 #[.int .i64 n] w fun e w' => e = .returned (.int .i64 (roomI n)) ∧ w' = w := by
  by_cases h1 : n < 1
  · have hr : roomI n = 0 := by simp [roomI]; omega
    rw [hr]
    go_enter Tryz.func21, Tryz.ntmps21
    go_wp2
    go_ret
    exact ⟨rfl, rfl⟩
  · by_cases h2 : 60 < n
    · have hr : roomI n = 0 := by simp [roomI]; omega
      rw [hr]
      go_enter Tryz.func21, Tryz.ntmps21
      go_wp2
      go_ret
      exact ⟨rfl, rfl⟩
    · have hr : roomI n = 1 + 3 * n := by simp [roomI]; omega
      rw [hr]
      go_enter Tryz.func21, Tryz.ntmps21
      go_wp2
      go_ret
      exact ⟨rfl, rfl⟩
theorem refRoom_any (n : Int) (w : World) : Calls Tryz.prog 15 #[.int .i64 n] w fun e w' => e = .returned (.int .i64 (roomI n)) ∧ w' = w := by
  by_cases h1 : n < 1
  · have hr : roomI n = 0 := by simp [roomI]; omega
    rw [hr]
    go_enter Tryz.func15, Tryz.ntmps15
    go_wp2
    go_ret
    exact ⟨rfl, rfl⟩
  · by_cases h2 : 60 < n
    · have hr : roomI n = 0 := by simp [roomI]; omega
      rw [hr]
      go_enter Tryz.func15, Tryz.ntmps15
      go_wp2
      go_ret
      exact ⟨rfl, rfl⟩
    · have hr : roomI n = 1 + 3 * n := by simp [roomI]; omega
      rw [hr]
      go_enter Tryz.func15, Tryz.ntmps15
      go_wp2
      go_ret
      exact ⟨rfl, rfl⟩
theorem ret_bool {a b : Bool} (h : a = b) : Ending.returned (.bool a) = .returned (.bool b) := by rw [h]
theorem retI {a b : Int} (h : a = b) : Ending.returned (.int .i64 a) = .returned (.int .i64 b) := by rw [h]
theorem tmod_bd (key : Int) {n : Nat} (h : 0 < n) : -(n : Int) < key.tmod n ∧ key.tmod n < n := by
  refine ⟨?_, Int.tmod_lt_of_pos key (by omega)⟩
  have := Int.lt_tmod_of_pos key (show (0 : Int) < n by omega)
  omega
theorem home_any (key : Int) (N : Nat) (h1 : 1 ≤ N) (h60 : N ≤ 60) (w : World) : Calls Tryz.prog 43 #[.int .i64 key, .int .i64 N] w fun e w' => e = .returned (.int .i64 (homeN key N : Nat)) ∧ w' = w := by
  have HT := Lib.hid (homeN_tmod key (n := N) (by omega))
  obtain ⟨b1, b2⟩ := tmod_bd key (n := N) (by omega)
  have hz : ((N : Int) == 0) = false := by simp; omega
  have hw : IntKind.i64.wrap (key.tmod N) = key.tmod N := IntWalk.i64_in _ (by omega)
  by_cases hn : key.tmod N < 0
  · have hd : decide (key.tmod N < 0) = true := by simpa using hn
    go_enter Tryz.func43, Tryz.ntmps43
    go_wp2
    go_ret
    exact ⟨retI (by rw [HT.out, if_pos (by omega)]), rfl⟩
  · have hd : decide (key.tmod N < 0) = false := by simpa using hn
    go_enter Tryz.func43, Tryz.ntmps43
    go_wp2
    go_ret
    exact ⟨retI (by rw [HT.out, if_neg (by omega)]), rfl⟩
theorem refHome_any (key : Int) (N : Nat) (h1 : 1 ≤ N) (h60 : N ≤ 60) (w : World) : Calls Tryz.prog 29 #[.int .i64 key, .int .i64 N] w fun e w' => e = .returned (.int .i64 (homeN key N : Nat)) ∧ w' = w := by
  have HT := Lib.hid (homeN_tmod key (n := N) (by omega))
  obtain ⟨b1, b2⟩ := tmod_bd key (n := N) (by omega)
  have hz : ((N : Int) == 0) = false := by simp; omega
  have hw : IntKind.i64.wrap (key.tmod N) = key.tmod N := IntWalk.i64_in _ (by omega)
  by_cases hn : key.tmod N < 0
  · have hd : decide (key.tmod N < 0) = true := by simpa using hn
    go_enter Tryz.func29, Tryz.ntmps29
    go_wp2
    go_ret
    exact ⟨retI (by rw [HT.out, if_pos (by omega)]), rfl⟩
  · have hd : decide (key.tmod N < 0) = false := by simpa using hn
    go_enter Tryz.func29, Tryz.ntmps29
    go_wp2
    go_ret
    exact ⟨retI (by rw [HT.out, if_neg (by omega)]), rfl⟩
/-- may a deed be? -/
def mayD (op a b x y : Int) : Bool := decide (a = 0) && decide (b = 0) && (decide (op = 1) || decide (op = 4) || ((decide (op = 2) || decide (op = 3)) && decide (y = 0)) || (decide (op = 5) && decide (x = 0) && decide (y = 0)))
set_option maxHeartbeats 4000000 in
theorem mayD_any (op a b x y : Int) (w : World) : Calls Tryz.prog 31 #[.agg #[.int .i64 op, .int .i64 a, .int .i64 b, .int .i64 x, .int .i64 y]] w fun e w' => e = .returned (.bool (mayD op a b x y)) ∧ Below w.heap.size w w' := by
  by_cases ha : a = 0
  case neg =>
    have e : mayD op a b x y = false := by simp [mayD, ha]
    have h1 : (a != 0) = true := by simpa using ha
    rw [e]
    clear e ha
    go_enter Tryz.func31, Tryz.ntmps31
    go_wp2
    all_goals
      go_ret
      exact ⟨rfl, (Below.refl _ _).alloc (Nat.le_refl _) _⟩
  by_cases hb : b = 0
  case neg =>
    have e : mayD op a b x y = false := by simp [mayD, hb]
    have h1 : (b != 0) = true := by simpa using hb
    rw [e]
    clear e hb
    subst ha
    go_enter Tryz.func31, Tryz.ntmps31
    go_wp2
    all_goals
      go_ret
      exact ⟨rfl, (Below.refl _ _).alloc (Nat.le_refl _) _⟩
  subst ha
  subst hb
  obtain ho | ho | ho | ho | ho | ho : op = 1 ∨ op = 2 ∨ op = 3 ∨ op = 4 ∨ op = 5 ∨ (op < 1 ∨ 5 < op) := by omega
  case inr.inr.inr.inr.inr =>
    have e : mayD op 0 0 x y = false := by simp [mayD]; omega
    rw [e]
    clear e
    have h1 : (op == 1) = false := by simp; omega
    have h2 : (op == 2) = false := by simp; omega
    have h3 : (op == 3) = false := by simp; omega
    have h4 : (op == 4) = false := by simp; omega
    have h5 : (op == 5) = false := by simp; omega
    clear ho
    go_enter Tryz.func31, Tryz.ntmps31
    go_wp2
    all_goals
      go_ret
      exact ⟨rfl, (Below.refl _ _).alloc (Nat.le_refl _) _⟩
  all_goals
    subst ho
    go_enter Tryz.func31, Tryz.ntmps31
    go_wp2
    all_goals
      go_ret
      exact ⟨ret_bool (by simp [mayD, *] <;> first | omega | (rw [Bool.eq_iff_iff]; simp; omega) | (rw [Bool.eq_iff_iff]; simp) | trace_state), (Below.refl _ _).alloc (Nat.le_refl _) _⟩
set_option maxHeartbeats 4000000 in
theorem May_any (n op a b x y : Int) (w : World) : Calls Tryz.prog 25 #[.int .i64 n, .agg #[.int .i64 op, .int .i64 a, .int .i64 b, .int .i64 x, .int .i64 y]] w fun e w' => e = .returned (.bool (mayD op a b x y)) ∧ Below w.heap.size w w' := by
  by_cases ha : a = 0
  case neg =>
    have e : mayD op a b x y = false := by simp [mayD, ha]
    have h1 : (a != 0) = true := by simpa using ha
    rw [e]
    clear e ha
    go_enter Tryz.func25, Tryz.ntmps25
    go_wp2
    all_goals
      go_ret
      exact ⟨rfl, (Below.refl _ _).alloc (Nat.le_refl _) _⟩
  by_cases hb : b = 0
  case neg =>
    have e : mayD op a b x y = false := by simp [mayD, hb]
    have h1 : (b != 0) = true := by simpa using hb
    rw [e]
    clear e hb
    subst ha
    go_enter Tryz.func25, Tryz.ntmps25
    go_wp2
    all_goals
      go_ret
      exact ⟨rfl, (Below.refl _ _).alloc (Nat.le_refl _) _⟩
  subst ha
  subst hb
  obtain ho | ho | ho | ho | ho | ho : op = 1 ∨ op = 2 ∨ op = 3 ∨ op = 4 ∨ op = 5 ∨ (op < 1 ∨ 5 < op) := by omega
  case inr.inr.inr.inr.inr =>
    have e : mayD op 0 0 x y = false := by simp [mayD]; omega
    rw [e]
    clear e
    have h1 : (op == 1) = false := by simp; omega
    have h2 : (op == 2) = false := by simp; omega
    have h3 : (op == 3) = false := by simp; omega
    have h4 : (op == 4) = false := by simp; omega
    have h5 : (op == 5) = false := by simp; omega
    clear ho
    go_enter Tryz.func25, Tryz.ntmps25
    go_wp2
    all_goals
      go_ret
      exact ⟨rfl, (Below.refl _ _).alloc (Nat.le_refl _) _⟩
  all_goals
    subst ho
    go_enter Tryz.func25, Tryz.ntmps25
    go_wp2
    all_goals
      go_ret
      exact ⟨ret_bool (by simp [mayD, *] <;> first | omega | (rw [Bool.eq_iff_iff]; simp; omega) | (rw [Bool.eq_iff_iff]; simp) | trace_state), (Below.refl _ _).alloc (Nat.le_refl _) _⟩
theorem codeDict_any (ok : Bool) (w : World) : Calls Tryz.prog 20 #[.bool ok] w fun e w' => e = .returned (.int .i64 (if ok then 0 else 190)) ∧ w' = w := by
  cases ok
  · go_enter Tryz.func20, Tryz.ntmps20
    go_wp2
    go_ret
    exact ⟨rfl, rfl⟩
  · go_enter Tryz.func20, Tryz.ntmps20
    go_wp2
    go_ret
    exact ⟨rfl, rfl⟩
/-- do they rise? -/
def risesE (l : List (Int × Int)) : Bool := decide (l.Pairwise (fun p q => p.1 < q.1))
/-- what a deed makes of a dict, and tells -/
def valE (l : List (Int × Int)) (x : Int) : Option Int := (l.find? (fun p => p.1 == x)).map (·.2)
def deedE (l : List (Int × Int)) (n op x y : Int) : List (Int × Int) × List Int :=
  if op = 5 then (l, [(l.length : Int)])
  else match valE l x with
    | some v => if op = 1 then (putE l (x, y), [0]) else if op = 2 then (l, [1, v]) else if op = 3 then (lessE l x ++ moreE l x, [1]) else (putE l (x, wrap64 (v + y)), [1, wrap64 (v + y)])
    | none => if op = 1 then if (l.length : Int) = n then (l, [2]) else (putE l (x, y), [1]) else (l, [0])
def doOk (l : List (Int × Int)) (n op a b x y : Int) : Bool := decide (roomI n ≠ 0) && decide ((l.length : Int) ≤ n) && mayD op a b x y && risesE l
def doE (l : List (Int × Int)) (n op a b x y : Int) : List (Int × Int) × List Int × Bool := if doOk l n op a b x y then ((deedE l n op x y).1, (deedE l n op x y).2, true) else ([], [], false)
/-- what a Do of the program's gives -/
def GaveE (D : List (Int × Int)) (T : List Int) (code : Int) (w : World) (e : Ending) (w' : World) : Prop :=
  ∃ v t, e = .returned (.tuple #[v, t, .int .i64 code]) ∧ OwnE w' w.heap.size v D ∧ Own w' w.heap.size t T ∧ (∀ g, v.ownBlock = some g → t.ownBlock ≠ some g) ∧ Below w.heap.size w w'
/-- what a Do of the document's gives -/
def ToldE (D : List (Int × Int)) (T : List Int) (ok : Bool) (w : World) (e : Ending) (w' : World) : Prop :=
  ∃ ao bo c d, e = .returned (.tuple #[.slice ao D.length c, .slice bo T.length d, .bool ok]) ∧ SeesP w' ao D ∧ Sees w' bo T ∧ Below w.heap.size w w'
theorem deed_parts {l : List (Int × Int)} {n op a b x y : Int} (h : doOk l n op a b x y = true) : roomI n = 1 + 3 * n ∧ 1 ≤ n ∧ n ≤ 60 ∧ (l.length : Int) ≤ n ∧ mayD op a b x y = true ∧ 1 ≤ op ∧ op ≤ 5 ∧ risesE l = true := by
  simp only [doOk, Bool.and_eq_true, decide_eq_true_eq] at h
  obtain ⟨⟨⟨hr, hl⟩, hm⟩, hrs⟩ := h
  have hr := roomI_yes hr
  have hm' := hm
  simp only [mayD, Bool.and_eq_true, Bool.or_eq_true, decide_eq_true_eq] at hm'
  exact ⟨hr.1, hr.2.1, hr.2.2, hl, hm, by omega, by omega, hrs⟩
end Go.Proofs.YtochpdailleilaaGreatDoor
