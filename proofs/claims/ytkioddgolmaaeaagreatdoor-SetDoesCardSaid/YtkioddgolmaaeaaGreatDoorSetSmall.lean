/-
  quash/set.Room, may, Start; quash/quashref18.Room, May, Start; quash/quashlaw18.codeSet: every call. What a deed does (plain). No condition.
-/
import Derived.Test.YtkioddgolmaaeaaGreatDoorRow64
namespace Go.Proofs.YtkioddgolmaaeaaGreatDoor
open Go.RowKit
set_option maxRecDepth 100000

/-- nil has no room; what is there has room -/
def Flat (ao : Option Addr) (n c : Nat) : Prop := (ao = none → c = 0) ∧ n ≤ c
theorem Own.slice {w : World} {B : Nat} {v : Value} {zs : List Int} (h : Own w B v zs) : ∃ ao c, v = .slice ao zs.length c ∧ Flat ao zs.length c ∧ c ≤ maxLen ∧ (zs.length ≠ 0 → ∃ g, ao = some ⟨g, 0, none⟩ ∧ Bal w B g c zs) := by
  rcases h.form with ⟨rfl, rfl⟩ | ⟨g, cap, rfl, hb⟩
  · exact ⟨none, 0, rfl, ⟨fun _ => rfl, Nat.le_refl _⟩, by decide, fun h => absurd rfl h⟩
  · exact ⟨_, cap, rfl, ⟨fun h => (by cases h), hb.caps.1⟩, hb.caps.2, fun _ => ⟨g, rfl, hb⟩⟩
def roomI (n : Int) : Int := if 1 ≤ n ∧ n ≤ 60 then 3 + 2 * n else 0
theorem roomI_yes {n : Int} (h : roomI n ≠ 0) : roomI n = 3 + 2 * n ∧ 1 ≤ n ∧ n ≤ 60 := by
  unfold roomI at h ⊢
  split at h <;> simp_all
theorem Room_any (n : Int) (w : World) : Calls Tryz.prog 20 #[.int .i64 n] w fun e w' => e = .returned (.int .i64 (roomI n)) ∧ w' = w := by
  by_cases h1 : n < 1
  · have hr : roomI n = 0 := by simp [roomI]; omega
    rw [hr]
    go_enter Tryz.func20, Tryz.ntmps20
    go_wp2
    go_ret
    exact ⟨rfl, rfl⟩
  · by_cases h2 : 60 < n
    · have hr : roomI n = 0 := by simp [roomI]; omega
      rw [hr]
      go_enter Tryz.func20, Tryz.ntmps20
      go_wp2
      go_ret
      exact ⟨rfl, rfl⟩
    · have hr : roomI n = 3 + 2 * n := by simp [roomI]; omega
      rw [hr]
      go_enter Tryz.func20, Tryz.ntmps20
      go_wp2
      go_ret
      exact ⟨rfl, rfl⟩
theorem refRoom_any (n : Int) (w : World) : Calls Tryz.prog 14 #[.int .i64 n] w fun e w' => e = .returned (.int .i64 (roomI n)) ∧ w' = w := by
  by_cases h1 : n < 1
  · have hr : roomI n = 0 := by simp [roomI]; omega
    rw [hr]
    go_enter Tryz.func14, Tryz.ntmps14
    go_wp2
    go_ret
    exact ⟨rfl, rfl⟩
  · by_cases h2 : 60 < n
    · have hr : roomI n = 0 := by simp [roomI]; omega
      rw [hr]
      go_enter Tryz.func14, Tryz.ntmps14
      go_wp2
      go_ret
      exact ⟨rfl, rfl⟩
    · have hr : roomI n = 3 + 2 * n := by simp [roomI]; omega
      rw [hr]
      go_enter Tryz.func14, Tryz.ntmps14
      go_wp2
      go_ret
      exact ⟨rfl, rfl⟩
theorem ret_bool {a b : Bool} (h : a = b) : Ending.returned (.bool a) = .returned (.bool b) := by rw [h]
/-- may a deed be? -/
def mayD (op a b x y : Int) : Bool := decide (1 ≤ op) && decide (op ≤ 5) && decide (a = 0) && decide (b = 0) && decide (y = 0) && (decide (op ≤ 3) || decide (x = 0))
set_option maxHeartbeats 4000000 in
theorem mayD_any (op a b x y : Int) (w : World) : Calls Tryz.prog 29 #[.agg #[.int .i64 op, .int .i64 a, .int .i64 b, .int .i64 x, .int .i64 y]] w fun e w' => e = .returned (.bool (mayD op a b x y)) ∧ Below w.heap.size w w' := by
  obtain ho | ho | ho | ho | ho | ho : op = 1 ∨ op = 2 ∨ op = 3 ∨ op = 4 ∨ op = 5 ∨ (op < 1 ∨ 5 < op) := by omega
  case inr.inr.inr.inr.inr =>
    have e : mayD op a b x y = false := by simp [mayD]; omega
    rw [e]
    clear e
    have h1 : (op == 1) = false := by simp; omega
    have h2 : (op == 2) = false := by simp; omega
    have h3 : (op == 3) = false := by simp; omega
    have h4 : (op == 4) = false := by simp; omega
    have h5 : (op == 5) = false := by simp; omega
    clear ho
    go_enter Tryz.func29, Tryz.ntmps29
    go_wp2
    all_goals
      go_ret
      exact ⟨rfl, (Below.refl _ _).alloc (Nat.le_refl _) _⟩
  all_goals
    subst ho
    go_enter Tryz.func29, Tryz.ntmps29
    go_wp2
    all_goals
      go_ret
      exact ⟨ret_bool (by simp [mayD, *] <;> first | omega | (rw [Bool.eq_iff_iff]; simp; omega) | (rw [Bool.eq_iff_iff]; simp) | trace_state), (Below.refl _ _).alloc (Nat.le_refl _) _⟩
set_option maxHeartbeats 4000000 in
theorem May_any (n op a b x y : Int) (w : World) : Calls Tryz.prog 24 #[.int .i64 n, .agg #[.int .i64 op, .int .i64 a, .int .i64 b, .int .i64 x, .int .i64 y]] w fun e w' => e = .returned (.bool (mayD op a b x y)) ∧ Below w.heap.size w w' := by
  by_cases ho : 1 ≤ op ∧ op ≤ 5
  · obtain ⟨h1, h5⟩ := ho
    have n1 : ¬ op < 1 := by omega
    have n5 : ¬ 5 < op := by omega
    by_cases h2 : op ≤ 3
    · go_enter Tryz.func24, Tryz.ntmps24
      go_wp2
      all_goals
        go_ret
        exact ⟨ret_bool (by simp [mayD, *] <;> first | omega | (rw [Bool.eq_iff_iff]; simp; omega) | (rw [Bool.eq_iff_iff]; simp) | trace_state), (Below.refl _ _).alloc (Nat.le_refl _) _⟩
    · go_enter Tryz.func24, Tryz.ntmps24
      go_wp2
      all_goals
        go_ret
        exact ⟨ret_bool (by simp [mayD, *] <;> first | omega | (rw [Bool.eq_iff_iff]; simp; omega) | (rw [Bool.eq_iff_iff]; simp) | trace_state), (Below.refl _ _).alloc (Nat.le_refl _) _⟩
  · have e : mayD op a b x y = false := by simp [mayD]; omega
    rw [e]
    clear e
    by_cases h1 : op < 1
    · clear ho
      go_enter Tryz.func24, Tryz.ntmps24
      go_wp2
      all_goals
        go_ret
        exact ⟨rfl, (Below.refl _ _).alloc (Nat.le_refl _) _⟩
    · have h5 : 5 < op := by omega
      clear ho
      go_enter Tryz.func24, Tryz.ntmps24
      go_wp2
      all_goals
        go_ret
        exact ⟨rfl, (Below.refl _ _).alloc (Nat.le_refl _) _⟩
theorem codeSet_any (ok : Bool) (w : World) : Calls Tryz.prog 19 #[.bool ok] w fun e w' => e = .returned (.int .i64 (if ok then 0 else 180)) ∧ w' = w := by
  cases ok
  · go_enter Tryz.func19, Tryz.ntmps19
    go_wp2
    go_ret
    exact ⟨rfl, rfl⟩
  · go_enter Tryz.func19, Tryz.ntmps19
    go_wp2
    go_ret
    exact ⟨rfl, rfl⟩
/-- do they rise? -/
def risesB (zs : List Int) : Bool := zs.Pairwise (· < ·)
/-- what a deed makes of a set, and tells -/
def lessL (zs : List Int) (x : Int) : List Int := zs.filter (· < x)
def moreL (zs : List Int) (x : Int) : List Int := zs.filter (x < ·)
def deedS (zs : List Int) (n op x : Int) : List Int × List Int :=
  if op = 5 then (zs, [(zs.length : Int)])
  else if op = 4 then if zs = [] then (zs, [0]) else (zs, [1, zs.getD 0 0])
  else if op = 3 then if x ∈ zs then (zs, [1]) else (zs, [0])
  else if op = 2 then if x ∈ zs then (lessL zs x ++ moreL zs x, [1]) else (zs, [0])
  else if x ∈ zs then (zs, [0]) else if (zs.length : Int) = n then (zs, [2]) else (lessL zs x ++ x :: moreL zs x, [1])
def doOk (zs : List Int) (n op a b x y : Int) : Bool := decide (roomI n ≠ 0) && decide ((zs.length : Int) ≤ n) && mayD op a b x y && risesB zs
def doS (zs : List Int) (n op a b x y : Int) : List Int × List Int × Bool := if doOk zs n op a b x y then ((deedS zs n op x).1, (deedS zs n op x).2, true) else ([], [], false)
/-- what a Do of the program's gives -/
def Gave (D T : List Int) (code : Int) (w : World) (e : Ending) (w' : World) : Prop :=
  ∃ v t, e = .returned (.tuple #[v, t, .int .i64 code]) ∧ Own w' w.heap.size v D ∧ Own w' w.heap.size t T ∧ (∀ g, v.ownBlock = some g → t.ownBlock ≠ some g) ∧ Below w.heap.size w w'
/-- what a Do of the document's gives -/
def Told (D T : List Int) (ok : Bool) (w : World) (e : Ending) (w' : World) : Prop :=
  ∃ ao bo c d, e = .returned (.tuple #[.slice ao D.length c, .slice bo T.length d, .bool ok]) ∧ Sees w' ao D ∧ Sees w' bo T ∧ Below w.heap.size w w'
theorem deed_parts {zs : List Int} {n op a b x y : Int} (h : doOk zs n op a b x y = true) : roomI n = 3 + 2 * n ∧ 1 ≤ n ∧ n ≤ 60 ∧ (zs.length : Int) ≤ n ∧ mayD op a b x y = true ∧ 1 ≤ op ∧ op ≤ 5 ∧ risesB zs = true := by
  simp only [doOk, Bool.and_eq_true, decide_eq_true_eq] at h
  obtain ⟨⟨⟨hr, hl⟩, hm⟩, hrs⟩ := h
  have hr := roomI_yes hr
  have hm' := hm
  simp only [mayD, Bool.and_eq_true, decide_eq_true_eq] at hm'
  exact ⟨hr.1, hr.2.1, hr.2.2, hl, hm, hm'.1.1.1.1.1, hm'.1.1.1.1.2, hrs⟩
end Go.Proofs.YtkioddgolmaaeaaGreatDoor
