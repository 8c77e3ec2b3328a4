/-
  PLAIN LAWS ON Verify: what it computes, as a list of states to do and a list of states seen; that a round lowers a measure. No condition.
-/
import Derived.Test.YtojgdabkdbchnaaGreatDoorCodeBehind
namespace Go.Proofs.YtojgdabkdbchnaaGreatDoor
open Go.RowKit
set_option maxRecDepth 100000

/-- a state at a place: the place, the depth, the depth at the transaction's begin (outside: -1) -/
abbrev VP := Int × Int × Int
structure VS where
  todo : List VP
  seen : List VP
  many : List Int
  wrong : List Int
def addOne (p : VP) (s : VS) : VS := if s.seen.contains p then s else { s with todo := s.todo ++ [p], seen := p :: s.seen }
def addAll (d b : Int) : List Int → VS → VS
  | [], s => s
  | a :: r, s => addAll d b r (addOne (a, d, b) s)
def bump (l : List Int) (k : Nat) : List Int := l.set k (l.getD k 0 + 1)
/-- a round: the state f has been taken off -/
def vstep (l : List (Int × Int)) (f : VP) (s : VS) : VS :=
  let k := f.1.toNat
  let s1 : VS := { s with many := bump s.many k }
  if k = l.length then (if 0 ≤ f.2.2 then { s1 with wrong := s1.wrong.set k 156 } else s1)
  else
    let x := l.getD k (0, 0)
    let e := amissS x.1 f.2.1 f.2.2
    if e = 0 then addAll (behindS x.1 x.2 f.1 f.2.1 f.2.2).2.1 (behindS x.1 x.2 f.1 f.2.1 f.2.2).2.2 (behindS x.1 x.2 f.1 f.2.1 f.2.2).1 s1
    else if s1.wrong.getD k 0 = 155 then s1 else { s1 with wrong := s1.wrong.set k e }
def vrun (l : List (Int × Int)) : Nat → VS → VS
  | 0, s => s
  | F + 1, s => match s.todo.getLast? with
    | none => s
    | some f => vrun l F (vstep l f { s with todo := s.todo.dropLast })
/-- what is said of a place -/
def verdict (n : Nat) (many wrong : List Int) (k : Nat) : Int := if wrong.getD k 0 = 0 ∧ 1 < many.getD k 0 ∧ k < n then 157 else wrong.getD k 0
def finishFrom (n : Nat) (many wrong : List Int) : Nat → Nat → Int × Int
  | 0, _ => (0, 0)
  | F + 1, k => if verdict n many wrong k = 0 then finishFrom n many wrong F (k + 1) else (verdict n many wrong k, (k : Int))
def vfuel (n : Nat) : Nat := 2 * ((n + 1) * 33 * 34) + 1
def vstart (n : Nat) : VS := { todo := [(0, 0, -1)], seen := [(0, 0, -1)], many := List.replicate (n + 1) 0, wrong := List.replicate (n + 1) 0 }
def vend (l : List (Int × Int)) : VS := vrun l (vfuel l.length) (vstart l.length)
/-- what Verify answers -/
def verifyL (l : List (Int × Int)) : Int × Int :=
  if (checkL l).1 = 0 then finishFrom l.length (vend l).many (vend l).wrong (l.length + 1) 0 else checkL l

/-! ### states that may be -/
def okP (n : Nat) (p : VP) : Prop := 0 ≤ p.1 ∧ p.1 ≤ n ∧ 0 ≤ p.2.1 ∧ p.2.1 ≤ 32 ∧ -1 ≤ p.2.2 ∧ p.2.2 ≤ 32
def codeP (p : VP) : Nat := (p.1.toNat * 33 + p.2.1.toNat) * 34 + (p.2.2 + 1).toNat
def deP (c : Nat) : VP := (((c / 34 / 33 : Nat) : Int), ((c / 34 % 33 : Nat) : Int), ((c % 34 : Nat) : Int) - 1)
theorem deP_codeP {n : Nat} {p : VP} (h : okP n p) : deP (codeP p) = p ∧ codeP p < (n + 1) * 33 * 34 := by
  obtain ⟨a, d, b⟩ := p
  obtain ⟨h1, h2, h3, h4, h5, h6⟩ := h
  simp only at h1 h2 h3 h4 h5 h6
  obtain ⟨A, rfl⟩ : ∃ A : Nat, a = A := ⟨a.toNat, by omega⟩
  obtain ⟨D, rfl⟩ : ∃ D : Nat, d = D := ⟨d.toNat, by omega⟩
  obtain ⟨B, hB⟩ : ∃ B : Nat, b + 1 = B := ⟨(b + 1).toNat, by omega⟩
  have hb : b = (B : Int) - 1 := by omega
  subst hb
  have e : codeP ((A : Int), (D : Int), (B : Int) - 1) = (A * 33 + D) * 34 + B := by
    unfold codeP
    simp only [Int.toNat_natCast]
    rw [show ((B : Int) - 1 + 1).toNat = B by omega]
  rw [e]
  refine ⟨?_, by omega⟩
  unfold deP
  rw [show ((A * 33 + D) * 34 + B) / 34 = A * 33 + D by omega, show (A * 33 + D) / 33 = A by omega, show (A * 33 + D) % 33 = D by omega, show ((A * 33 + D) * 34 + B) % 34 = B by omega]
/-- how many states have not been seen -/
def unseen (n : Nat) (seen : List VP) : Nat := (List.range ((n + 1) * 33 * 34)).countP fun c => !seen.contains (deP c)
theorem countP_less {p q : Nat → Bool} : ∀ (l : List Nat), (∀ x, p x = true → q x = true) → l.countP p ≤ l.countP q
  | [], _ => Nat.le_refl _
  | x :: r, h => by
    have ih := countP_less r h
    rw [List.countP_cons, List.countP_cons]
    by_cases hp : p x = true
    · rw [if_pos hp, if_pos (h x hp)]; omega
    · rw [if_neg hp]; omega
theorem countP_lt {p q : Nat → Bool} {c : Nat} : ∀ (l : List Nat), (∀ x, p x = true → q x = true) → c ∈ l → p c = false → q c = true → l.countP p < l.countP q
  | x :: r, h, hc, hp, hq => by
    rw [List.countP_cons, List.countP_cons]
    rcases List.mem_cons.1 hc with rfl | hc
    · have := countP_less r h
      rw [hp, hq]
      simp only [if_true]
      simp
      omega
    · have := countP_lt r h hc hp hq
      by_cases hpx : p x = true
      · rw [if_pos hpx, if_pos (h x hpx)]; omega
      · rw [if_neg hpx]; omega
theorem unseen_add {n : Nat} {seen : List VP} {p : VP} (h : okP n p) (hn : seen.contains p = false) : unseen n (p :: seen) < unseen n seen := by
  obtain ⟨h1, h2⟩ := deP_codeP h
  refine countP_lt (c := codeP p) _ (fun c hc => ?_) (List.mem_range.2 h2) ?_ ?_
  · simp only [List.contains_cons, Bool.not_or, Bool.and_eq_true] at hc
    exact hc.2
  · rw [h1]; simp
  · rw [h1, hn]; rfl
theorem unseen_le (n : Nat) (seen : List VP) : unseen n seen ≤ (n + 1) * 33 * 34 := by
  have := List.countP_le_length (p := fun c => !seen.contains (deP c)) (l := List.range ((n + 1) * 33 * 34))
  rwa [List.length_range] at this
def mu (n : Nat) (s : VS) : Nat := 2 * unseen n s.seen + s.todo.length
/-- a state of the walk that may be -/
structure VOk (n : Nat) (s : VS) : Prop where
  todo : ∀ p ∈ s.todo, okP n p
  many : s.many.length = n + 1
  wrong : s.wrong.length = n + 1
theorem addOne_ok {n : Nat} {s : VS} (h : VOk n s) {p : VP} (hp : okP n p) : VOk n (addOne p s) ∧ mu n (addOne p s) ≤ mu n s ∧ (addOne p s).many = s.many ∧ (addOne p s).wrong = s.wrong := by
  unfold addOne
  cases hc : s.seen.contains p with
  | true => exact ⟨h, Nat.le_refl _, rfl, rfl⟩
  | false =>
    refine ⟨⟨fun q hq => ?_, h.many, h.wrong⟩, ?_, rfl, rfl⟩
    · rcases List.mem_append.1 hq with hq | hq
      · exact h.todo q hq
      · rw [List.mem_singleton] at hq; subst hq; exact hp
    · have := unseen_add hp hc
      unfold mu
      simp only [List.length_append, List.length_singleton, Bool.false_eq_true, if_false]
      omega
theorem addAll_ok {n : Nat} {d b : Int} : ∀ (l : List Int) {s : VS}, VOk n s → (∀ a ∈ l, okP n (a, d, b)) → VOk n (addAll d b l s) ∧ mu n (addAll d b l s) ≤ mu n s ∧ (addAll d b l s).many = s.many ∧ (addAll d b l s).wrong = s.wrong
  | [], s, h, _ => ⟨h, Nat.le_refl _, rfl, rfl⟩
  | a :: r, s, h, hp => by
    obtain ⟨h1, h2, h3, h4⟩ := addOne_ok h (hp a (by simp))
    obtain ⟨k1, k2, k3, k4⟩ := addAll_ok r h1 (fun x hx => hp x (by simp [hx]))
    exact ⟨k1, Nat.le_trans k2 h2, k3.trans h3, k4.trans h4⟩
/-! ### what a program that passes Check gives -/
theorem checkFrom_ok {n : Int} : ∀ (l : List (Int × Int)) (k : Nat), (checkFrom n k l).1 = 0 → ∀ (j : Nat) (x : Int × Int), l[j]? = some x → isOp x.1 = true ∧ mayB (takes x.1) x.2 n = true
  | [], _, _, j, x, h => by simp at h
  | y :: r, k, h, j, x, hj => by
    rw [checkFrom] at h
    by_cases h1 : isOp y.1 = false
    · rw [if_pos h1] at h; simp at h
    · rw [if_neg h1] at h
      by_cases h2 : mayB (takes y.1) y.2 n = false
      · rw [if_pos h2] at h; simp at h
      · rw [if_neg h2] at h
        cases j with
        | zero =>
          simp at hj
          subst hj
          exact ⟨by simpa using h1, by simpa using h2⟩
        | succ j => exact checkFrom_ok r (k + 1) h j x (by simpa using hj)
theorem checkL_ok {l : List (Int × Int)} (h : (checkL l).1 = 0) : 1 ≤ l.length ∧ l.length ≤ 400 ∧ ∀ (j : Nat) (x : Int × Int), l[j]? = some x → isOp x.1 = true ∧ mayB (takes x.1) x.2 l.length = true := by
  unfold checkL at h
  by_cases h1 : l.length < 1 ∨ 400 < l.length
  · rw [if_pos h1] at h; simp at h
  · rw [if_neg h1] at h
    exact ⟨by omega, by omega, checkFrom_ok l 0 h⟩
theorem place_ok {a n : Int} (h : mayB 3 a n = true) : 0 ≤ a ∧ a ≤ n := by
  simpa [mayB] using h
theorem behind_ok {n : Nat} {op a k d b : Int} (hp : okP n (k, d, b)) (hk : k < n) (hm : mayB (takes op) a n = true) (he : amissS op d b = 0) :
    ∀ x ∈ (behindS op a k d b).1, okP n (x, (behindS op a k d b).2.1, (behindS op a k d b).2.2) := by
  obtain ⟨h1, h2, h3, h4, h5, h6⟩ := hp
  simp only at h1 h2 h3 h4 h5 h6
  obtain ⟨hp0, hp1, hq0, hq1⟩ := pops_bd op
  unfold amissS at he
  have hd : ¬ (d < pops op ∨ 32 < d - pops op + pushes op) := by
    intro h; rw [if_pos h] at he; exact absurd he (by decide)
  rw [if_neg hd] at he
  have hb16 : ¬ (op = 16 ∧ 0 ≤ b) := by
    intro h; rw [if_pos h] at he; exact absurd he (by decide)
  rw [if_neg hb16] at he
  have hb17 : ¬ ((op = 17 ∨ op = 18 ∨ op = 19 ∨ op = 20) ∧ b < 0) := by
    intro h; rw [if_pos h] at he; exact absurd he (by decide)
  intro x hx
  by_cases e22 : op = 22
  · subst e22; simp [behindS] at hx
  by_cases e14 : op = 14
  · subst e14
    have hpl := place_ok (show mayB 3 a n = true from hm)
    have e : behindS 14 a k d b = ([a], d - pops 14 + pushes 14, b) := by simp [behindS]
    rw [e] at hx ⊢
    rw [List.mem_singleton] at hx
    subst hx
    exact ⟨hpl.1, hpl.2, by show 0 ≤ d - pops 14 + pushes 14; omega, by show d - pops 14 + pushes 14 ≤ 32; omega, h5, h6⟩
  by_cases e15 : op = 15
  · subst e15
    have hpl := place_ok (show mayB 3 a n = true from hm)
    have e : behindS 15 a k d b = ([k + 1, a], d - pops 15 + pushes 15, b) := by simp [behindS]
    rw [e] at hx ⊢
    have hx : x = k + 1 ∨ x = a := by simpa using hx
    refine ⟨?_, ?_, by show 0 ≤ d - pops 15 + pushes 15; omega, by show d - pops 15 + pushes 15 ≤ 32; omega, h5, h6⟩
    · show 0 ≤ x; omega
    · show x ≤ n; omega
  by_cases e20 : op = 20
  · subst e20
    have hpl := place_ok (show mayB 3 a n = true from hm)
    have hb : 0 ≤ b := by omega
    have e : behindS 20 a k d b = ([a], b, -1) := by simp [behindS]
    rw [e] at hx ⊢
    rw [List.mem_singleton] at hx
    subst hx
    exact ⟨hpl.1, hpl.2, hb, h6, by show (-1 : Int) ≤ -1; omega, by show (-1 : Int) ≤ 32; omega⟩
  by_cases e16 : op = 16
  · subst e16
    have e : behindS 16 a k d b = ([k + 1], d - pops 16 + pushes 16, d - pops 16 + pushes 16) := by simp [behindS]
    rw [e] at hx ⊢
    rw [List.mem_singleton] at hx
    subst hx
    exact ⟨by show 0 ≤ k + 1; omega, by show k + 1 ≤ n; omega, by show 0 ≤ d - pops 16 + pushes 16; omega, by show d - pops 16 + pushes 16 ≤ 32; omega, by show -1 ≤ d - pops 16 + pushes 16; omega, by show d - pops 16 + pushes 16 ≤ 32; omega⟩
  by_cases e19 : op = 19
  · subst e19
    have e : behindS 19 a k d b = ([k + 1], d - pops 19 + pushes 19, -1) := by simp [behindS]
    rw [e] at hx ⊢
    rw [List.mem_singleton] at hx
    subst hx
    exact ⟨by show 0 ≤ k + 1; omega, by show k + 1 ≤ n; omega, by show 0 ≤ d - pops 19 + pushes 19; omega, by show d - pops 19 + pushes 19 ≤ 32; omega, by show (-1 : Int) ≤ -1; omega, by show (-1 : Int) ≤ 32; omega⟩
  · have e : behindS op a k d b = ([k + 1], d - pops op + pushes op, b) := by simp [behindS, e22, e14, e15, e20, e16, e19]
    rw [e] at hx ⊢
    rw [List.mem_singleton] at hx
    subst hx
    exact ⟨by show 0 ≤ k + 1; omega, by show k + 1 ≤ n; omega, by show 0 ≤ d - pops op + pushes op; omega, by show d - pops op + pushes op ≤ 32; omega, h5, h6⟩
theorem bump_length (l : List Int) (k : Nat) : (bump l k).length = l.length := by simp [bump]
/-- a round keeps what a state owes, and lowers the measure -/
theorem vstep_ok {l : List (Int × Int)} {s : VS} {f : VP} (hl : ∀ (j : Nat) (x : Int × Int), l[j]? = some x → isOp x.1 = true ∧ mayB (takes x.1) x.2 l.length = true) (hs : VOk l.length s) (hf : okP l.length f) :
    VOk l.length (vstep l f s) ∧ mu l.length (vstep l f s) ≤ mu l.length s ∧ (vstep l f s).many = bump s.many f.1.toNat := by
  have h1 : VOk l.length { s with many := bump s.many f.1.toNat } := ⟨hs.todo, by rw [bump_length]; exact hs.many, hs.wrong⟩
  unfold vstep
  simp only
  by_cases hk : f.1.toNat = l.length
  · rw [if_pos hk]
    split
    · exact ⟨⟨hs.todo, by rw [bump_length]; exact hs.many, by rw [List.length_set]; exact hs.wrong⟩, Nat.le_refl _, rfl⟩
    · exact ⟨h1, Nat.le_refl _, rfl⟩
  · rw [if_neg hk]
    split
    · rename_i he
      obtain ⟨k, d, b⟩ := f
      have hk2 : k < l.length := by have := hf.1; have := hf.2.1; simp only at *; omega
      obtain ⟨x, hx⟩ : ∃ x, l[k.toNat]? = some x := ⟨_, List.getElem?_eq_getElem (by have := hf.1; simp only at this; omega)⟩
      have hgd : l.getD k.toNat (0, 0) = x := by rw [List.getD_eq_getElem?_getD, hx]; rfl
      simp only [hgd] at he ⊢
      obtain ⟨k1, k2, k3, _⟩ := addAll_ok (behindS x.1 x.2 k d b).1 h1 (behind_ok hf hk2 (hl _ _ hx).2 he)
      exact ⟨k1, k2, k3⟩
    · split
      · exact ⟨h1, Nat.le_refl _, rfl⟩
      · exact ⟨⟨hs.todo, by rw [bump_length]; exact hs.many, by rw [List.length_set]; exact hs.wrong⟩, Nat.le_refl _, rfl⟩
theorem vstart_ok (n : Nat) : VOk n (vstart n) ∧ mu n (vstart n) ≤ vfuel n := by
  refine ⟨⟨fun p hp => ?_, by simp [vstart], by simp [vstart]⟩, ?_⟩
  · have : p = (0, 0, -1) := by simpa [vstart] using hp
    subst this
    exact ⟨Int.le_refl _, by show (0 : Int) ≤ n; omega, Int.le_refl _, by show (0 : Int) ≤ 32; omega, Int.le_refl _, by show (-1 : Int) ≤ 32; omega⟩
  · have := unseen_le n (vstart n).seen
    unfold mu vfuel
    have : (vstart n).todo.length = 1 := rfl
    omega
end Go.Proofs.YtojgdabkdbchnaaGreatDoor
