/-
  PLAIN LAWS ON Verify: whatever the order in which the states are found, what is answered hangs on the set of states that can be reached. No condition.
-/
import Derived.Test.YtojgdabkdbchnaaGreatDoorVerifyS
namespace Go.Proofs.YtojgdabkdbchnaaGreatDoor
open Go.RowKit
set_option maxRecDepth 100000

/-- the states behind one -/
def succV (l : List (Int × Int)) (p : VP) : List VP :=
  if p.1.toNat = l.length then [] else
    let x := l.getD p.1.toNat (0, 0)
    if amissS x.1 p.2.1 p.2.2 = 0 then (behindS x.1 x.2 p.1 p.2.1 p.2.2).1.map fun a => (a, (behindS x.1 x.2 p.1 p.2.1 p.2.2).2.1, (behindS x.1 x.2 p.1 p.2.1 p.2.2).2.2) else []
/-- what is wrong with a state -/
def errV (l : List (Int × Int)) (p : VP) : Int :=
  if p.1.toNat = l.length then (if 0 ≤ p.2.2 then 156 else 0) else amissS (l.getD p.1.toNat (0, 0)).1 p.2.1 p.2.2
inductive ReachV (l : List (Int × Int)) : VP → Prop
  | start : ReachV l (0, 0, -1)
  | step {p q : VP} : ReachV l p → q ∈ succV l p → ReachV l q
def cntD (D : List VP) (k : Nat) : Int := ((D.countP fun p => p.1.toNat == k : Nat) : Int)
def hasD (l : List (Int × Int)) (D : List VP) (k : Nat) (e : Int) : Bool := D.any fun p => p.1.toNat == k && errV l p == e
def badD (l : List (Int × Int)) (D : List VP) (k : Nat) : Int := if hasD l D k 155 then 155 else if hasD l D k 156 then 156 else 0
def verdictD (l : List (Int × Int)) (D : List VP) (k : Nat) : Int := if badD l D k = 0 ∧ 1 < cntD D k ∧ k < l.length then 157 else badD l D k
def finishD (l : List (Int × Int)) (D : List VP) : Nat → Nat → Int × Int
  | 0, _ => (0, 0)
  | F + 1, k => if verdictD l D k = 0 then finishD l D F (k + 1) else (verdictD l D k, (k : Int))
theorem errV_vals (l : List (Int × Int)) (p : VP) : errV l p = 0 ∨ errV l p = 155 ∨ errV l p = 156 := by
  unfold errV
  split
  · split <;> simp
  · unfold amissS
    repeat' split
    all_goals simp
/-- a list of states that is whole: none twice, the start, all that is behind, nothing else -/
structure Whole (l : List (Int × Int)) (D : List VP) : Prop where
  nodup : D.Nodup
  all : ∀ p, p ∈ D ↔ ReachV l p
theorem Whole.perm {l : List (Int × Int)} {D E : List VP} (h : Whole l D) (k : Whole l E) : D.Perm E :=
  (List.perm_ext_iff_of_nodup h.nodup k.nodup).2 fun p => (h.all p).trans (k.all p).symm
theorem any_perm {α : Type} {D E : List α} (h : D.Perm E) (f : α → Bool) : D.any f = E.any f := by
  rw [Bool.eq_iff_iff, List.any_eq_true, List.any_eq_true]
  exact ⟨fun ⟨x, h1, h2⟩ => ⟨x, h.mem_iff.1 h1, h2⟩, fun ⟨x, h1, h2⟩ => ⟨x, h.mem_iff.2 h1, h2⟩⟩
theorem finishD_perm {l : List (Int × Int)} {D E : List VP} (h : D.Perm E) : ∀ F k, finishD l D F k = finishD l E F k
  | 0, _ => rfl
  | F + 1, k => by
    have e1 : badD l D k = badD l E k := by unfold badD hasD; rw [any_perm h, any_perm h]
    have e2 : cntD D k = cntD E k := by unfold cntD; rw [h.countP_eq]
    have e3 : verdictD l D k = verdictD l E k := by unfold verdictD; rw [e1, e2]
    rw [finishD, finishD, e3, finishD_perm h F (k + 1)]
/-! ### the walk that takes the last one off -/
structure DInv (l : List (Int × Int)) (s : VS) (D : List VP) : Prop where
  nodup : (s.todo ++ D).Nodup
  seen : ∀ p, p ∈ s.seen ↔ p ∈ s.todo ∨ p ∈ D
  start : (0, 0, -1) ∈ s.seen
  closed : ∀ p ∈ D, ∀ q ∈ succV l p, q ∈ s.seen
  reach : ∀ p ∈ s.seen, ReachV l p
  many : ∀ k, k ≤ l.length → s.many.getD k 0 = cntD D k
  wrong : ∀ k, k ≤ l.length → s.wrong.getD k 0 = badD l D k
theorem addOne_parts (p : VP) (s : VS) : (addOne p s).many = s.many ∧ (addOne p s).wrong = s.wrong := by
  unfold addOne; split <;> exact ⟨rfl, rfl⟩
theorem addAll_parts (d b : Int) : ∀ (L : List Int) (s : VS), (addAll d b L s).many = s.many ∧ (addAll d b L s).wrong = s.wrong
  | [], _ => ⟨rfl, rfl⟩
  | a :: r, s => by
    obtain ⟨h1, h2⟩ := addAll_parts d b r (addOne (a, d, b) s)
    obtain ⟨k1, k2⟩ := addOne_parts (a, d, b) s
    exact ⟨h1.trans k1, h2.trans k2⟩
/-- what adding keeps: the lists of states alone -/
structure DSet (l : List (Int × Int)) (s : VS) (D : List VP) : Prop where
  nodup : (s.todo ++ D).Nodup
  seen : ∀ p, p ∈ s.seen ↔ p ∈ s.todo ∨ p ∈ D
  reach : ∀ p ∈ s.seen, ReachV l p
theorem addOne_set {l : List (Int × Int)} {s : VS} {D : List VP} (h : DSet l s D) {p : VP} (hp : ReachV l p) : DSet l (addOne p s) D ∧ (∀ q ∈ s.seen, q ∈ (addOne p s).seen) ∧ p ∈ (addOne p s).seen := by
  unfold addOne
  cases hc : s.seen.contains p with
  | true =>
    rw [if_pos rfl]
    exact ⟨h, fun q hq => hq, by simpa using hc⟩
  | false =>
    rw [if_neg (by decide)]
    have hn : p ∉ s.seen := by simpa using hc
    have hn1 : p ∉ s.todo := fun h' => hn ((h.seen p).2 (.inl h'))
    have hn2 : p ∉ D := fun h' => hn ((h.seen p).2 (.inr h'))
    refine ⟨⟨?_, fun q => ?_, fun q hq => ?_⟩, fun q hq => List.mem_cons_of_mem _ hq, List.mem_cons_self⟩
    · have hd := h.nodup
      simp only [List.append_assoc, List.singleton_append]
      rw [List.nodup_append] at hd ⊢
      refine ⟨hd.1, List.nodup_cons.2 ⟨hn2, hd.2.1⟩, fun a ha b hb => ?_⟩
      rcases List.mem_cons.1 hb with rfl | hb
      · intro e; subst e; exact hn1 ha
      · exact hd.2.2 a ha b hb
    · simp only [List.mem_cons, List.mem_append, List.not_mem_nil, or_false]
      rw [h.seen q]
      constructor
      · rintro (h1 | h1 | h1)
        · exact .inl (.inr h1)
        · exact .inl (.inl h1)
        · exact .inr h1
      · rintro ((h1 | h1) | h1)
        · exact .inr (.inl h1)
        · exact .inl h1
        · exact .inr (.inr h1)
    · rcases List.mem_cons.1 hq with rfl | hq
      · exact hp
      · exact h.reach q hq
theorem addAll_set {l : List (Int × Int)} {d b : Int} {D : List VP} : ∀ (L : List Int) {s : VS}, DSet l s D → (∀ a ∈ L, ReachV l (a, d, b)) → DSet l (addAll d b L s) D ∧ (∀ q ∈ s.seen, q ∈ (addAll d b L s).seen) ∧ ∀ a ∈ L, (a, d, b) ∈ (addAll d b L s).seen
  | [], s, h, _ => ⟨h, fun _ hq => hq, fun a ha => by cases ha⟩
  | a :: r, s, h, hp => by
    obtain ⟨h1, h2, h3⟩ := addOne_set h (hp a (by simp))
    obtain ⟨k1, k2, k3⟩ := addAll_set r h1 (fun x hx => hp x (by simp [hx]))
    refine ⟨k1, fun q hq => k2 q (h2 q hq), fun x hx => ?_⟩
    rcases List.mem_cons.1 hx with rfl | hx
    · exact k2 _ h3
    · exact k3 x hx
theorem cntD_cons (p : VP) (D : List VP) (k : Nat) : cntD (p :: D) k = cntD D k + if p.1.toNat = k then 1 else 0 := by
  unfold cntD
  rw [List.countP_cons]
  by_cases h : p.1.toNat = k
  · simp [h]
  · simp [h]
theorem badD_cons (l : List (Int × Int)) (p : VP) (D : List VP) (k : Nat) : badD l (p :: D) k =
    if p.1.toNat = k then (if errV l p = 155 ∨ badD l D k = 155 then 155 else if errV l p = 156 ∨ badD l D k = 156 then 156 else 0) else badD l D k := by
  unfold badD hasD
  rw [List.any_cons, List.any_cons]
  by_cases h : p.1.toNat = k
  · simp only [h, beq_self_eq_true, Bool.true_and, if_true]
    rcases errV_vals l p with e | e | e <;> rw [e] <;> (cases (D.any fun p => p.1.toNat == k && errV l p == 155) <;> cases (D.any fun p => p.1.toNat == k && errV l p == 156) <;> decide)
  · have hb : (p.1.toNat == k) = false := by simpa using h
    simp only [hb, Bool.false_and, Bool.false_or, h, if_false]
theorem badD_vals (l : List (Int × Int)) (D : List VP) (k : Nat) : badD l D k = 0 ∨ badD l D k = 155 ∨ badD l D k = 156 := by
  unfold badD
  split
  · simp
  · split <;> simp
theorem badD_end (l : List (Int × Int)) (D : List VP) : badD l D l.length ≠ 155 := by
  have h : hasD l D l.length 155 = false := by
    unfold hasD
    rw [List.any_eq_false]
    intro p _ h
    simp only [Bool.and_eq_true, beq_iff_eq] at h
    obtain ⟨h1, h2⟩ := h
    unfold errV at h2
    rw [if_pos h1] at h2
    split at h2 <;> exact absurd h2 (by decide)
  unfold badD
  rw [h]
  split
  · rename_i h'; cases h'
  · split <;> decide
theorem bump_get {m : List Int} {K : Nat} (hK : K < m.length) (j : Nat) : (bump m K).getD j 0 = m.getD j 0 + if K = j then 1 else 0 := by
  unfold bump
  rw [List.getD_eq_getElem?_getD, List.getElem?_set]
  by_cases e : K = j
  · subst e
    simp [hK]
  · rw [if_neg e, if_neg e, List.getD_eq_getElem?_getD]
    simp
theorem set_get {m : List Int} {K : Nat} (hK : K < m.length) (v : Int) (j : Nat) : (m.set K v).getD j 0 = if K = j then v else m.getD j 0 := by
  rw [List.getD_eq_getElem?_getD, List.getElem?_set]
  by_cases e : K = j
  · subst e
    simp [hK]
  · rw [if_neg e, if_neg e, List.getD_eq_getElem?_getD]
theorem DInv.step {l : List (Int × Int)} {s : VS} {D : List VP} {L : List VP} {f : VP} (h : DInv l s D) (ht : s.todo = L ++ [f]) (hOk : VOk l.length s) (hf : okP l.length f) : DInv l (vstep l f { s with todo := L }) (f :: D) := by
  obtain ⟨f1, f2, f3, f4, f5, f6⟩ := hf
  have hK : f.1.toNat ≤ l.length := by omega
  have hKm : f.1.toNat < s.many.length := by rw [hOk.many]; omega
  have hKw : f.1.toNat < s.wrong.length := by rw [hOk.wrong]; omega
  have hfr : ReachV l f := h.reach f ((h.seen f).2 (.inl (by rw [ht]; simp)))
  have hset : DSet l { todo := L, seen := s.seen, many := bump s.many f.1.toNat, wrong := s.wrong } (f :: D) := by
    refine ⟨?_, fun p => ?_, h.reach⟩
    · have := h.nodup
      rw [ht] at this
      simpa using this
    · show p ∈ s.seen ↔ p ∈ L ∨ p ∈ f :: D
      rw [h.seen p, ht]
      simp only [List.mem_append, List.mem_cons, List.not_mem_nil, or_false]
      constructor
      · rintro ((h1 | h1) | h1)
        · exact .inl h1
        · exact .inr (.inl h1)
        · exact .inr (.inr h1)
      · rintro (h1 | h1 | h1)
        · exact .inl (.inl h1)
        · exact .inl (.inr h1)
        · exact .inr h1
  have hmany : ∀ k, k ≤ l.length → (bump s.many f.1.toNat).getD k 0 = cntD (f :: D) k := fun k hk => by
    rw [bump_get hKm, cntD_cons, h.many k hk]
  -- whatever the verdicts become, the rest stands
  have fin : ∀ wr : List Int, succV l f = [] → (∀ k, k ≤ l.length → wr.getD k 0 = badD l (f :: D) k) → DInv l { todo := L, seen := s.seen, many := bump s.many f.1.toNat, wrong := wr } (f :: D) := fun wr hs hw =>
    ⟨hset.nodup, hset.seen, h.start, fun p hp q hq => by
      rcases List.mem_cons.1 hp with rfl | hp
      · rw [hs] at hq; cases hq
      · exact h.closed p hp q hq, hset.reach, hmany, hw⟩
  by_cases hend : f.1.toNat = l.length
  · have hs : succV l f = [] := by unfold succV; rw [if_pos hend]
    by_cases hb : 0 ≤ f.2.2
    · have e : vstep l f { s with todo := L } = { todo := L, seen := s.seen, many := bump s.many f.1.toNat, wrong := s.wrong.set f.1.toNat 156 } := by
        unfold vstep; simp only; rw [if_pos hend, if_pos hb]
      rw [e]
      refine fin _ hs fun k hk => ?_
      have he : errV l f = 156 := by unfold errV; rw [if_pos hend, if_pos hb]
      rw [set_get hKw, badD_cons, he]
      by_cases e : f.1.toNat = k
      · rw [if_pos e, if_pos e]
        have : badD l D k ≠ 155 := by rw [← e, hend]; exact badD_end l D
        simp [this]
      · rw [if_neg e, if_neg e]
        exact h.wrong k hk
    · have e : vstep l f { s with todo := L } = { todo := L, seen := s.seen, many := bump s.many f.1.toNat, wrong := s.wrong } := by
        unfold vstep; simp only; rw [if_pos hend, if_neg hb]
      rw [e]
      refine fin _ hs fun k hk => ?_
      have he : errV l f = 0 := by unfold errV; rw [if_pos hend, if_neg hb]
      rw [badD_cons, he, h.wrong k hk]
      rcases badD_vals l D k with e | e | e <;> rw [e] <;> split <;> simp
  · have herr : errV l f = amissS (l.getD f.1.toNat (0, 0)).1 f.2.1 f.2.2 := by unfold errV; rw [if_neg hend]
    by_cases he : amissS (l.getD f.1.toNat (0, 0)).1 f.2.1 f.2.2 = 0
    · have e : vstep l f { s with todo := L } = addAll (behindS (l.getD f.1.toNat (0, 0)).1 (l.getD f.1.toNat (0, 0)).2 f.1 f.2.1 f.2.2).2.1 (behindS (l.getD f.1.toNat (0, 0)).1 (l.getD f.1.toNat (0, 0)).2 f.1 f.2.1 f.2.2).2.2 (behindS (l.getD f.1.toNat (0, 0)).1 (l.getD f.1.toNat (0, 0)).2 f.1 f.2.1 f.2.2).1 { todo := L, seen := s.seen, many := bump s.many f.1.toNat, wrong := s.wrong } := by
        unfold vstep; simp only; rw [if_neg hend, if_pos he]
      have hs : succV l f = (behindS (l.getD f.1.toNat (0, 0)).1 (l.getD f.1.toNat (0, 0)).2 f.1 f.2.1 f.2.2).1.map fun a => (a, (behindS (l.getD f.1.toNat (0, 0)).1 (l.getD f.1.toNat (0, 0)).2 f.1 f.2.1 f.2.2).2.1, (behindS (l.getD f.1.toNat (0, 0)).1 (l.getD f.1.toNat (0, 0)).2 f.1 f.2.1 f.2.2).2.2) := by
        unfold succV; simp only; rw [if_neg hend, if_pos he]
      rw [e]
      generalize behindS (l.getD f.1.toNat (0, 0)).1 (l.getD f.1.toNat (0, 0)).2 f.1 f.2.1 f.2.2 = B at hs ⊢
      obtain ⟨P, d, b⟩ := B
      simp only at hs ⊢
      obtain ⟨k1, k2, k3⟩ := addAll_set (d := d) (b := b) P hset (fun a ha => hfr.step (by rw [hs]; exact List.mem_map.2 ⟨a, ha, rfl⟩))
      obtain ⟨m1, m2⟩ := addAll_parts d b P { todo := L, seen := s.seen, many := bump s.many f.1.toNat, wrong := s.wrong }
      refine ⟨k1.nodup, k1.seen, k2 _ h.start, fun p hp q hq => ?_, k1.reach, fun k hk => by rw [m1]; exact hmany k hk, fun k hk => ?_⟩
      · rcases List.mem_cons.1 hp with rfl | hp
        · rw [hs] at hq
          obtain ⟨a, ha, rfl⟩ := List.mem_map.1 hq
          exact k3 a ha
        · exact k2 q (h.closed p hp q hq)
      · rw [m2, badD_cons, herr, he]
        show s.wrong.getD k 0 = _
        rw [h.wrong k hk]
        rcases badD_vals l D k with e | e | e <;> rw [e] <;> split <;> simp
    · have hs : succV l f = [] := by unfold succV; simp only; rw [if_neg hend, if_neg he]
      by_cases hw : s.wrong.getD f.1.toNat 0 = 155
      · have e : vstep l f { s with todo := L } = { todo := L, seen := s.seen, many := bump s.many f.1.toNat, wrong := s.wrong } := by
          unfold vstep; simp only; rw [if_neg hend, if_neg he, if_pos hw]
        rw [e]
        refine fin _ hs fun k hk => ?_
        rw [badD_cons, herr, h.wrong k hk]
        by_cases e : f.1.toNat = k
        · rw [if_pos e]
          have : badD l D k = 155 := by rw [← e, ← h.wrong _ hK]; exact hw
          rw [this]; simp
        · rw [if_neg e]
      · have e : vstep l f { s with todo := L } = { todo := L, seen := s.seen, many := bump s.many f.1.toNat, wrong := s.wrong.set f.1.toNat (amissS (l.getD f.1.toNat (0, 0)).1 f.2.1 f.2.2) } := by
          unfold vstep; simp only; rw [if_neg hend, if_neg he, if_neg hw]
        rw [e]
        refine fin _ hs fun k hk => ?_
        rw [set_get hKw, badD_cons, herr, h.wrong k hk]
        by_cases e : f.1.toNat = k
        · rw [if_pos e, if_pos e]
          have hb : badD l D k ≠ 155 := by rw [← e, ← h.wrong _ hK]; exact hw
          have hv := errV_vals l f
          rw [herr] at hv
          rcases hv with hv | hv | hv
          · exact absurd hv he
          · rw [hv]; simp
          · rw [hv]; simp [hb]
        · rw [if_neg e, if_neg e]
/-- at its end the walk has found a whole list -/
theorem dfs_whole {l : List (Int × Int)} (hl : ∀ (j : Nat) (x : Int × Int), l[j]? = some x → isOp x.1 = true ∧ mayB (takes x.1) x.2 l.length = true) : ∀ (F : Nat) {s : VS} {D : List VP}, DInv l s D → VOk l.length s → mu l.length s ≤ F → ∃ E, DInv l (vrun l F s) E ∧ (vrun l F s).todo = []
  | 0, s, D, h, _, hmu => ⟨D, h, by unfold mu at hmu; exact List.eq_nil_of_length_eq_zero (by show s.todo.length = 0; omega)⟩
  | F + 1, s, D, h, hOk, hmu => by
    rcases List.eq_nil_or_concat s.todo with hL | ⟨L, p, hL⟩
    · have e : vrun l (F + 1) s = s := by rw [vrun, hL]; rfl
      rw [e]
      exact ⟨D, h, hL⟩
    · rw [List.concat_eq_append] at hL
      have e : vrun l (F + 1) s = vrun l F (vstep l p { s with todo := L }) := by rw [vrun, hL, List.getLast?_append]; simp
      have hp := hOk.todo p (by rw [hL]; simp)
      have hOk2 : VOk l.length { s with todo := L } := ⟨fun q hq => hOk.todo q (by rw [hL]; simp [hq]), hOk.many, hOk.wrong⟩
      have hmu2 : mu l.length { s with todo := L } ≤ F := by
        have : s.todo.length = L.length + 1 := by rw [hL]; simp
        unfold mu at hmu ⊢; simp only; omega
      obtain ⟨k1, k2, _⟩ := vstep_ok hl hOk2 hp
      rw [e]
      exact dfs_whole hl F (h.step hL hOk hp) k1 (Nat.le_trans k2 hmu2)
theorem DInv.toWhole {l : List (Int × Int)} {s : VS} {D : List VP} (h : DInv l s D) (ht : s.todo = []) : Whole l D := by
  have hm : ∀ p, p ∈ s.seen ↔ p ∈ D := fun p => by rw [h.seen p, ht]; simp
  refine ⟨by have := h.nodup; rwa [ht] at this, fun p => ⟨fun hp => h.reach p ((hm p).2 hp), fun hp => ?_⟩⟩
  induction hp with
  | start => exact (hm _).1 h.start
  | step _ hq ih => exact (hm _).1 (h.closed _ ih _ hq)
theorem dstart (l : List (Int × Int)) : DInv l (vstart l.length) [] := by
  refine ⟨by simp [vstart], fun p => by simp [vstart], by simp [vstart], fun p hp => (by cases hp), fun p hp => ?_, fun k hk => ?_, fun k hk => ?_⟩
  · have : p = (0, 0, -1) := by simpa [vstart] using hp
    subst this
    exact .start
  · simp [vstart, cntD, List.getD_eq_getElem?_getD, List.getElem?_replicate]
    split <;> rfl
  · simp [vstart, badD, hasD, List.getD_eq_getElem?_getD, List.getElem?_replicate]
    split <;> rfl
theorem verdict_D {l : List (Int × Int)} {s : VS} {D : List VP} (h : DInv l s D) {k : Nat} (hk : k ≤ l.length) : verdict l.length s.many s.wrong k = verdictD l D k := by
  unfold verdict verdictD
  rw [h.many k hk, h.wrong k hk]
theorem finish_D {l : List (Int × Int)} {s : VS} {D : List VP} (h : DInv l s D) : ∀ (F k : Nat), k + F ≤ l.length + 1 → finishFrom l.length s.many s.wrong F k = finishD l D F k
  | 0, _, _ => rfl
  | F + 1, k, hk => by rw [finishFrom, finishD, verdict_D h (by omega), finish_D h F (k + 1) (by omega)]
/-- WHAT Verify ANSWERS, by the states that can be reached -/
theorem verify_whole {l : List (Int × Int)} (h0 : (checkL l).1 = 0) {E : List VP} (hE : Whole l E) : verifyL l = finishD l E (l.length + 1) 0 := by
  obtain ⟨_, _, hl⟩ := checkL_ok h0
  obtain ⟨h1, h2⟩ := vstart_ok l.length
  obtain ⟨D, hD, ht⟩ := dfs_whole hl (vfuel l.length) (dstart l) h1 h2
  have hv : verifyL l = finishFrom l.length (vend l).many (vend l).wrong (l.length + 1) 0 := by unfold verifyL; rw [if_pos h0]
  rw [hv]
  unfold vend
  rw [finish_D hD (l.length + 1) 0 (by omega)]
  exact finishD_perm ((hD.toWhole ht).perm hE) _ _
end Go.Proofs.YtojgdabkdbchnaaGreatDoor
