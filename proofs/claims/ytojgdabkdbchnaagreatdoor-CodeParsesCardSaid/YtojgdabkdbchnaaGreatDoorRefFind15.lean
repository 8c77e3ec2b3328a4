/-
  quash/quashref15.find: for every row of labels of the call's own. No condition but sizes.
-/
import Derived.Test.YtojgdabkdbchnaaGreatDoorRefLines15
import Derived.Test.YtojgdabkdbchnaaGreatDoorCodeParse
namespace Go.Proofs.YtojgdabkdbchnaaGreatDoor
open Go.RowKit
set_option maxRecDepth 100000

/-- rows of labels -/
def labT : ElemT (List UInt8 × Nat) where
  t := 88
  e := 92
  size := 2
  bytes := 24
  z := .agg #[.string .empty, .int .i64 0]
  cells := fun x => [.string (S x.1), .int .i64 x.2]
  ht := Tryz.underlying88
  info := ⟨_, rfl, rfl, rfl, rfl⟩
  zs := rfl
  pos := by decide
  len := fun _ => rfl
  one := fun x v hv => by
    simp at hv
    rcases hv with rfl | rfl <;> rfl
def findL (L : List (List UInt8 × Nat)) (n : List UInt8) : Int := match L.find? (·.1 == n) with
  | some x => x.2
  | none => -1
theorem findL_from {L : List (List UInt8 × Nat)} {n : List UInt8} {k : Nat} (h : ∀ j x, j < k → L[j]? = some x → x.1 ≠ n) : findL L n = findL (L.drop k) n := by
  have e : L.find? (·.1 == n) = (L.drop k).find? (·.1 == n) := by
    conv => lhs; rw [← List.take_append_drop k L]
    rw [List.find?_append]
    have : (L.take k).find? (·.1 == n) = none := by
      rw [List.find?_eq_none]
      intro x hx
      obtain ⟨j, hj, he⟩ := List.mem_iff_getElem.1 hx
      have hjk : j < k ∧ j < L.length := by simp at hj; omega
      rw [List.getElem_take] at he
      have := h j x hjk.1 (by rw [List.getElem?_eq_getElem hjk.2, he])
      simpa using this
    rw [this]; rfl
  unfold findL
  rw [e]
theorem findL_hit {L : List (List UInt8 × Nat)} {n : List UInt8} {k : Nat} {m : Nat} (h : ∀ j x, j < k → L[j]? = some x → x.1 ≠ n) (hk : L[k]? = some (n, m)) : findL L n = m := by
  rw [findL_from h]
  obtain ⟨hl, he⟩ := List.getElem?_eq_some_iff.1 hk
  rw [List.drop_eq_getElem_cons hl, he]
  simp [findL]
theorem findL_none {L : List (List UInt8 × Nat)} {n : List UInt8} (h : ∀ j x, j < L.length → L[j]? = some x → x.1 ≠ n) : findL L n = -1 := by
  rw [findL_from h, List.drop_length]
  rfl
theorem labAt_some {n : List UInt8} {k : Nat} : ∀ {r : List (List UInt8 × Nat)}, labAt r n = some k → (n, k) ∈ r
  | [], h => by cases h
  | (m, j) :: r, h => by
    unfold labAt at h
    rw [List.find?_cons] at h
    by_cases e : m = n
    · subst e; simp at h; subst h; simp
    · have e2 : (m == n) = false := by simpa using e
      simp only [e2] at h
      exact List.mem_cons_of_mem _ (labAt_some h)
theorem labAt_none {n : List UInt8} : ∀ {r : List (List UInt8 × Nat)}, labAt r n = none → ∀ x ∈ r, x.1 ≠ n
  | [], _, x, hx => by cases hx
  | (m, j) :: r, h, x, hx => by
    unfold labAt at h
    rw [List.find?_cons] at h
    by_cases e : m = n
    · subst e; simp at h
    · have e2 : (m == n) = false := by simpa using e
      simp only [e2] at h
      rcases List.mem_cons.1 hx with rfl | hx
      · exact e
      · exact labAt_none h x hx
theorem labAt_mem {n : List UInt8} {k : Nat} : ∀ {r : List (List UInt8 × Nat)}, Apart r → (n, k) ∈ r → labAt r n = some k
  | [], _, h => by cases h
  | (m, j) :: r, ha, h => by
    unfold labAt
    rw [List.find?_cons]
    by_cases e : m = n
    · subst e
      rcases List.mem_cons.1 h with h | h
      · injection h with _ h; subst h; simp
      · have := labAt_none ha.1 _ h
        exact absurd rfl this
    · have e2 : (m == n) = false := by simpa using e
      simp only [e2]
      rcases List.mem_cons.1 h with h | h
      · injection h with h _; exact absurd h.symm e
      · exact labAt_mem ha.2 h
/-- the labels, the oldest first -/
theorem findL_rev {r : List (List UInt8 × Nat)} (ha : Apart r) (n : List UInt8) : findL r.reverse n = match labAt r n with
  | some k => (k : Int)
  | none => -1 := by
  unfold findL
  cases hf : r.reverse.find? (·.1 == n) with
  | some x =>
    obtain ⟨m, k⟩ := x
    have h1 := List.find?_some hf
    have h2 := List.mem_of_find?_eq_some hf
    have e : m = n := by simpa using h1
    subst e
    rw [labAt_mem ha (List.mem_reverse.1 h2)]
  | none =>
    cases hl : labAt r n with
    | none => rfl
    | some k =>
      have := labAt_some hl
      rw [List.find?_eq_none] at hf
      have := hf _ (List.mem_reverse.2 this)
      simp at this
theorem find_none (s : ByteArray) (w : World) : Calls Tryz.prog 36 #[.slice none 0 0, .string s] w fun e w' => e = .returned (.int .i64 (-1)) ∧ w = w' := by
  go_enter Tryz.func36, Tryz.ntmps36
  go_wp2
  go_loop [5] (fun v => v = .int .i64 0) (fun _ => 0)
  case atStart => rfl
  case round =>
    obtain rfl := hrel
    go_wp2
    go_ret
    exact ⟨rfl, rfl⟩
set_option maxHeartbeats 2000000 in
theorem find_any {w : World} {B : Nat} {v : Value} {L : List (List UInt8 × Nat)} (h : OwnG labT w B v L) (hl : L.length ≤ 400) (s : ByteArray) :
    Calls Tryz.prog 36 #[v, .string s] w fun e w' => e = .returned (.int .i64 (findL L s.data.toList)) ∧ w = w' := by
  rcases h.form with ⟨rfl, rfl⟩ | ⟨g, c, rfl⟩
  · exact find_none s w
  obtain ⟨N, hN⟩ : ∃ N, N = L.length := ⟨_, rfl⟩
  have HN := Lib.hid hN
  rw [← hN] at hl ⊢
  have hc := fun j (x : List UInt8 × Nat) (hx : L[j]? = some x) => And.intro (h.cell (i := 0) hx (u := .string (S x.1)) rfl) (h.cell (i := 1) hx (u := .int .i64 x.2) rfl)
  have HC := Lib.hid hc
  clear hc h hN
  go_enter Tryz.func36, Tryz.ntmps36
  go_wp2
  go_loop [5] (fun v => ∃ k : Nat, k ≤ N ∧ v = .int .i64 k ∧ ∀ j x, j < k → L[j]? = some x → x.1 ≠ s.data.toList) (fun v => N - (intOf v).toNat)
  case atStart => exact ⟨0, Nat.zero_le _, rfl, fun j x hj => absurd hj (by omega)⟩
  case round =>
    obtain ⟨k, hk, rfl, hno⟩ := hrel
    have HNO := Lib.hid hno
    clear hno
    by_cases hlt : k < N
    · obtain ⟨⟨nm, at'⟩, hx⟩ : ∃ x, L[k]? = some x := ⟨_, List.getElem?_eq_getElem (by rw [← HN.out]; exact hlt)⟩
      obtain ⟨c0, c1⟩ := HC.out k _ hx
      have HX := Lib.hid hx
      have hi0 : (0 : Int) ≤ (k : Int) := by omega
      clear hx
      rw [show k * labT.size + 0 = k * 2 from rfl] at c0
      rw [show k * labT.size + 1 = k * 2 + 1 from rfl] at c1
      simp only at c0 c1
      by_cases he : nm = s.data.toList
      · have hbe : ((S nm).toList == s.toList) = true := by rw [S_toList, he, ByteArray.toList_eq]; simp
        subst he
        go_wp2
        go_ret
        exact ⟨by rw [findL_hit HNO.out HX.out]; rfl, rfl⟩
      · have hbe : ((S nm).toList == s.toList) = false := by rw [S_toList, ByteArray.toList_eq]; simpa using he
        have HE := Lib.hid he
        clear he
        go_wp2
        go_round
        case rel => exact ⟨k + 1, by omega, by go_num, fun j x hj hjx => by
          by_cases e : j = k
          · subst e; rw [HX.out] at hjx; injection hjx with hjx; subst hjx; exact HE.out
          · exact HNO.out j x (by omega) hjx⟩
        case measure => simp [intOf]; omega
    · obtain rfl : k = N := by omega
      go_wp2
      go_ret
      exact ⟨by rw [findL_none (by rw [← HN.out]; exact HNO.out)]; rfl, rfl⟩
end Go.Proofs.YtojgdabkdbchnaaGreatDoor
