/-
  What a Put or a Drop keeps of a dict, plain; quash/quashlaw19.sameInts of any two rows. No condition.
-/
import Derived.Test.YtochpdailleilaaGreatDoorDictDo
import Derived.Test.YtochpdailleilaaGreatDoorDictSame
namespace Go.Proofs.YtochpdailleilaaGreatDoor
open Go.RowKit
set_option maxRecDepth 100000

def getT (l : List (Int × Int)) (x : Int) : List Int := match valE l x with
  | some v => [1, v]
  | none => [0]
theorem deed_get (l : List (Int × Int)) (n x : Int) : deedE l n 2 x 0 = (l, getT l x) := by
  unfold deedE getT
  rw [if_neg (by omega)]
  cases valE l x <;> simp
theorem uniqE : ∀ {l : List (Int × Int)} {x u v : Int}, l.Pairwise (fun p q => p.1 < q.1) → (x, u) ∈ l → (x, v) ∈ l → u = v
  | [], _, _, _, _, h, _ => by simp at h
  | a :: r, x, u, v, hr, h1, h2 => by
    rw [List.pairwise_cons] at hr
    rcases List.mem_cons.1 h1 with e1 | h1 <;> rcases List.mem_cons.1 h2 with e2 | h2
    · have := e1.trans e2.symm; injection this
    · have := hr.1 _ h2; rw [← e1] at this; simp at this
    · have := hr.1 _ h1; rw [← e2] at this; simp at this
    · exact uniqE hr.2 h1 h2
theorem val_iff {l : List (Int × Int)} (hr : l.Pairwise (fun p q => p.1 < q.1)) {x v : Int} : valE l x = some v ↔ (x, v) ∈ l := by
  constructor
  · intro h
    by_cases hx : x ∈ l.map (·.1)
    · obtain ⟨u, hu, hm⟩ := val_some hx
      rw [hu] at h
      injection h with h
      subst h
      exact hm
    · rw [val_none hx] at h
      cases h
  · intro hm
    obtain ⟨u, hu, hm'⟩ := val_some (List.mem_map.2 ⟨_, hm, rfl⟩)
    rw [hu, uniqE hr hm hm']
theorem get_congr {D l : List (Int × Int)} {y : Int} (hD : D.Pairwise (fun p q => p.1 < q.1)) (hl : l.Pairwise (fun p q => p.1 < q.1)) (h : ∀ v, (y, v) ∈ D ↔ (y, v) ∈ l) : getT D y = getT l y := by
  have : valE D y = valE l y := Option.ext fun v => by rw [val_iff hD, val_iff hl, h]
  unfold getT
  rw [this]
theorem get_yes {D : List (Int × Int)} {x v : Int} (hD : D.Pairwise (fun p q => p.1 < q.1)) (h : (x, v) ∈ D) : getT D x = [1, v] := by
  unfold getT
  rw [(val_iff hD).2 h]
theorem get_no {D : List (Int × Int)} {x : Int} (h : x ∉ D.map (·.1)) : getT D x = [0] := by
  unfold getT
  rw [val_none h]
theorem mem_lessMore {l : List (Int × Int)} {x : Int} {y : Int × Int} : y ∈ lessE l x ++ moreE l x ↔ y ∈ l ∧ y.1 ≠ x := by
  rw [List.mem_append, mem_lessE, mem_moreE]
  constructor
  · rintro (⟨h1, h2⟩ | ⟨h1, h2⟩)
    · exact ⟨h1, by omega⟩
    · exact ⟨h1, by omega⟩
  · rintro ⟨h1, h2⟩
    rcases Int.lt_or_gt_of_ne h2 with h | h
    · exact .inl ⟨h1, h⟩
    · exact .inr ⟨h1, h⟩
theorem lessMore_rises {l : List (Int × Int)} {x : Int} (h : l.Pairwise (fun p q => p.1 < q.1)) : (lessE l x ++ moreE l x).Pairwise (fun p q => p.1 < q.1) :=
  (putE_rises (x, 0) h).sublist (List.Sublist.append (List.Sublist.refl _) (List.sublist_cons_self _ _))
theorem lessMore_le (l : List (Int × Int)) (x : Int) : (lessE l x).length + (moreE l x).length ≤ l.length := by
  have h := putE_length l (x, 0)
  unfold putE at h
  simp only [List.length_append, List.length_cons] at h
  omega
theorem lessMore_lt : ∀ (l : List (Int × Int)) (x : Int), x ∈ l.map (·.1) → (lessE l x).length + (moreE l x).length + 1 ≤ l.length
  | [], _, h => by simp at h
  | z :: r, x, h => by
    by_cases e : z.1 = x
    · have h0 := lessMore_le r x
      have a : ¬ z.1 < x := by omega
      have b : ¬ x < z.1 := by omega
      unfold lessE moreE at h0 ⊢
      simp only [List.filter_cons, a, b, decide_false, Bool.false_eq_true, if_false, List.length_cons]
      omega
    · have hx : x ∈ r.map (·.1) := by
        rw [List.map_cons, List.mem_cons] at h
        exact h.resolve_left (fun h => e h.symm)
      have h0 := lessMore_lt r x hx
      unfold lessE moreE at h0 ⊢
      rcases Int.lt_or_gt_of_ne e with a | b
      · have b : ¬ x < z.1 := by omega
        simp only [List.filter_cons, a, b, decide_false, decide_true, Bool.false_eq_true, if_false, if_true, List.length_cons]
        omega
      · have a : ¬ z.1 < x := by omega
        have b : x < z.1 := b
        simp only [List.filter_cons, a, b, decide_false, decide_true, Bool.false_eq_true, if_false, if_true, List.length_cons]
        omega
/-- what a Put or a Drop leaves and tells -/
theorem keepsE_plain (l : List (Int × Int)) (n x y v op yy : Int) (ho : (op = 1 ∧ yy = v) ∨ (op = 3 ∧ yy = 0)) (hr : l.Pairwise (fun p q => p.1 < q.1)) (hl : (l.length : Int) ≤ n) :
    ∃ D t, deedE l n op x yy = (D, [t]) ∧ D.Pairwise (fun p q => p.1 < q.1) ∧ (D.length : Int) ≤ n ∧ getT D x = (if op = 1 ∧ t ≠ 2 then [1, v] else [0]) ∧ (x ≠ y → getT D y = getT l y) := by
  have hput : ∀ w, x ≠ y → getT (putE l (x, w)) y = getT l y := fun w hxy => get_congr (putE_rises _ hr) hr fun u => by
    rw [mem_putE]
    constructor
    · rintro (h | h)
      · injection h with h _; exact absurd h.symm hxy
      · exact h.1
    · intro h; exact .inr ⟨h, fun e => hxy e.symm⟩
  have hdrop : x ≠ y → getT (lessE l x ++ moreE l x) y = getT l y := fun hxy => get_congr (lessMore_rises hr) hr fun u => by
    rw [mem_lessMore]
    exact ⟨fun h => h.1, fun h => ⟨h, fun e => hxy e.symm⟩⟩
  have hnot : x ∉ (lessE l x ++ moreE l x).map (·.1) := fun h => by
    obtain ⟨p, hp, he⟩ := List.mem_map.1 h
    exact (mem_lessMore.1 hp).2 he
  by_cases hx : x ∈ l.map (·.1)
  · obtain ⟨u, hu, hm⟩ := val_some hx
    have hlt := lessMore_lt l x hx
    rcases ho with ⟨rfl, rfl⟩ | ⟨rfl, rfl⟩
    · refine ⟨putE l (x, yy), 0, by unfold deedE; rw [if_neg (by omega), hu]; rfl, putE_rises _ hr, ?_, ?_, hput _⟩
      · unfold putE
        simp only [List.length_append, List.length_cons]
        omega
      · rw [get_yes (putE_rises _ hr) (mem_putE.2 (.inl rfl)), if_pos ⟨rfl, by decide⟩]
    · refine ⟨lessE l x ++ moreE l x, 1, by unfold deedE; rw [if_neg (by omega), hu]; rfl, lessMore_rises hr, ?_, ?_, hdrop⟩
      · simp only [List.length_append]
        omega
      · rw [get_no hnot, if_neg (by omega)]
  · have hu := val_none hx
    rcases ho with ⟨rfl, rfl⟩ | ⟨rfl, rfl⟩
    · by_cases hf : (l.length : Int) = n
      · refine ⟨l, 2, by unfold deedE; rw [if_neg (by omega), hu]; simp [hf], hr, hl, ?_, fun _ => rfl⟩
        rw [get_no hx, if_neg (by rintro ⟨_, h⟩; exact h rfl)]
      · refine ⟨putE l (x, yy), 1, by unfold deedE; rw [if_neg (by omega), hu]; simp [hf], putE_rises _ hr, ?_, ?_, hput _⟩
        · have := putE_length l (x, yy)
          omega
        · rw [get_yes (putE_rises _ hr) (mem_putE.2 (.inl rfl)), if_pos ⟨rfl, by decide⟩]
    · refine ⟨l, 0, by unfold deedE; rw [if_neg (by omega), hu]; simp, hr, hl, ?_, fun _ => rfl⟩
      rw [get_no hx, if_neg (by omega)]
theorem differ_at {l k : List Int} {j : Nat} {x y : Int} (h1 : l[j]? = some x) (h2 : k[j]? = some y) (h : x ≠ y) : decide (l = k) = false := by
  apply decide_eq_false
  rintro rfl
  rw [h1] at h2
  injection h2 with h2
  exact h h2
set_option maxHeartbeats 2000000 in
theorem sameInts_any (ao bo : Option Addr) (n m ca cb : Nat) (l k : List Int) (w : World) (hl : l.length = n) (hk : k.length = m) (hx : Sees w ao l) (hy : Sees w bo k) (hn : n ≤ maxLen) (hm : m ≤ maxLen) :
    Calls Tryz.prog 14 #[.slice ao n ca, .slice bo m cb] w fun e w' => e = .returned (.bool (decide (l = k))) ∧ ∃ d, w' = w.drewN d := by
  unfold maxLen at hn hm
  by_cases hne : n = m
  · subst hne
    cases n with
    | zero =>
      obtain rfl := List.eq_nil_of_length_eq_zero hl
      obtain rfl := List.eq_nil_of_length_eq_zero hk
      clear hx hy hl hk
      go_enter Tryz.func14, Tryz.ntmps14
      go_wp2
      go_loopw [5] (fun v wr => v = .int .i64 0 ∧ wr = w) (fun _ _ => 0)
      case atStart => exact ⟨rfl, rfl⟩
      case round =>
        obtain ⟨rfl, rfl⟩ := hrel
        go_wp2
        go_ret
        exact ⟨rfl, 0, rfl⟩
    | succ N =>
      obtain ⟨b, o, h1, h2⟩ := hx
      obtain ⟨b', o', h1', h2'⟩ := hy
      obtain rfl := h1 (by intro e; subst e; simp at hl)
      obtain rfl := h1' (by intro e; subst e; simp at hk)
      have H2 := Lib.hid h2
      have H2' := Lib.hid h2'
      have HL := Lib.hid hl
      have HK := Lib.hid hk
      clear h1 h1' h2 h2' hl hk
      go_enter Tryz.func14, Tryz.ntmps14
      go_wp2
      go_loopw [5] (fun v wr => ∃ j : Nat, j ≤ N + 1 ∧ v = .int .i64 j ∧ l.take j = k.take j ∧ ∃ d, wr = w.drewN d) (fun v _ => N + 1 - (intOf v).toNat)
      case atStart => exact ⟨0, by omega, rfl, rfl, 0, rfl⟩
      case round =>
        obtain ⟨j, hj, rfl, htk, d, rfl⟩ := hrel
        have HT := Lib.hid htk
        clear htk
        by_cases hlt : j < N + 1
        · obtain ⟨x1, hx⟩ : ∃ x, l[j]? = some x := ⟨_, List.getElem?_eq_getElem (by rw [HL.out]; exact hlt)⟩
          obtain ⟨y1, hy⟩ : ∃ x, k[j]? = some x := ⟨_, List.getElem?_eq_getElem (by rw [HK.out]; exact hlt)⟩
          have c1 : w.cell? ⟨b, o + j, none⟩ = some (.int .i64 x1) := (H2.out j (by rw [HL.out]; exact hlt)).trans (by rw [List.getD_eq_getElem?_getD, hx]; rfl)
          have d1 : w.cell? ⟨b', o' + j, none⟩ = some (.int .i64 y1) := (H2'.out j (by rw [HK.out]; exact hlt)).trans (by rw [List.getD_eq_getElem?_getD, hy]; rfl)
          have HX := Lib.hid hx
          have HY := Lib.hid hy
          have hlo : (0 : Int) ≤ (j : Int) := by omega
          have hhi : (j : Int) < ((N + 1 : Nat) : Int) := by omega
          clear hx hy
          by_cases e1 : x1 = y1
          · subst e1
            go_wp2
            go_quiet (fail)
            go_wp2
            go_roundw
            case rel => exact ⟨j + 1, by omega, by go_num, by rw [List.take_add_one, List.take_add_one, HT.out, HX.out, HY.out], _, rfl⟩
            case measure => simp [intOf]; omega
          · have ne : (x1 == y1) = false := by simpa using e1
            have HN := Lib.hid (differ_at HX.out HY.out e1)
            clear e1
            go_wp2
            go_quiet (fail)
            go_wp2
            go_ret
            exact ⟨by rw [HN.out]; rfl, d + nq, by rw [World.drewN_drewN]⟩
        · obtain rfl : j = N + 1 := by omega
          go_wp2
          go_ret
          refine ⟨?_, d, rfl⟩
          have h := HT.out
          rw [List.take_of_length_le (by rw [HL.out]; exact Nat.le_refl _), List.take_of_length_le (by rw [HK.out]; exact Nat.le_refl _)] at h
          rw [h]; simp
  · have hne2 : ((n : Int) == (m : Int)) = false := by simp; omega
    have HN := Lib.hid (show decide (l = k) = false by apply decide_eq_false; rintro rfl; exact hne (hl.symm.trans hk))
    clear hx hy hl hk
    go_enter Tryz.func14, Tryz.ntmps14
    go_wp2
    go_ret
    exact ⟨by rw [HN.out]; rfl, 0, rfl⟩
end Go.Proofs.YtochpdailleilaaGreatDoor
