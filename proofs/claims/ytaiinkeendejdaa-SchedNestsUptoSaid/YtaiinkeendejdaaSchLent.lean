/-
  quash/quashlaw04.lent, whole: every call. No condition.
-/
import Derived.Test.YtaiinkeendejdaaSchSame
import Derived.Deep.Cut
namespace Go.Proofs.Ytaiinkeendejdaa
open Go.RowKit
set_option maxRecDepth 100000
theorem alloc_below' {w : World} (B : Nat) (hB : B ≤ w.heap.size) (o : Obj) : Below B w (w.alloc o) := (Below.refl B w).alloc hB o
def spare2 : List Int := [991, 992]
set_option maxHeartbeats 1000000 in
theorem lent_any (ao : Option Addr) (n c : Nat) (l : List Int) (w : World) (hl : l.length = n) (hs : Sees w ao l) (hn : ao = none → c = 0) (hb : n * 8 ≤ 140737488355000) :
    Calls Try.prog 11 #[.slice ao n c] w fun e w' => ∃ g cap, e = .returned (.slice (some ⟨g, 0, none⟩) n cap) ∧ Bal w' w.heap.size g cap (l ++ spare2) ∧ Below w.heap.size w w' := by
  have HL := Lib.hid hl
  have HS := Lib.hid hs
  clear hl hs
  go_enter Try.func11, Try.ntmps11
  have hE : ∀ W : World, Own (W.alloc (.cells #[] 3)) W.heap.size (.slice (some ⟨W.heap.size, 0, none⟩) 0 0) [] := fun W => Bal.of_block (Nat.le_refl _) (heap_new _ _ _ rfl) rfl (Nat.le_refl _) (Nat.zero_le _) rfl
  go_upto_region 2 with (first | (at_builtin; refine wpList_appendI (hE w) (by simp) ao n c l HL.out (HS.out.below (alloc_below' _ (Nat.le_refl _) _)) hn (by rw [HL.out]; simp; omega) rfl _ _ rfl rfl rfl ?_; intro v1 w1 hown1 hgrow1))
  rw [List.nil_append] at hown1
  have hB1 : Below w.heap.size w w1 := (alloc_below' _ (Nat.le_refl _) _).grown hgrow1 (by simp) (by intro k hk; simp [Value.ownBlock] at hk; omega)
  have hz1 := hB1.size
  have HO := Lib.hid hown1
  have HB := Lib.hid hB1
  clear hown1 hgrow1 hB1 hE
  go_upto_region 3 with (first | (at_builtin; refine wpList_appendI (HO.out.below ((Below.refl _ _).alloc (Nat.le_refl _) _)) (by simp <;> omega) (some ⟨w1.heap.size, 0, none⟩) 2 2 spare2 rfl (sees_two (heap_new _ _ _ rfl)) (fun h => by cases h) (by rw [HL.out]; simp [spare2] <;> omega) rfl _ _ rfl rfl rfl ?_; intro v2 w2 hown2 hgrow2))
  have hB2 : Below w.heap.size w w2 := (HB.out.alloc hz1 _).grown hgrow2 (by simp <;> omega) (fun k hk => own_ge HO.out hk)
  rcases hown2.form with ⟨_, e⟩ | ⟨g, cap, rfl, hbal⟩
  · simp [spare2] at e
  have hlen : (l ++ spare2).length = n + 2 := by simp [spare2, HL.out]
  have hcap := hbal.caps
  rw [hlen] at hcap ⊢
  unfold maxLen at hcap
  have hlo : (0 : Int) ≤ (n : Int) := by omega
  have hhi : (n : Int) ≤ (cap : Int) := by omega
  have HBA := Lib.hid hbal
  have HB2 := Lib.hid hB2
  clear hbal hB2 hown2 hgrow2 hlen
  go_wp2
  go_ret
  exact ⟨g, cap, rfl, HBA.out, HB2.out⟩
set_option maxHeartbeats 1000000 in
theorem whole_any (g cap B : Nat) (bo : Option Addr) (n cb : Nat) (l : List Int) (w : World) (hl : l.length = n) (ha : Bal w B g cap (l ++ spare2)) (hs : Sees w bo l) (hm : n ≤ maxLen) :
    Calls Try.prog 14 #[.slice (some ⟨g, 0, none⟩) n cap, .slice bo n cb] w fun e w' => e = .returned (.bool true) ∧ ∃ d, w' = w.drewN d := by
  have hcap := ha.caps
  have hlen : (l ++ spare2).length = n + 2 := by simp [spare2, hl]
  rw [hlen] at hcap
  unfold maxLen at hcap
  have c1 : w.cell? ⟨g, n, none⟩ = some (.int .i64 991) := ha.cell n (by rw [List.getElem?_append_right (by omega), hl]; simp [spare2])
  have c2 : w.cell? ⟨g, n + 1, none⟩ = some (.int .i64 992) := ha.cell (n + 1) (by rw [List.getElem?_append_right (by omega), hl]; simp [spare2])
  have hsa : Sees w (some ⟨g, 0, none⟩) l := by
    have := (ha.take n (by omega)).sees
    rw [List.take_left' hl] at this
    exact this
  have HA := Lib.hid hsa
  have HS := Lib.hid hs
  have HL := Lib.hid hl
  have w1 : IntKind.i64.wrap ((n : Int) + 2) = ((n + 2 : Nat) : Int) := by rw [IntKind.wrap_i64]; omega
  have w2 : IntKind.i64.wrap ((n : Int) + 1) = ((n + 1 : Nat) : Int) := by rw [IntKind.wrap_i64]; omega
  have hlo : (0 : Int) ≤ ((n + 2 : Nat) : Int) := by omega
  have hhi : ((n + 2 : Nat) : Int) ≤ (cap : Int) := by omega
  have hlo2 : (0 : Int) ≤ (n : Int) := by omega
  have hhi2 : (n : Int) < ((n + 2 : Nat) : Int) := by omega
  have hlo3 : (0 : Int) ≤ ((n + 1 : Nat) : Int) := by omega
  have hhi3 : ((n + 1 : Nat) : Int) < ((n + 2 : Nat) : Int) := by omega
  clear ha hs hl hsa hlen
  go_enter Try.func14, Try.ntmps14
  go_wp2_with (first | (go_at_call 18; go_must (refine (SameInts_any (some ⟨g, 0, none⟩) bo n n cap cb l l _ HL.out HL.out HA.out HS.out hm hm).mono ?_; rintro e w3 ⟨rfl, d, rfl⟩; rw [decide_eq_true (rfl : l = l)])))
  go_ret
  exact ⟨rfl, _, rfl⟩
end Go.Proofs.Ytaiinkeendejdaa
