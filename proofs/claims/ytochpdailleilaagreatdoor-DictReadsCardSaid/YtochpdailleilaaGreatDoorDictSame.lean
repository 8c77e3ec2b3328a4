/-
  quash/quashlaw19.same, sameInts answer true where both slices read alike. No condition.
-/
import Derived.Test.YtochpdailleilaaGreatDoorCodeInstrs
import Derived.Test.YtochpdailleilaaGreatDoorSees
namespace Go.Proofs.YtochpdailleilaaGreatDoor
open Go.RowKit
set_option maxRecDepth 100000
set_option maxHeartbeats 1000000 in
theorem sameInts_true (ao bo : Option Addr) (ca cb : Nat) (zs : List Int) (w : World) (hx : Sees w ao zs) (hy : Sees w bo zs) (hn : zs.length ≤ maxLen) :
    Calls Tryz.prog 14 #[.slice ao zs.length ca, .slice bo zs.length cb] w fun e w' => e = .returned (.bool true) ∧ ∃ k, w' = w.drewN k := by
  unfold maxLen at hn
  obtain ⟨n, hl⟩ : ∃ n, n = zs.length := ⟨_, rfl⟩
  rw [← hl] at hn ⊢
  cases n with
  | zero =>
    go_enter Tryz.func14, Tryz.ntmps14
    go_wp2
    go_loopw [5] (fun v wr => v = .int .i64 0 ∧ wr = w) (fun _ _ => 0)
    case atStart => exact ⟨rfl, rfl⟩
    case round =>
      obtain ⟨rfl, rfl⟩ := hrel
      go_wp2
      go_ret
      exact ⟨rfl, 0, rfl⟩
  | succ m =>
    obtain ⟨b, o, h1, h2⟩ := hx
    obtain ⟨b', o', h1', h2'⟩ := hy
    have hne : zs ≠ [] := by intro e; subst e; simp at hl
    obtain rfl := h1 hne
    obtain rfl := h1' hne
    have H2 := Lib.hid h2
    have H2' := Lib.hid h2'
    have HL := Lib.hid hl
    clear h1 h1' h2 h2' hl hne
    go_enter Tryz.func14, Tryz.ntmps14
    go_wp2
    go_loopw [5] (fun v wr => ∃ k : Nat, k ≤ m + 1 ∧ v = .int .i64 k ∧ ∃ d, wr = w.drewN d) (fun v _ => m + 1 - (intOf v).toNat)
    case atStart => exact ⟨0, by omega, rfl, 0, rfl⟩
    case round =>
      obtain ⟨k, hk, rfl, d, rfl⟩ := hrel
      by_cases hlt : k < m + 1
      · have c1 : w.cell? ⟨b, o + k, none⟩ = some (.int .i64 (zs.getD k 0)) := H2.out k (by rw [← HL.out]; exact hlt)
        have c2 : w.cell? ⟨b', o' + k, none⟩ = some (.int .i64 (zs.getD k 0)) := H2'.out k (by rw [← HL.out]; exact hlt)
        generalize zs.getD k 0 = z at c1 c2
        have hlo : (0 : Int) ≤ (k : Int) := by omega
        have hhi : (k : Int) < ((m + 1 : Nat) : Int) := by omega
        go_wp2
        go_quiet (fail)
        go_wp2
        go_roundw
        case rel => exact ⟨k + 1, by omega, by go_num, _, rfl⟩
        case measure => simp [intOf]; omega
      · obtain rfl : k = m + 1 := by omega
        go_wp2
        go_ret
        exact ⟨rfl, d, rfl⟩
set_option maxHeartbeats 1000000 in
theorem sameE_true (ao bo : Option Addr) (ca cb : Nat) (zs : List (Int × Int)) (w : World) (hx : SeesP w ao zs) (hy : SeesP w bo zs) (hn : zs.length ≤ maxLen) :
    Calls Tryz.prog 13 #[.slice ao zs.length ca, .slice bo zs.length cb] w fun e w' => e = .returned (.bool true) ∧ ∃ k, w' = w.drewN k := by
  unfold maxLen at hn
  obtain ⟨n, hl⟩ : ∃ n, n = zs.length := ⟨_, rfl⟩
  rw [← hl] at hn ⊢
  cases n with
  | zero =>
    go_enter Tryz.func13, Tryz.ntmps13
    go_wp2
    go_loopw [5] (fun v wr => v = .int .i64 0 ∧ wr = w) (fun _ _ => 0)
    case atStart => exact ⟨rfl, rfl⟩
    case round =>
      obtain ⟨rfl, rfl⟩ := hrel
      go_wp2
      go_ret
      exact ⟨rfl, 0, rfl⟩
  | succ m =>
    obtain ⟨b, o, h1, h2⟩ := hx
    obtain ⟨b', o', h1', h2'⟩ := hy
    have hne : zs ≠ [] := by intro e; subst e; simp at hl
    obtain rfl := h1 hne
    obtain rfl := h1' hne
    have H2 := Lib.hid h2
    have H2' := Lib.hid h2'
    have HL := Lib.hid hl
    clear h1 h1' h2 h2' hl hne
    go_enter Tryz.func13, Tryz.ntmps13
    go_wp2
    go_loopw [5] (fun v wr => ∃ k : Nat, k ≤ m + 1 ∧ v = .int .i64 k ∧ ∃ d, wr = w.drewN d) (fun v _ => m + 1 - (intOf v).toNat)
    case atStart => exact ⟨0, by omega, rfl, 0, rfl⟩
    case round =>
      obtain ⟨k, hk, rfl, d, rfl⟩ := hrel
      by_cases hlt : k < m + 1
      · obtain ⟨⟨p, q⟩, hz⟩ : ∃ z, zs[k]? = some z := ⟨_, List.getElem?_eq_getElem (by rw [← HL.out]; exact hlt)⟩
        have c1 := (H2.out k _ hz).1
        have c2 := (H2.out k _ hz).2
        have c3 := (H2'.out k _ hz).1
        have c4 := (H2'.out k _ hz).2
        simp only at c1 c2 c3 c4
        clear hz
        have hlo : (0 : Int) ≤ (k : Int) := by omega
        have hhi : (k : Int) < ((m + 1 : Nat) : Int) := by omega
        go_wp2
        go_quiet (fail)
        go_wp2
        go_roundw
        case rel => exact ⟨k + 1, by omega, by go_num, _, rfl⟩
        case measure => simp [intOf]; omega
      · obtain rfl : k = m + 1 := by omega
        go_wp2
        go_ret
        exact ⟨rfl, d, rfl⟩
theorem sameInts_len (n : Nat) (ao bo : Option Addr) (ca cb : Nat) (zs : List Int) (w : World) (hl : zs.length = n) (hx : Sees w ao zs) (hy : Sees w bo zs) (hn : n ≤ maxLen) :
    Calls Tryz.prog 14 #[.slice ao n ca, .slice bo n cb] w fun e w' => e = .returned (.bool true) ∧ ∃ k, w' = w.drewN k := by
  subst hl
  exact sameInts_true ao bo ca cb zs w hx hy hn
theorem sameE_len (n : Nat) (ao bo : Option Addr) (ca cb : Nat) (zs : List (Int × Int)) (w : World) (hl : zs.length = n) (hx : SeesP w ao zs) (hy : SeesP w bo zs) (hn : n ≤ maxLen) :
    Calls Tryz.prog 13 #[.slice ao n ca, .slice bo n cb] w fun e w' => e = .returned (.bool true) ∧ ∃ k, w' = w.drewN k := by
  subst hl
  exact sameE_true ao bo ca cb zs w hx hy hn
end Go.Proofs.YtochpdailleilaaGreatDoor
