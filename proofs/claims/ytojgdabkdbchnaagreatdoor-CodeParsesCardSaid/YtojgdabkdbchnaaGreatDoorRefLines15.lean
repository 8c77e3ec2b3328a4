/-
  quash/quashref15.Lines, find: for every text. No condition but sizes.
-/
import Derived.Test.YtojgdabkdbchnaaGreatDoorRowG
import Derived.Test.YtojgdabkdbchnaaGreatDoorRefText15
namespace Go.Proofs.YtojgdabkdbchnaaGreatDoor
open Go.RowKit
set_option maxRecDepth 100000

/-- rows of strings -/
def strT : ElemT (List UInt8) where
  t := 85
  e := 9
  size := 1
  bytes := 16
  z := .string .empty
  cells := fun x => [.string (S x)]
  ht := Tryz.underlying85
  info := ⟨_, rfl, rfl, rfl, rfl⟩
  zs := rfl
  pos := by decide
  len := fun _ => rfl
  one := fun x v hv => by simp at hv; subst hv; rfl
theorem linesL_count (c : UInt8) : ∀ l : List UInt8, (linesL c l).length ≤ l.length + 1
  | [] => by simp [linesL]
  | b :: r => by
    have ih := linesL_count c r
    unfold linesL
    split
    · simp; omega
    · split
      · rename_i h t he
        rw [he] at ih
        simp at ih ⊢; omega
      · simp
set_option maxHeartbeats 4000000 in
theorem refLines_any (l : List UInt8) (w : World) (hs : l.length ≤ 65536) :
    Calls Tryz.prog 33 #[.string (S l)] w fun e w' => ∃ v, e = .returned v ∧ OwnG strT w' w.heap.size v (linesL 10 l) ∧ Below w.heap.size w w' := by
  obtain ⟨s, hsS⟩ : ∃ s, s = S l := ⟨_, rfl⟩
  have hdat : s.data.toList = l := by rw [hsS]; rfl
  have hsz : s.size = l.length := by rw [Lib.size_eq, hdat]
  rw [← hsS]
  have HD := Lib.hid hdat
  have HZ := Lib.hid hsz
  have hs' : s.size ≤ 65536 := by omega
  clear hdat hsz hsS hs
  go_enter Tryz.func33, Tryz.ntmps33
  go_wp2
  go_loopw [3, 4, 5] (fun v f i wr => ∃ (F I : Nat) (out : List (List UInt8)), F ≤ I ∧ I ≤ s.size ∧ f = .int .i64 F ∧ i = .int .i64 I ∧ OwnG strT wr w.heap.size v out ∧ out.length ≤ I ∧ (∀ j, F ≤ j → j < I → l[j]? ≠ some 10) ∧ linesL 10 l = out ++ linesL 10 (l.drop F) ∧ Below w.heap.size w wr) (fun _ _ i _ => s.size - (intOf i).toNat)
  case atStart => exact ⟨0, 0, [], Nat.le_refl _, Nat.zero_le _, rfl, rfl, OwnG.nil _ _ _, Nat.le_refl _, fun j _ h => absurd h (by omega), by simp, Below.refl _ _⟩
  case round =>
    obtain ⟨F, I, out, hFI, hI, rfl, rfl, hown, hol, hno, hli, hB⟩ := hrel
    have HNO := Lib.hid hno
    have HLI := Lib.hid hli
    have HO := Lib.hid hown
    have HB := Lib.hid hB
    have hbz := hB.size
    clear hno hli hown hB
    by_cases hlt : I < s.size
    · have hx : l[I]? = some s[I] := by rw [← HD.out]; exact Lib.data_getElem? s I hlt
      by_cases hnl : s[I] = 10
      · rw [hnl] at hx
        have hd : ((s[I].toNat : Int) == 10) = true := by rw [hnl]; rfl
        have HX := Lib.hid hx
        have HSP := Lib.hid (lines_span hFI HNO.out hx)
        have hFI2 : (F : Int) ≤ (I : Int) := by omega
        have hex : s.extract F I = S ((l.take I).drop F) := S_of_data (by rw [Lib.extract_data, HD.out, List.drop_take])
        have HEX := Lib.hid hex
        clear hx hnl hex
        go_wp2_with (at_builtin; refine wpList_append1 (HO.out.below ((Below.refl _ _).alloc (Nat.le_refl _) _)) (by simp; omega) wr.heap.size 1 ((l.take I).drop F) 9 (by rw [HEX.out]; exact heap_new _ _ _ rfl) (by show (out.length + 1) * 16 ≤ _; omega) (by unfold maxLen; omega) rfl _ _ rfl rfl rfl ?_; intro v8 w8 hown8 hgrow8)
        go_roundw
        case rel => exact ⟨I + 1, I + 1, out ++ [(l.take I).drop F], Nat.le_refl _, by omega, by go_num, by go_num, hown8, by simp; omega, fun j h1 h2 => absurd h2 (by omega), by rw [HLI.out, HSP.out]; simp, (HB.out.alloc hbz _).grown hgrow8 (by simp; omega) (fun k hk => own_ge HO.out hk)⟩
        case measure => simp [intOf]; omega
      · have hd : ((s[I].toNat : Int) == 10) = false := by
          rw [beq_eq_false_iff_ne]; intro e
          exact hnl (UInt8.toNat_inj.1 (by show (s[I]).toNat = 10; omega))
        have HX := Lib.hid hx
        have HNL := Lib.hid hnl
        clear hx hnl
        go_wp2
        go_roundw
        case rel => exact ⟨F, I + 1, out, by omega, by omega, rfl, by go_num, HO.out, by omega, fun j h1 h2 => by
          by_cases e : j = I
          · subst e; rw [HX.out]; intro h; injection h with h; exact HNL.out h
          · exact HNO.out j h1 (by omega), HLI.out, HB.out⟩
        case measure => simp [intOf]; omega
    · obtain rfl : I = s.size := by omega
      have HLS := Lib.hid (lines_last (l := l) (c := 10) (f := F) (fun j h1 h2 => HNO.out j h1 (by have := HZ.out; omega)))
      have HEX := Lib.hid (show s.extract F s.size = S (l.drop F) from S_of_data (by rw [Lib.extract_to_end, HD.out]))
      have hFI2 : (F : Int) ≤ (s.size : Int) := by omega
      go_wp2_with (at_builtin; refine wpList_append1 (HO.out.below ((Below.refl _ _).alloc (Nat.le_refl _) _)) (by simp; omega) wr.heap.size 1 (l.drop F) 9 (by rw [HEX.out]; exact heap_new _ _ _ rfl) (by show (out.length + 1) * 16 ≤ _; omega) (by unfold maxLen; omega) rfl _ _ rfl rfl rfl ?_; intro v8 w8 hown8 hgrow8)
      go_ret
      refine ⟨_, rfl, ?_, (HB.out.alloc hbz _).grown hgrow8 (by simp; omega) (fun k hk => own_ge HO.out hk)⟩
      rw [HLI.out, HLS.out]
      exact hown8
end Go.Proofs.YtojgdabkdbchnaaGreatDoor
