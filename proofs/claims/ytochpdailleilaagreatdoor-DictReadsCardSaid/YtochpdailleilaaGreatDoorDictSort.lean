/-
  slices.SortFunc at []Entry with dict.entries' comparison, of a row of the call's own whose keys differ: the row holds the entries in the order of their keys. Condition: at most 1000 entries.
-/
import Derived.Test.YtochpdailleilaaGreatDoorInsE
import Derived.Test.YtochpdailleilaaGreatDoorSearchE
import Derived.Test.YtochpdailleilaaGreatDoorSortLay
import Derived.Shelf.SlSortCmp.NoneTotal
namespace Go.Proofs.YtochpdailleilaaGreatDoor
open Go.RowKit Go.Sort Go.Lib
set_option maxRecDepth 100000

def encE (x : Int × Int) : List Value := [.int .i64 x.1, .int .i64 x.2]
theorem isAggE (w : World) : (isAgg 36).run Tryz.prog w = .ok true w := by kernel_rfl
def cfE (x y : Int × Int) : Int := cmpI x.1 y.1
theorem ltE (x y : Int × Int) : ltOf cfE x y = decide (x.1 < y.1) := by
  unfold ltOf cfE cmpI
  by_cases h1 : x.1 < y.1
  · simp [h1]
  · by_cases h2 : y.1 < x.1 <;> simp [h1, h2]
theorem swoE : SWO (ltOf cfE) where
  irrefl x := by rw [ltE]; simp
  trans x y z h1 h2 := by rw [ltE] at *; simp at *; omega
  ntrans x y z h1 h2 := by rw [ltE] at *; simp at *; omega
theorem closureE (x y : Int × Int) (W : World) : Calls Tryz.prog 45 #[.agg #[.int .i64 x.1, .int .i64 x.2], .agg #[.int .i64 y.1, .int .i64 y.2]] W fun e w' => e = .returned (.int .i64 (cfE x y)) ∧ ∃ q os', w' = grow (W.drewN q) os' := by
  have hcon := fun W' => cmpCompare x.1 y.1 W'
  unfold cfE
  generalize cmpI x.1 y.1 = r at hcon ⊢
  go_enter Tryz.func45, Tryz.ntmps45
  go_wp2_with (go_at_call 35; refine (hcon _).mono ?_; rintro e w' ⟨rfl, rfl⟩)
  go_ret
  exact ⟨rfl, 0, _, by rw [alloc_eq_grow, alloc_eq_grow, grow_grow]; rfl⟩
theorem cmpLaysE (blk off size : Nat) (w : World) : CmpLays Tryz.prog 45 #[] encE 2 cfE blk off size w :=
  fun _ _ _ _ x y => closureE x y _
theorem flatE (l : List (Int × Int)) : (flatK encE 2 l.toArray).toList = instrCells l := by
  apply List.ext_getElem
  · simp [instrCells_length]
  · intro t h1 h2
    rw [instrCells_length] at h2
    obtain ⟨x, hx⟩ : ∃ x, l[t / 2]? = some x := ⟨_, List.getElem?_eq_getElem (by omega)⟩
    have k := instrCells_at l (t / 2) x hx
    have e := get_flatK encE 2 l.toArray t (by simpa using h2)
    have hb : l.toArray[t / 2]! = x := by
      obtain ⟨hl, e2⟩ := List.getElem?_eq_some_iff.1 hx
      simp [hl, e2]
    rw [hb] at e
    have h3 : t < (flatK encE 2 l.toArray).size := by simpa using h2
    have e3 : (flatK encE 2 l.toArray).toList[t] = (flatK encE 2 l.toArray)[t]! := by
      rw [getElem!_pos _ t h3]; rfl
    rw [e3, e]
    obtain ht | ht : t % 2 = 0 ∨ t % 2 = 1 := by omega
    · rw [ht]
      have := k.1
      rw [show t / 2 * 2 = t by omega, List.getElem?_eq_getElem (by rw [instrCells_length]; exact h2)] at this
      injection this with this
      rw [this]; rfl
    · rw [ht]
      have := k.2
      rw [show t / 2 * 2 + 1 = t by omega, List.getElem?_eq_getElem (by rw [instrCells_length]; exact h2)] at this
      injection this with this
      rw [this]; rfl
theorem BalE.holds {w : World} {B g cap : Nat} {l : List (Int × Int)} (h : BalE w B g cap l) : HoldsK encE 2 w g 0 l.toArray := by
  intro j hj
  have hj2 : j < (instrCells l).length := by rw [← flatE]; simpa using hj
  refine ⟨?_, h.frozenAt _⟩
  rw [Nat.zero_add, h.cellAt j (by rw [instrCells_length] at hj2; exact hj2), ← flatE]
  have h3 : j < (flatK encE 2 l.toArray).size := hj
  rw [getElem!_pos _ j h3]
  simp
theorem grownBy_growK {w0 w : World} {row : Option Nat} (h : w0.grownBy w row) (os : Array Obj) : w0.grownBy (grow w os) row :=
  ⟨h.os, h.tape, h.output, Nat.le_trans h.size (by simp), fun i hi hne => (heap_grow_old w os (Nat.lt_of_lt_of_le hi h.size)).trans (h.block i hi hne)⟩
theorem sort_any (B g cap : Nat) (l : List (Int × Int)) (n : Nat) (w : World) (hn : l.length = n) (h : BalE w B g cap l) (hnd : (l.map (·.1)).Nodup) (hsz : n ≤ 1000) :
    Calls Tryz.prog 44 #[.slice (some ⟨g, 0, none⟩) n cap, .func (.func 45) #[] #[]] w fun e w' => e = .returned (.tuple #[]) ∧ BalE w' B g cap (sortE l) ∧ w.grownBy w' (some g) := by
  subst hn
  have eg : ∀ args w, (callFunc 45 args).run Tryz.prog w = .ok (.enter 45 args) w := enters_of Tryz.func45 (by kernel_rfl) rfl
  have hcon := AnyQ.slices_SortFunc Tryz.sortE 2 isAggE sizeOfE encE (fun _ => rfl) (fun x v hv => by simp [encE] at hv; rcases hv with rfl | rfl <;> rfl) cfE swoE 45 #[] g 0 cap l.toArray w eg (cmpLaysE g 0 _ w) h.holds h.lt.1 (by simp; omega)
  change Calls Tryz.prog 44 _ _ _ at hcon
  rw [List.size_toArray] at hcon
  refine hcon.mono ?_
  rintro e w' ⟨rfl, d', q, os, hp, hs, rfl⟩
  have hsz' : d'.size = l.length := by simpa using hp.1
  have hperm : d'.toList.Perm l := by
    have := hp.2.2
    rw [Array.extract_eq_self_of_le (by simp [hsz']), Array.extract_eq_self_of_le (by simp)] at this
    simpa using this
  have hd : d'.toList = sortE l := by
    refine sorted_eq ?_ (sortE_rises l) (hperm.trans (sortE_perm hnd).symm)
    have hnd' : (d'.toList.map (·.1)).Nodup := ((hperm.map (·.1)).nodup_iff).2 hnd
    rw [List.pairwise_iff_getElem]
    intro i j hi hj hij
    have h1 := hs i j (Nat.zero_le _) hij (by simpa [hsz'] using hj)
    rw [ltE] at h1
    have hi' : i < d'.size := by simpa using hi
    have hj' : j < d'.size := by simpa using hj
    rw [getElem!_pos d' i hi', getElem!_pos d' j hj'] at h1
    have h2 : ¬ (d'[j].1 < d'[i].1) := by simpa using h1
    have h3 : d'[i].1 ≠ d'[j].1 := by
      have := List.pairwise_iff_getElem.1 hnd' i j (by simpa using hi) (by simpa using hj) hij
      simpa using this
    simp only [Array.getElem_toList]
    omega
  have hH := h.holds
  have hset : putRowK encE 2 (Sort.ahead w q) g 0 d' = (w.drewN q).setCells g 0 (instrCells (sortE l)) := by
    have e1 : flatK encE 2 d' = (instrCells (sortE l)).toArray := by
      rw [← hd, ← flatE]
    unfold putRowK
    rw [e1]
    have := Lib.putRow_eq_setCells id w g 0 (flatK encE 2 l.toArray) (instrCells (sortE l)) q hH (by rw [instrCells_length, ← hd]; simp [hsz'])
    rw [this]
    simp
  obtain ⟨cur, hg, hcs, hct⟩ := h.block
  have hll : (sortE l).length = l.length := by rw [← hd]; simpa using hsz'
  have hgL : (w.drewN q).heap[g]? = some (.cells cur.toList.toArray 36 (0, 0)) := by rw [Array.toArray_toList]; exact hg
  have hcap := h.caps
  have hg1 := heap_setCells g 36 (instrCells (sortE l)) 0 (w.drewN q) cur.toList hgL (by rw [instrCells_length, hll]; simp; omega)
  have hgr : w.grownBy ((w.drewN q).setCells g 0 (instrCells (sortE l))) (some g) := grownBy_setCellsK _ 0 (show w.grownBy (w.drewN q) (some g) from ⟨rfl, rfl, rfl, Nat.le_refl _, fun _ _ _ => rfl⟩) (.inl rfl)
  unfold sortWorldK
  rw [hset]
  refine ⟨rfl, ?_, grownBy_growK hgr os⟩
  refine BalE.of_block h.lt.2 ((heap_grow_old _ os (lt_of_block hg1)).trans hg1) (by rw [List.size_toArray, length_splice _ _ _ (by rw [instrCells_length, hll]; simp; omega)]; simpa using hcs) (by rw [hll]; exact hcap.1) hcap.2 ?_
  rw [List.toList_toArray]
  unfold splice
  rw [List.take_zero, List.nil_append]
  exact List.take_left' (instrCells_length _)
/-- .. of none -/
theorem sort_none (w : World) :
    Calls Tryz.prog 44 #[.slice none 0 0, .func (.func 45) #[] #[]] w fun e w' => e = .returned (.tuple #[]) ∧ Below w.heap.size w w' := by
  have hcon := AnyF.slices_SortFunc_none Tryz.sortE none 0 (.func (.func 45) #[] #[]) w
  change Calls Tryz.prog 44 _ _ _ at hcon
  exact hcon.mono fun e w' ⟨h1, h2⟩ => ⟨h1, by rw [h2]; exact Below.refl _ _⟩
end Go.Proofs.YtochpdailleilaaGreatDoor
