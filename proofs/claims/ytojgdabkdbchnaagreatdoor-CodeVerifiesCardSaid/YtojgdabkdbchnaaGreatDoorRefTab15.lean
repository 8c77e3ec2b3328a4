/-
  (*quash/quashref15.table).add, follow: every call over a table whose states are a list. No condition.
-/
import Derived.Test.YtojgdabkdbchnaaGreatDoorRefAmiss15
import Derived.Test.YtojgdabkdbchnaaGreatDoorVerifyBfs
import Derived.Laws.OwnMore
namespace Go.Proofs.YtojgdabkdbchnaaGreatDoor
open Go.RowKit
set_option maxRecDepth 100000

theorem infoInt : (Tryz.prog.info? 3).map (fun i => (i.zero, i.size, i.bytes)) = some (some (.int .i64 0), 1, 8) := by kernel_rfl
def codesV (L : List VP) : List Int := L.map fun p => (codeP p : Int)
def hasC (L : List VP) (c : Nat) : Bool := L.any fun p => codeP p == c
theorem codesV_snoc (L : List VP) (p : VP) : codesV (L ++ [p]) = codesV L ++ [(codeP p : Int)] := by simp [codesV]
theorem hasC_snoc (L : List VP) (p : VP) (c : Nat) : hasC (L ++ [p]) c = (hasC L c || codeP p == c) := by simp [hasC]
theorem intCells_app (a b : List Int) : intCells (a ++ b) = intCells a ++ intCells b := by simp [intCells]
theorem codeP_inj {n : Nat} {p q : VP} (hp : okP n p) (hq : okP n q) (h : codeP p = codeP q) : p = q := by
  rw [← (deP_codeP hp).1, ← (deP_codeP hq).1, h]
theorem hasC_contains {n : Nat} {L : List VP} {p : VP} (hL : ∀ q ∈ L, okP n q) (hp : okP n p) : hasC L (codeP p) = L.contains p := by
  rw [Bool.eq_iff_iff]
  unfold hasC
  rw [List.any_eq_true, List.contains_iff_mem]
  constructor
  · rintro ⟨q, hq, e⟩
    have := codeP_inj (hL q hq) hp (by simpa using e)
    rwa [← this]
  · intro h
    exact ⟨p, h, by simp⟩
/-- a table in memory: which codes it has (a row of bools), the codes in their order (a row of the call's own) -/
structure TM (B Bt tb hb H : Nat) (vt : Value) (L : List VP) (w : World) : Prop where
  blk : w.heap[tb]? = some (.cells #[.slice (some ⟨hb, 0, none⟩) H H, vt] 64)
  has : ∃ cur, w.heap[hb]? = some (.cells cur 4) ∧ cur.size = H ∧ ∀ c, c < H → cur[c]? = some (.bool (hasC L c))
  todo : w.ownsRow Bt 3 1 vt L.length (intCells (codesV L))
  b1 : B ≤ tb
  b2 : B ≤ hb
  t1 : tb < Bt
  t2 : hb < Bt
  le : Bt ≤ w.heap.size
/-- what lay below Bt, but for the table's two blocks, lies as it did -/
def Fr (Bt tb hb : Nat) (w w' : World) : Prop := ∀ g, g < Bt → g ≠ tb → g ≠ hb → w'.heap[g]? = w.heap[g]?
theorem Fr.refl (Bt tb hb : Nat) (w : World) : Fr Bt tb hb w w := fun _ _ _ _ => rfl
theorem Fr.trans {Bt tb hb : Nat} {a b c : World} (h : Fr Bt tb hb a b) (k : Fr Bt tb hb b c) : Fr Bt tb hb a c := fun g h1 h2 h3 => (k g h1 h2 h3).trans (h g h1 h2 h3)
section
variable {B Bt tb hb H : Nat} {vt : Value} {L : List VP} {w w' : World}
theorem TM.ne (h : TM B Bt tb hb H vt L w) : tb ≠ hb := by
  obtain ⟨cur, hc, _⟩ := h.has
  rintro rfl
  rw [h.blk] at hc
  injection hc with hc
  injection hc with _ ht
  exact absurd ht (by decide)
theorem TM.keep (h : TM B Bt tb hb H vt L w) (hb' : Below w.heap.size w w') : TM B Bt tb hb H vt L w' := by
  obtain ⟨cur, hc, h1, h2⟩ := h.has
  exact ⟨(hb'.block _ (lt_of_block h.blk)).trans h.blk, ⟨cur, (hb'.block _ (lt_of_block hc)).trans hc, h1, h2⟩,
    ownsRow_at h.todo (fun g hg => by obtain ⟨_, hc⟩ := own_block h.todo hg; exact hb'.block _ (lt_of_block hc)), h.b1, h.b2, h.t1, h.t2, Nat.le_trans h.le hb'.size⟩
theorem TM.form (h : TM B Bt tb hb H vt L w) : ∃ ao c, vt = .slice ao L.length c := by
  rcases h.todo with ⟨_, h1 | ⟨g, cap, cur, hv, _⟩⟩
  · exact ⟨none, 0, by rw [h1.1, h1.2]⟩
  · exact ⟨_, _, hv⟩
theorem TM.cells (h : TM B Bt tb hb H vt L w) : w.cell? ⟨tb, 0, none⟩ = some (.slice (some ⟨hb, 0, none⟩) H H) ∧ w.cell? ⟨tb, 1, none⟩ = some vt ∧ (∀ k, w.frozen? ⟨tb, k, none⟩ = false) ∧ (∀ k, w.frozen? ⟨hb, k, none⟩ = false) ∧ ∀ c, c < H → w.cell? ⟨hb, c, none⟩ = some (.bool (hasC L c)) := by
  obtain ⟨cur, hc, h1, h2⟩ := h.has
  exact ⟨cell_of_row _ _ 0 _ _ _ h.blk, cell_of_row _ _ 1 _ _ _ h.blk, fun k => frozen_of_row _ _ _ _ _ h.blk, fun k => frozen_of_row _ _ _ _ _ hc, fun c hlt => (cell_of_row _ _ c _ _ _ hc).trans (h2 c hlt)⟩
theorem TM.lt (h : TM B Bt tb hb H vt L w) : tb < w.heap.size ∧ hb < w.heap.size := by
  obtain ⟨cur, hc, _⟩ := h.has
  exact ⟨lt_of_block h.blk, lt_of_block hc⟩
end
theorem addB_in {L : List VP} {p : VP} (h : L.contains p = true) : addB p L = L := by unfold addB; rw [if_pos h]
theorem addB_out {L : List VP} {p : VP} (h : L.contains p = false) : addB p L = L ++ [p] := by unfold addB; rw [if_neg (by rw [h]; decide)]
/-- the table marked, ahead of the append -/
def Marked (B Bt tb hb H : Nat) (vt : Value) (L : List VP) (p : VP) (w W : World) : Prop :=
  W.heap[tb]? = some (.cells #[.slice (some ⟨hb, 0, none⟩) H H, vt] 64) ∧ (∃ cur, W.heap[hb]? = some (.cells cur 4) ∧ cur.size = H ∧ ∀ c, c < H → cur[c]? = some (.bool (hasC (L ++ [p]) c))) ∧
    W.ownsRow Bt 3 1 vt L.length (intCells (codesV L)) ∧ Below B w W ∧ (∀ g, g ≠ hb → W.heap[g]? = w.heap[g]?) ∧ Bt ≤ W.heap.size ∧ w.heap.size ≤ W.heap.size
theorem TM.marked {B Bt tb hb H C : Nat} {vt : Value} {L : List VP} {p : VP} {w : World} (h : TM B Bt tb hb H vt L w) (hC : C = codeP p) (hlt : C < H) : Marked B Bt tb hb H vt L p w (w.setCell ⟨hb, C, none⟩ (.bool true)) := by
  obtain ⟨cur, hc, h1, h2⟩ := h.has
  refine ⟨(heap_setCell_other _ _ _ _ h.ne).trans h.blk, ⟨_, heap_setCell_same w hb C _ _ (.bool true) hc, by simp [h1], fun c hcl => ?_⟩, ?_, (Below.refl _ _).setCell (p := ⟨hb, C, none⟩) h.b2 _, fun g h3 => heap_setCell_other _ _ _ _ h3, ?_, ?_⟩
  · rw [hasC_snoc, ← hC]
    by_cases e : C = c
    · subst e
      rw [Array.getElem?_setIfInBounds_self_of_lt (by rw [h1]; exact hlt)]
      simp
    · rw [Array.getElem?_setIfInBounds_ne e, h2 c hcl]
      simp [e]
  · refine ownsRow_at h.todo (fun g hg => heap_setCell_other _ _ _ _ ?_)
    have := own_ge h.todo hg
    have := h.t2
    show g ≠ hb
    omega
  · exact Nat.le_trans h.le (by have := ((Below.refl hb w).setCell (p := ⟨hb, C, none⟩) (Nat.le_refl _) (.bool true)).size; exact this)
  · exact ((Below.refl hb w).setCell (p := ⟨hb, C, none⟩) (Nat.le_refl _) (.bool true)).size
/-- behind an add -/
def Added (B Bt tb hb H : Nat) (vt : Value) (L : List VP) (w : World) (e : Ending) (w' : World) : Prop :=
  e = .returned (.tuple #[]) ∧ ∃ vt', TM B Bt tb hb H vt' L w' ∧ Below B w w' ∧ Fr Bt tb hb w w' ∧ ∀ g, g < w.heap.size → g ≠ tb → g ≠ hb → vt.ownBlock ≠ some g → w'.heap[g]? = w.heap[g]?
set_option maxHeartbeats 4000000 in
theorem add_any (B Bt tb hb H n : Nat) (vt : Value) (L : List VP) (a d b : Int) (w : World) (hn : n ≤ 400) (hH : H = (n + 1) * 33 * 34) (h : TM B Bt tb hb H vt L w) (hp : okP n (a, d, b)) (hL : ∀ q ∈ L, okP n q) (hlen : L.length ≤ 500000) :
    Calls Tryz.prog 22 #[.pointer (some ⟨tb, 0, none⟩), .int .i64 a, .int .i64 d, .int .i64 (b + 1)] w (Added B Bt tb hb H vt (addB (a, d, b) L) w) := by
  obtain ⟨i0, hi, hz0, hz1, hz2⟩ := info_parts infoInt
  obtain ⟨hdc, hcl⟩ := deP_codeP hp
  have hct := hasC_contains hL hp
  have hcode : ((codeP (a, d, b) : Nat) : Int) = (a * 33 + d) * 34 + (b + 1) := by
    obtain ⟨h1, _, h3, _, h5, _⟩ := hp
    simp only at h1 h3 h5
    show (((a.toNat * 33 + d.toNat) * 34 + (b + 1).toNat : Nat) : Int) = _
    omega
  rw [← hH] at hcl
  have hpp := hp
  obtain ⟨h1, h2, h3, h4, h5, h6⟩ := hp
  simp only at h1 h2 h3 h4 h5 h6
  obtain ⟨ao, cp, hvt⟩ := h.form
  obtain ⟨q0, q1, q2, q3, q4⟩ := h.cells
  have c4 := q4 _ hcl
  have f0 := q2 1
  have f1 := q3 (codeP (a, d, b))
  have htl := h.lt
  obtain ⟨hl1, hl2⟩ := htl
  have hle := h.le
  have hb1 := h.b1
  have hb2 := h.b2
  have ht1 := h.t1
  have ht2 := h.t2
  rw [hct] at c4
  obtain ⟨C, hC⟩ : ∃ C, C = codeP (a, d, b) := ⟨_, rfl⟩
  rw [← hC] at hcode hcl c4 f1
  have hc0 : (0 : Int) ≤ (C : Int) := by omega
  have hcH : (C : Int) < (H : Int) := by omega
  have HC := Lib.hid hC
  have HCO := Lib.hid hcode
  have HM := Lib.hid h
  have HAT := fun w => Lib.hid (refAt_any a d (b + 1) w h1 (by omega) h3 (by omega) (by omega) (by omega))
  rw [← hcode] at HAT
  obtain ⟨M, hM⟩ : ∃ M, M = L.length := ⟨_, rfl⟩
  have HML := Lib.hid hM
  rw [← hM] at hlen
  have HVT := Lib.hid hvt
  clear hdc hct hC hcode hpp q2 q3 q4 hH h hL hM
  cases hx : L.contains (a, d, b) with
  | true =>
    rw [hx] at c4
    have HX := Lib.hid hx
    clear hx hvt
    go_enter Tryz.func22, Tryz.ntmps22
    go_wp2_with (go_at_call 46; refine (HAT _).out.mono ?_; rintro e w1 ⟨rfl, rfl⟩)
    go_end0
    exact ⟨rfl, vt, by rw [addB_in HX.out]; exact HM.out, Below.refl _ _, Fr.refl _ _ _ _, fun _ _ _ _ _ => rfl⟩
  | false =>
    rw [hx] at c4
    have HX := Lib.hid hx
    subst hvt
    clear hx
    go_enter Tryz.func22, Tryz.ntmps22
    go_upto_region 3 with (go_at_call 46; refine (HAT _).out.mono ?_; rintro e w1 ⟨rfl, rfl⟩)
    refine wp_gen (Marked B Bt tb hb H (.slice ao M cp) L (a, d, b) w) (by have := HM.out.marked HC.out hcl; rw [← HML.out] at this; exact this) ?_
    rintro W ⟨hblk, hhas, hown, hB, hF, hle', hleW⟩
    rw [← HML.out] at hown
    have d0 := cell_of_row _ _ 0 _ _ _ hblk
    have d1 : W.cell? ⟨tb, 1, none⟩ = some (.slice ao M cp) := cell_of_row _ _ 1 _ _ _ hblk
    have HBL := Lib.hid hblk
    have HH := Lib.hid hhas
    have HOW := Lib.hid hown
    have HBB := Lib.hid hB
    have HF := Lib.hid hF
    clear q0 q1 c4 f0 f1 hblk hhas hown hB hF
    go_wp2_with (at_builtin; refine wpList_append_own _ rfl _ _ 55 rfl Bt 3 i0 (.int .i64 0) 1 8 Tryz.underlying55 hi hz0 hz1 hz2 rfl (by decide) _ M (intCells (codesV L)) rfl (HOW.out.alloc _) ⟨W.heap.size, 0, none⟩ 1 1 [.int .i64 C] rfl rfl ?c1 ?c2 ?c3 ?c4 ?c5 ?_)
    case c1 =>
      intro j u hj
      match j, hj with
      | 0, hj => simp at hj; subst hj; simp [Addr.add]
    case c2 => intro u hu; simp at hu; subst hu; rfl
    case c3 => unfold maxLen; omega
    case c4 => omega
    case c5 => simp; omega
    intro v' w3 hown' hgrow _
    have hne : ∀ g, g < Bt → some g ≠ (Value.slice ao M cp).ownBlock := fun g hg e => by
      have := own_ge HOW.out e.symm
      omega
    have hb3 : w3.heap[tb]? = some (.cells #[.slice (some ⟨hb, 0, none⟩) H H, .slice ao M cp] 64) :=
      (hgrow.block tb (by simp; omega) (hne _ ht1)).trans ((Below.heap_alloc _ _ _ (by omega)).trans HBL.out)
    have e0 := cell_of_row _ _ 0 _ _ _ hb3
    have e1 : w3.cell? ⟨tb, 1, none⟩ = some (.slice ao M cp) := cell_of_row _ _ 1 _ _ _ hb3
    have e2 : w3.frozen? ⟨tb, 1, none⟩ = false := frozen_of_row _ _ _ _ _ hb3
    obtain ⟨g, cap, rfl⟩ : ∃ g cap, v' = .slice (some ⟨g, 0, none⟩) (M + 1) cap := by
      rcases hown'.2 with ⟨_, h0⟩ | ⟨g, cap, cur, hv, _⟩
      · omega
      · exact ⟨g, cap, hv⟩
    have HB3 := Lib.hid hb3
    have HO3 := Lib.hid hown'
    have HG3 := Lib.hid hgrow
    clear hb3 hown' hgrow
    go_wp2
    go_end0
    have hgr := HG3.out
    have hsz := hgr.size
    simp at hsz
    refine ⟨rfl, .slice (some ⟨g, 0, none⟩) (M + 1) cap, ?_, ?_, ?_, ?_⟩
    · rw [addB_out HX.out]
      have hgB := own_ge HO3.out (g := g) rfl
      refine ⟨?_, ?_, ?_, hb1, hb2, ht1, ht2, ?_⟩
      · have := heap_setCell_same w3 tb 1 _ _ (.slice (some ⟨g, 0, none⟩) (M + 1) cap) HB3.out
        exact this
      · obtain ⟨cur, k1, k2, k3⟩ := HH.out
        exact ⟨cur, (heap_setCell_other _ _ _ _ (by have := HM.out.ne; exact Ne.symm this)).trans ((hgr.block hb (by simp; omega) (hne _ ht2)).trans ((Below.heap_alloc _ _ _ (by omega)).trans k1)), k2, k3⟩
      · rw [List.length_append, List.length_singleton, ← HML.out, codesV_snoc, intCells_app, ← HC.out]
        refine ownsRow_at HO3.out (fun g' hg' => heap_setCell_other _ _ _ _ ?_)
        have : g = g' := by simpa [Value.ownBlock] using hg'
        show g' ≠ tb
        omega
      · have := ((Below.refl tb w3).setCell (p := ⟨tb, 1, none⟩) (Nat.le_refl _) (.slice (some ⟨g, 0, none⟩) (M + 1) cap)).size
        omega
    · exact ((HBB.out.alloc (by omega) _).grown hgr (by simp; omega) (fun k hk => by have := own_ge HOW.out hk; omega)).setCell (p := ⟨tb, 1, none⟩) hb1 _
    · intro g' k1 k2 k3
      exact (heap_setCell_other _ _ _ _ k2).trans ((hgr.block g' (by simp; omega) (hne _ k1)).trans ((Below.heap_alloc _ _ _ (by omega)).trans (HF.out g' k3)))
    · intro g' k1 k2 k3 k4
      exact (heap_setCell_other _ _ _ _ k2).trans ((hgr.block g' (by simp; omega) (fun e => k4 (by rw [← HML.out]; exact e.symm))).trans ((Below.heap_alloc _ _ _ (by omega)).trans (HF.out g' k3)))
end Go.Proofs.YtojgdabkdbchnaaGreatDoor
