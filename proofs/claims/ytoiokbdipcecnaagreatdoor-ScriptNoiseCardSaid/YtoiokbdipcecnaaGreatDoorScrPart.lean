/-
  (*reader).part of a script's reader: every stretch of lines. Condition: the library's variables (Env), sizes.
-/
import Derived.Test.YtoiokbdipcecnaaGreatDoorScrRead
import Derived.Test.YtoiokbdipcecnaaGreatDoorBuilderB
import Derived.Test.YtoiokbdipcecnaaGreatDoorCodeParse
namespace Go.Proofs.YtoiokbdipcecnaaGreatDoor
open Go.RowKit
set_option maxRecDepth 100000

/-- a slice of lines reads as a list -/
def SeesL (w : World) (ao : Option Addr) (L : List BlkL) : Prop := ∃ b o, (L ≠ [] → ao = some ⟨b, o, none⟩ ∧ ∃ cc, w.heap[b]? = some (.cells cc 77)) ∧ ∀ (j : Nat) x, L[j]? = some x → w.cell? ⟨b, o + j * 3, none⟩ = some (.int .i64 x.1) ∧ w.cell? ⟨b, o + j * 3 + 1, none⟩ = some (.string (S x.2.1)) ∧ w.cell? ⟨b, o + j * 3 + 2, none⟩ = some (.string (S x.2.2))
def textL (L : List BlkL) : List UInt8 := L.flatMap fun x => x.2.1 ++ [10]
def saysL (L : List BlkL) : Int := L.foldl (fun s x => if x.2.2 ≠ [] ∧ s = 0 then x.1 else s) 0
/-- what a stretch comes to: nothing, a part, or an error and its line -/
def partS (L : List BlkL) : Except (Int × Int) (Option (List (Int × Int))) :=
  if saysL L = 0 then .ok none else
  match parseL (textL L) with
  | .error (er, ln) => if ln = 0 then .error (er, saysL L) else .error (er, (L.headD (0, [], [])).1 + ln - 1)
  | .ok p => .ok (some p)
def PartDoes (L : List BlkL) (w : World) (e : Ending) (w' : World) : Prop :=
  match partS L with
  | .error x => e = sfault x.1 x.2 ∧ Below w.heap.size w w'
  | .ok none => e = .returned (.slice none 0 0) ∧ Below w.heap.size w w'
  | .ok (some p) => ∃ v, e = .returned v ∧ OwnP w' w.heap.size v p ∧ Below w.heap.size w w'
theorem S_app' (a b : List UInt8) : S a ++ S b = S (a ++ b) := by
  apply ByteArray.ext
  apply Array.ext'
  simp [S, ByteArray.data_append]
theorem readS_err {st : RS} {line er : Int} {l0 : List UInt8} (h : readS st line l0 = .error er) : er = 150 ∨ er = 153 ∨ er = 154 := by
  unfold readS at h
  simp only at h
  repeat' split at h
  all_goals first
    | (cases h; done)
    | (injection h with h; subst h; simp)
theorem parseL_err {t : List UInt8} {er ln : Int} (h : parseL t = .error (er, ln)) : (er == 0) = false := by
  have key : ∀ {L : List (List UInt8)} {st : RS} {k : Nat} {er ln : Int}, readAll st k L = .error (er, ln) → er ≠ 0 := by
    intro L
    induction L with
    | nil => intro st k er ln h; cases h
    | cons x r ih =>
      intro st k er ln h
      unfold readAll at h
      cases hs : readS st ((k + 1 : Nat) : Int) (Lib.cut x [59]).1 with
      | error e =>
        rw [hs] at h
        injection h with h
        injection h with h _
        subst h
        rcases readS_err hs with h | h | h <;> rw [h] <;> decide
      | ok s2 =>
        rw [hs] at h
        exact ih h
  have key2 : ∀ {labels : List (List UInt8 × Nat)} {named : List (Nat × List UInt8)} {lines : List Int} {n f k : Nat} {l : List (Int × Int)} {er ln : Int}, placesN labels named lines n f k l = .error (er, ln) → er ≠ 0 := by
    intro labels named lines n f
    induction f with
    | zero => intro k l er ln h; cases h
    | succ f ih =>
      intro k l er ln h
      unfold placesN at h
      cases hp : placeOne labels named n k (l.getD k (0, 0)) with
      | error e =>
        rw [hp] at h
        injection h with h
        injection h with h _
        subst h
        unfold placeOne at hp
        repeat' split at hp
        all_goals first
          | (cases hp; done)
          | (injection hp with hp; subst hp; decide)
      | ok x =>
        rw [hp] at h
        exact ih h
  have : er ≠ 0 := by
    unfold parseL at h
    split at h
    · injection h with h; injection h with h _; subst h; decide
    cases hr : readAll ⟨[], [], [], []⟩ 0 (linesL 10 t) with
    | error e =>
      rw [hr] at h
      injection h with h
      subst h
      exact key hr
    | ok st =>
      rw [hr] at h
      simp only at h
      cases hp : placesS st with
      | error e =>
        rw [hp] at h
        injection h with h
        subst h
        exact key2 hp
      | ok l =>
        rw [hp] at h
        simp only at h
        split at h
        · injection h with h; injection h with h _; subst h; decide
        · cases h
  simpa using this
theorem builderS_below {T e : TypeId} {B b : Nat} {p : Value} {bs : List Value} {w w' : World} (h : Lib.BuilderAt T e B b p bs w) (hb : Below w.heap.size w w') : Lib.BuilderAt T e B b p bs w' := by
  obtain ⟨hB, v, hbk, hown, hne⟩ := h
  exact ⟨hB, v, (hb.block _ (lt_of_block hbk)).trans hbk, ownsRow_at hown (fun g hg => by obtain ⟨_, hc⟩ := own_block hown hg; exact hb.block _ (lt_of_block hc)), hne⟩
theorem isBuilderS_below {T e : TypeId} {B b : Nat} {bs : List Value} {w w' : World} (h : Lib.IsBuilder T e B b bs w) (hb : Below w.heap.size w w') : Lib.IsBuilder T e B b bs w' :=
  h.elim (fun h => Or.inl (builderS_below h hb)) (fun h => Or.inr (builderS_below h hb))
theorem cells_snoc (a b : List UInt8) : Lib.byteCells (a ++ b) = Lib.byteCells a ++ Lib.strCells (S b) := by
  rw [Lib.strCells_eq, S_data]; simp [Lib.byteCells]
theorem textL_snoc {L : List BlkL} {k : Nat} {x : BlkL} (h : L[k]? = some x) : textL (L.take (k + 1)) = textL (L.take k) ++ (x.2.1 ++ [10]) := by
  rw [List.take_add_one, h]; simp [textL]
theorem saysL_snoc {L : List BlkL} {k : Nat} {x : BlkL} (h : L[k]? = some x) : saysL (L.take (k + 1)) = if x.2.2 ≠ [] ∧ saysL (L.take k) = 0 then x.1 else saysL (L.take k) := by
  rw [List.take_add_one, h]
  unfold saysL
  rw [List.foldl_append]
  rfl
theorem textL_le (L : List BlkL) (k : Nat) : (textL (L.take k)).length ≤ (textL L).length := by
  have e : textL L = textL (L.take k) ++ textL (L.drop k) := by
    conv => lhs; rw [← List.take_append_drop k L]
    unfold textL
    rw [List.flatMap_append]
  rw [e, List.length_append]; omega
theorem PartDoes.bad {L : List BlkL} {w w' : World} {er ln : Int} (h : partS L = .error (er, ln)) (hb : Below w.heap.size w w') : PartDoes L w (sfault er ln) w' := by
  unfold PartDoes; rw [h]; exact ⟨rfl, hb⟩
theorem PartDoes.none {L : List BlkL} {w w' : World} (h : partS L = .ok none) (hb : Below w.heap.size w w') : PartDoes L w (.returned (.slice none 0 0)) w' := by
  unfold PartDoes; rw [h]; exact ⟨rfl, hb⟩
theorem PartDoes.some {L : List BlkL} {w w' : World} {p : List (Int × Int)} {v : Value} (h : partS L = .ok (some p)) (ho : OwnP w' w.heap.size v p) (hb : Below w.heap.size w w') : PartDoes L w (.returned v) w' := by
  unfold PartDoes; rw [h]; exact ⟨v, rfl, ho, hb⟩
theorem readS_lines {st st' : RS} {line : Int} {l0 : List UInt8} (h : readS st line l0 = .ok st') : ∀ x ∈ st'.lines, x ∈ st.lines ∨ x = line := by
  unfold readS at h
  simp only at h
  repeat' split at h
  all_goals first
    | (cases h; done)
    | (injection h with h; subst h; intro x hx; first | exact .inl hx | (simp at hx; exact hx))
theorem parseL_ln {t : List UInt8} {er ln : Int} (h : parseL t = .error (er, ln)) : 0 ≤ ln ∧ ln ≤ 65537 := by
  have key : ∀ {L : List (List UInt8)} {st : RS} {k : Nat} {er ln : Int}, k + L.length ≤ 65537 → readAll st k L = .error (er, ln) → 0 ≤ ln ∧ ln ≤ 65537 := by
    intro L
    induction L with
    | nil => intro st k er ln _ h; cases h
    | cons x r ih =>
      intro st k er ln hk h
      simp only [List.length_cons] at hk
      unfold readAll at h
      cases hs : readS st ((k + 1 : Nat) : Int) (Lib.cut x [59]).1 with
      | error e =>
        rw [hs] at h
        injection h with h
        injection h with _ h
        subst h
        omega
      | ok s2 =>
        rw [hs] at h
        exact ih (by omega) h
  have key1 : ∀ {L : List (List UInt8)} {st st' : RS} {k : Nat}, k + L.length ≤ 65537 → (∀ x ∈ st.lines, 0 ≤ x ∧ x ≤ 65537) → readAll st k L = .ok st' → ∀ x ∈ st'.lines, 0 ≤ x ∧ x ≤ 65537 := by
    intro L
    induction L with
    | nil => intro st st' k _ hl h; injection h with h; subst h; exact hl
    | cons x r ih =>
      intro st st' k hk hl h
      simp only [List.length_cons] at hk
      unfold readAll at h
      cases hs : readS st ((k + 1 : Nat) : Int) (Lib.cut x [59]).1 with
      | error e => rw [hs] at h; cases h
      | ok s2 =>
        rw [hs] at h
        refine ih (k := k + 1) (by omega) (fun y hy => ?_) h
        rcases readS_lines hs y hy with h1 | h1
        · exact hl y h1
        · subst h1; omega
  have key2 : ∀ {labels : List (List UInt8 × Nat)} {named : List (Nat × List UInt8)} {lines : List Int} {n f k : Nat} {l : List (Int × Int)} {er ln : Int}, (∀ x ∈ lines, 0 ≤ x ∧ x ≤ 65537) → placesN labels named lines n f k l = .error (er, ln) → 0 ≤ ln ∧ ln ≤ 65537 := by
    intro labels named lines n f
    induction f with
    | zero => intro k l er ln _ h; cases h
    | succ f ih =>
      intro k l er ln hl h
      unfold placesN at h
      cases hp : placeOne labels named n k (l.getD k (0, 0)) with
      | error e =>
        rw [hp] at h
        injection h with h
        injection h with _ h
        subst h
        rw [List.getD_eq_getElem?_getD]
        cases hg : lines[k]? with
        | none => simp
        | some y => exact hl y (List.mem_of_getElem? hg)
      | ok x =>
        rw [hp] at h
        exact ih hl h
  unfold parseL at h
  split at h
  · injection h with h; injection h with _ h; subst h; decide
  rename_i hbig
  have hlen := (linesL_len 10 t).1
  cases hr : readAll ⟨[], [], [], []⟩ 0 (linesL 10 t) with
  | error e =>
    rw [hr] at h
    injection h with h
    subst h
    exact key (by omega) hr
  | ok st =>
    rw [hr] at h
    simp only at h
    cases hp : placesS st with
    | error e =>
      rw [hp] at h
      injection h with h
      subst h
      exact key2 (key1 (by omega) (fun x hx => by cases hx) hr) hp
    | ok l =>
      rw [hp] at h
      simp only at h
      split at h
      · injection h with h; injection h with _ h; subst h; decide
      · cases h
set_option maxHeartbeats 4000000 in
theorem part_any (p : Option Addr) (ao : Option Addr) (c n : Nat) (L : List BlkL) (w : World) (hn : n = L.length) (hn2 : n ≤ 1048577) (hln : ∀ x ∈ L, 0 ≤ x.1 ∧ x.1 ≤ 1048577) (hs : SeesL w ao L) (hz : (textL L).length ≤ 4194304) (he : Env w) :
    Calls Tryz.prog 52 #[.pointer p, .slice ao n c] w (PartDoes L w) := by
  have HB0 := Lib.fresh_isBuilder 52 5 w
  have HN := Lib.hid hn
  have HS := Lib.hid hs
  have HE := Lib.hid he
  have HZ := Lib.hid hz
  have HLNS := Lib.hid hln
  have HIB := Lib.hid HB0
  clear hn hs he hz hln HB0
  go_enter Tryz.func52, Tryz.ntmps52
  go_wp2
  go_loopw [6, 14] (fun u v wr => ∃ k : Nat, k ≤ n ∧ v = .int .i64 k ∧ u = .int .i64 (saysL (L.take k)) ∧ Lib.IsBuilder 52 5 w.heap.size w.heap.size (Lib.byteCells (textL (L.take k))) wr ∧ Below w.heap.size w wr) (fun _ v _ => n - (intOf v).toNat)
  case atStart => exact ⟨0, Nat.zero_le _, rfl, rfl, HIB.out, (Below.refl _ _).alloc (Nat.le_refl _) _⟩
  case round =>
    obtain ⟨k, hk, rfl, rfl, hI, hB⟩ := hrel
    have HI := Lib.hid hI
    have HB := Lib.hid hB
    have hzr := hB.size
    by_cases hlt : k < n
    · obtain ⟨x, hx⟩ : ∃ x, L[k]? = some x := ⟨_, List.getElem?_eq_getElem (by rw [← HN.out]; exact hlt)⟩
      obtain ⟨b, o, hao, hcell⟩ := HS.out
      obtain ⟨rfl, -⟩ := hao (by intro e; subst e; simp at hx)
      obtain ⟨d0, d1, d2⟩ := hcell k x hx
      have c0 := (HB.out.cell (p := ⟨b, _, none⟩) (block_lt_of_cell d0)).trans d0
      have c1 := (HB.out.cell (p := ⟨b, _, none⟩) (block_lt_of_cell d1)).trans d1
      have c2 := (HB.out.cell (p := ⟨b, _, none⟩) (block_lt_of_cell d2)).trans d2
      have htx := textL_snoc hx
      have hsx := saysL_snoc hx
      have hle := textL_le L (k + 1)
      rw [htx, List.length_append] at hle
      have HTX := Lib.hid htx
      have hcat : S x.2.1 ++ ⟨#[10]⟩ = S (x.2.1 ++ [10]) := S_app' x.2.1 [10]
      have HCAT := Lib.hid hcat
      have hsize : (textL (L.take k)).length + (x.2.1.length + 1) ≤ 4194304 := by have := HZ.out; simp at hle; omega
      have HSZ := Lib.hid hsize
      have hxs : (S x.2.1).size ≤ 4194304 := by rw [S_size]; omega
      have hbl : (Lib.byteCells (textL (L.take k))).length = (textL (L.take k)).length := Lib.byteCells_length _
      have HBL := Lib.hid hbl
      have hi0 : (0 : Int) ≤ (k : Int) := by omega
      have hi1 : (k : Int) < (n : Int) := by omega
      have hncat : ¬ (9223372036854775807 < (S x.2.1).size + 1) := by omega
      obtain ⟨sy, hsy⟩ : ∃ sy, saysL (L.take k) = sy := ⟨_, rfl⟩
      rw [hsy] at hsx ⊢
      obtain ⟨x0, x1, x2⟩ := x
      simp only at c0 c1 c2 hsx HTX HCAT HSZ hxs hncat
      have HSX := Lib.hid hsx
      clear hx d0 d1 d2 hcell hao htx hsx hle hcat hsize hbl hsy hI hB
      by_cases hb0 : x2 = []
      · have hbe : (S x2).toList.isEmpty = true := by rw [S_toList, hb0]; rfl
        have HST := Lib.hid (show saysL (L.take (k + 1)) = sy by rw [HSX.out, if_neg (fun h => h.1 hb0)])
        clear hb0
        go_wp2_with (go_at_call 19; go_must (refine (WriteString_any w.heap.size w.heap.size _ _ _ (isBuilderS_below HI.out ((Below.refl _ _).alloc (Nat.le_refl _) _)) (by rw [HCAT.out, HBL.out, S_size]; have := HSZ.out; simp; omega) (by simp; omega)).mono ?_; rintro e w5 ⟨rfl, hI5, hB5, hz5, hk5⟩; rw [HCAT.out, ← cells_snoc, ← HTX.out] at hI5; have HI5 := Lib.hid hI5; have HB5 := Lib.hid hB5; have q := hk5 _ _ _ (heap_new wr _ wr.heap.size rfl) (by decide) (by decide); have q' := q.trans (heap_new wr _ wr.heap.size rfl); have s0 := cell_of_row _ _ 0 _ _ _ q'; have s1 := cell_of_row _ _ 1 _ _ _ q'; have s2 := cell_of_row _ _ 2 _ _ _ q'; clear hI5 hB5 hk5 q q'))
        go_roundw
        case rel => exact ⟨k + 1, by omega, by go_num, by rw [HST.out], HI5.out, (HB.out.alloc hzr _).trans HB5.out⟩
        case measure => simp [intOf]; omega
      · have hbe : (S x2).toList.isEmpty = false := by
          rw [S_toList]
          cases hbb : x2 with
          | nil => exact absurd hbb hb0
          | cons => rfl
        by_cases hs0 : sy = 0
        · have hs1 : (sy == 0) = true := by simpa using hs0
          have HST := Lib.hid (show saysL (L.take (k + 1)) = x0 by rw [HSX.out, if_pos ⟨hb0, hs0⟩])
          clear hb0 hs0
          go_wp2_with (go_at_call 19; go_must (refine (WriteString_any w.heap.size w.heap.size _ _ _ (isBuilderS_below HI.out ((Below.refl _ _).alloc (Nat.le_refl _) _)) (by rw [HCAT.out, HBL.out, S_size]; have := HSZ.out; simp; omega) (by simp; omega)).mono ?_; rintro e w5 ⟨rfl, hI5, hB5, hz5, hk5⟩; rw [HCAT.out, ← cells_snoc, ← HTX.out] at hI5; have HI5 := Lib.hid hI5; have HB5 := Lib.hid hB5; have q := hk5 _ _ _ (heap_new wr _ wr.heap.size rfl) (by decide) (by decide); have q' := q.trans (heap_new wr _ wr.heap.size rfl); have s0 := cell_of_row _ _ 0 _ _ _ q'; have s1 := cell_of_row _ _ 1 _ _ _ q'; have s2 := cell_of_row _ _ 2 _ _ _ q'; clear hI5 hB5 hk5 q q'))
          go_roundw
          case rel => exact ⟨k + 1, by omega, by go_num, by rw [HST.out], HI5.out, (HB.out.alloc hzr _).trans HB5.out⟩
          case measure => simp [intOf]; omega
        · have hs1 : (sy == 0) = false := by simpa using hs0
          have HST := Lib.hid (show saysL (L.take (k + 1)) = sy by rw [HSX.out, if_neg (fun h => hs0 h.2)])
          clear hb0 hs0
          go_wp2_with (go_at_call 19; go_must (refine (WriteString_any w.heap.size w.heap.size _ _ _ (isBuilderS_below HI.out ((Below.refl _ _).alloc (Nat.le_refl _) _)) (by rw [HCAT.out, HBL.out, S_size]; have := HSZ.out; simp; omega) (by simp; omega)).mono ?_; rintro e w5 ⟨rfl, hI5, hB5, hz5, hk5⟩; rw [HCAT.out, ← cells_snoc, ← HTX.out] at hI5; have HI5 := Lib.hid hI5; have HB5 := Lib.hid hB5; have q := hk5 _ _ _ (heap_new wr _ wr.heap.size rfl) (by decide) (by decide); have q' := q.trans (heap_new wr _ wr.heap.size rfl); have s0 := cell_of_row _ _ 0 _ _ _ q'; have s1 := cell_of_row _ _ 1 _ _ _ q'; have s2 := cell_of_row _ _ 2 _ _ _ q'; clear hI5 hB5 hk5 q q'))
          go_roundw
          case rel => exact ⟨k + 1, by omega, by go_num, by rw [HST.out], HI5.out, (HB.out.alloc hzr _).trans HB5.out⟩
          case measure => simp [intOf]; omega
    · obtain rfl : k = n := by omega
      have htk : L.take k = L := List.take_of_length_le (by rw [← HN.out]; exact Nat.le_refl _)
      rw [htk] at hI ⊢
      have HI2 := Lib.hid hI
      have hps : partS L = if saysL L = 0 then .ok none else
        match parseL (textL L) with
        | .error (er, ln) => if ln = 0 then .error (er, saysL L) else .error (er, (L.headD (0, [], [])).1 + ln - 1)
        | .ok p => .ok (some p) := rfl
      have hcells : ∀ x, L[0]? = some x → ∃ b o, ao = some ⟨b, o, none⟩ ∧ b < w.heap.size ∧ wr.cell? ⟨b, o, none⟩ = some (.int .i64 x.1) := fun x hx => by
        obtain ⟨b, o, hao, hcell⟩ := HS.out
        obtain ⟨e, -⟩ := hao (by intro e; subst e; simp at hx)
        have d := (hcell 0 x hx).1
        rw [Nat.zero_mul, Nat.add_zero] at d
        exact ⟨b, o, e, block_lt_of_cell d, (HB.out.cell (p := ⟨b, o, none⟩) (block_lt_of_cell d)).trans d⟩
      have HCL := Lib.hid hcells
      obtain ⟨sy, hsy⟩ : ∃ sy, saysL L = sy := ⟨_, rfl⟩
      rw [hsy] at hps ⊢
      have HSY := Lib.hid hsy
      clear hI hB HI htk hcells hsy
      by_cases hs0 : sy = 0
      · have hs1 : (sy == 0) = true := by simpa using hs0
        rw [if_pos hs0] at hps
        have HP := Lib.hid hps
        clear hps hs0
        go_wp2
        go_ret
        exact PartDoes.none HP.out HB.out
      · have hs1 : (sy == 0) = false := by simpa using hs0
        rw [if_neg hs0] at hps
        have hL : ∃ x, L[0]? = some x := by
          cases hLL : L with
          | nil => rw [← HSY.out, hLL] at hs0; exact absurd rfl hs0
          | cons x r => exact ⟨x, rfl⟩
        obtain ⟨x, hx⟩ := hL
        have hhd : L.headD (0, [], []) = x := by
          cases hLL : L with
          | nil => rw [hLL] at hx; cases hx
          | cons y r => rw [hLL] at hx; simpa using hx
        rw [hhd] at hps
        obtain ⟨b, o, rfl, hbw, c0⟩ := HCL.out x hx
        obtain ⟨x01, x02⟩ := HLNS.out x (List.mem_of_getElem? hx)
        have hn0 : (0 : Int) < (k : Int) := by
          have := (List.getElem?_eq_some_iff.1 hx).1
          rw [← HN.out] at this; omega
        have C0 := Lib.hid c0
        clear hhd hx hs0
        have hpar := fun W (hE : Env W) => Parse_every (textL L) W hE
        cases hp : parseL (textL L) with
        | error y =>
          obtain ⟨er, ln⟩ := y
          rw [hp] at hps
          simp only at hps
          have her := parseL_err hp
          have her2 : (er != 0) = true := by simpa using her
          obtain ⟨l1, l2⟩ := parseL_ln hp
          have hpar2 : ∀ W, Env W → Calls Tryz.prog 74 #[.string (S (textL L))] W fun e w' => e = .returned (.tuple #[.slice none 0 0, .int .i64 ln, .int .i64 er]) ∧ Below W.heap.size W w' := fun W hE => (hpar W hE).mono fun e w' hd => by unfold ParseDoes at hd; rw [hp] at hd; exact hd
          have HPAR := Lib.hid hpar2
          clear hpar hpar2 hp c0
          by_cases hl0 : ln = 0
          · subst hl0
            rw [if_pos rfl] at hps
            have HP := Lib.hid hps
            clear hps
            go_wp2_with (first
              | (go_at_call 24; go_must (refine (Tryz.Builder_String_any w.heap.size w.heap.size (textL L) _ HI2.out hzr).mono ?_; rintro e w3 ⟨rfl, hb3⟩; have HB3 := Lib.hid (HB.out.trans hb3)))
              | (go_at_call 74; go_must (refine (HPAR.out _ (HE.out.below HB3.out)).mono ?_; rintro e w4 ⟨rfl, hb4⟩; have HB4 := Lib.hid hb4; have c0 := ((hb3.trans (hb4.mono HB3.out.size)).cell (p := ⟨b, o, none⟩) hbw).trans C0.out; clear hb4))
              | (go_at_call 33; refine (sfail_any _ _ _ _).mono ?_; rintro e w7 ⟨rfl, rfl⟩))
            exact ⟨rfl, PartDoes.bad HP.out (HB3.out.trans (HB4.out.mono HB3.out.size))⟩
          · rw [if_neg hl0] at hps
            have hl1 : (ln == 0) = false := by simpa using hl0
            have HP := Lib.hid hps
            have hsum : IntKind.i64.wrap (x.1 + ln) = x.1 + ln := IntWalk.i64_in _ (by omega)
            clear hps hl0
            go_wp2_with (first
              | (go_at_call 24; go_must (refine (Tryz.Builder_String_any w.heap.size w.heap.size (textL L) _ HI2.out hzr).mono ?_; rintro e w3 ⟨rfl, hb3⟩; have HB3 := Lib.hid (HB.out.trans hb3)))
              | (go_at_call 74; go_must (refine (HPAR.out _ (HE.out.below HB3.out)).mono ?_; rintro e w4 ⟨rfl, hb4⟩; have HB4 := Lib.hid hb4; have c0 := ((hb3.trans (hb4.mono HB3.out.size)).cell (p := ⟨b, o, none⟩) hbw).trans C0.out; clear hb4))
              | (go_at_call 33; refine (sfail_any _ _ _ _).mono ?_; rintro e w7 ⟨rfl, rfl⟩))
            exact ⟨rfl, PartDoes.bad HP.out (HB3.out.trans (HB4.out.mono HB3.out.size))⟩
        | ok q =>
          rw [hp] at hps
          have HP := Lib.hid (show partS L = .ok (some q) from hps)
          have hpar2 : ∀ W, Env W → Calls Tryz.prog 74 #[.string (S (textL L))] W fun e w' => ∃ v, e = .returned (.tuple #[v, .int .i64 0, .int .i64 0]) ∧ OwnP w' W.heap.size v q ∧ Below W.heap.size W w' := fun W hE => (hpar W hE).mono fun e w' hd => by unfold ParseDoes at hd; rw [hp] at hd; exact hd
          have HPAR := Lib.hid hpar2
          clear hpar hpar2 hp hps c0
          go_wp2_with (first
            | (go_at_call 24; go_must (refine (Tryz.Builder_String_any w.heap.size w.heap.size (textL L) _ HI2.out hzr).mono ?_; rintro e w3 ⟨rfl, hb3⟩; have HB3 := Lib.hid (HB.out.trans hb3)))
            | (go_at_call 74; go_must (refine (HPAR.out _ (HE.out.below HB3.out)).mono ?_; rintro e w4 ⟨v4, rfl, ho4, hb4⟩; have HB4 := Lib.hid hb4; clear hb4)))
          go_ret
          exact PartDoes.some HP.out (ho4.lower HB3.out.size) (HB3.out.trans (HB4.out.mono HB3.out.size))
end Go.Proofs.YtoiokbdipcecnaaGreatDoor
