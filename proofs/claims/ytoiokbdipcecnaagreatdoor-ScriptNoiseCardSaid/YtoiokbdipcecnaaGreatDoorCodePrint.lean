/-
  quash/code.Print: every list of instructions. Condition: the library's variables (Env), operands within int.
-/
import Derived.Test.YtoiokbdipcecnaaGreatDoorCodeInstrs
import Derived.Test.YtoiokbdipcecnaaGreatDoorRefSmall15
import Derived.Test.YtoiokbdipcecnaaGreatDoorBuilderB
import Derived.Test.YtoiokbdipcecnaaGreatDoorCodeTrim
import Derived.Test.YtoiokbdipcecnaaGreatDoorCodeCheck
import Derived.Lib.ItoaLen
namespace Go.Proofs.YtoiokbdipcecnaaGreatDoor
open Go.RowKit
set_option maxRecDepth 100000

/-- what is printed of an instruction -/
def printOne (x : Int × Int) : List UInt8 := (opRow x.1).1 ++ ((if takes x.1 = 0 then [] else 32 :: Lib.itoa x.2) ++ [10])
def printL (l : List (Int × Int)) : List UInt8 := l.flatMap printOne
def InI (l : List (Int × Int)) : Prop := ∀ x ∈ l, -9223372036854775808 ≤ x.2 ∧ x.2 ≤ 9223372036854775807
theorem row_len : ∀ k, k < 23 → (rowAt k).1.length ≤ 6 := by decide
theorem word_len (n : Int) : (opRow n).1.length ≤ 6 := by
  by_cases h : 1 ≤ n ∧ n < 23
  · obtain ⟨k, rfl⟩ := Int.eq_ofNat_of_zero_le (show 0 ≤ n by omega)
    rw [opRow_in (by omega) (by omega)]
    exact row_len k (by omega)
  · rw [opRow_out (by omega)]
    decide
theorem printOne_len {x : Int × Int} (h : -9223372036854775808 ≤ x.2 ∧ x.2 ≤ 9223372036854775807) : (printOne x).length ≤ 29 := by
  have h1 := word_len x.1
  have h2 := Lib.itoa_length_le x.2 h.1 h.2
  unfold printOne
  split <;> simp <;> omega
theorem printL_len : ∀ {l : List (Int × Int)}, InI l → (printL l).length ≤ l.length * 29
  | [], _ => by simp [printL]
  | x :: r, h => by
    have h1 := printOne_len (h x (by simp))
    have h2 := printL_len (l := r) (fun y hy => h y (by simp [hy]))
    have e : printL (x :: r) = printOne x ++ printL r := by simp [printL]
    rw [e, List.length_append, List.length_cons]
    omega
theorem printL_snoc (l : List (Int × Int)) (k : Nat) {x : Int × Int} (h : l[k]? = some x) : printL (l.take (k + 1)) = printL (l.take k) ++ printOne x := by
  rw [List.take_add_one, h]
  simp [printL]
theorem printL_app (a b : List (Int × Int)) : printL (a ++ b) = printL a ++ printL b := by unfold printL; rw [List.flatMap_append]
theorem printL_take (l : List (Int × Int)) (k : Nat) : (printL (l.take k)).length ≤ (printL l).length := by
  have e : printL l = printL (l.take k) ++ printL (l.drop k) := by rw [← printL_app, List.take_append_drop]
  rw [e, List.length_append]
  omega
theorem InI.take {l : List (Int × Int)} (h : InI l) (k : Nat) : InI (l.take k) := fun x hx => h x (List.mem_of_mem_take hx)
theorem Itoa_any (n : Int) (w : World) (h1 : -9223372036854775808 ≤ n) (h2 : n ≤ 9223372036854775807) (he : Env w) :
    Calls Tryz.prog 41 #[.int .i64 n] w fun e w' => e = .returned (.string (S (Lib.itoa n))) ∧ Below w.heap.size w w' := by
  refine (Tryz.strconv_Itoa n h1 h2 w he.pow).mono ?_
  rintro e w' ⟨rfl, k, os, rfl⟩
  exact ⟨rfl, (below_drewN _ w k).trans ((below_grow (w.drewN k) os).mono (Nat.le_refl _))⟩
theorem printB_below {T e : TypeId} {B b : Nat} {bs : List Value} {w w' : World} (h : Lib.IsBuilder T e B b bs w) (hb : Below w.heap.size w w') : Lib.IsBuilder T e B b bs w' :=
  have k : ∀ {p : Value}, Lib.BuilderAt T e B b p bs w → Lib.BuilderAt T e B b p bs w' := fun ⟨hB, v, hbk, hown, hne⟩ => ⟨hB, v, (hb.block _ (lt_of_block hbk)).trans hbk, ownsRow_at hown (fun g hg => by obtain ⟨_, hc⟩ := own_block hown hg; exact hb.block _ (lt_of_block hc)), hne⟩
  h.elim (fun h => Or.inl (k h)) (fun h => Or.inr (k h))
theorem Print_bad (ao : Option Addr) (n c : Nat) (l : List (Int × Int)) (w : World) (hl : l.length = n) (hs : SeesP w ao l) (hn : n ≤ maxLen) (h0 : (checkL l).1 ≠ 0) :
    Calls Tryz.prog 22 #[.slice ao n c] w fun e w' => e = .returned (.tuple #[.string ⟨#[]⟩, .int .i64 (checkL l).1]) ∧ Below w.heap.size w w' := by
  have HC := Lib.hid (Check_all ao n c l w hl hs hn)
  generalize checkL l = R at h0 HC
  obtain ⟨r1, r2⟩ := R
  have h1 : (r1 == 0) = false := by simpa using h0
  clear hl hs hn h0
  go_enter Tryz.func22, Tryz.ntmps22
  go_wp2_with (go_at_call 16; refine HC.out.mono ?_; rintro e w1 ⟨rfl, hb1⟩)
  go_ret2
  exact ⟨rfl, hb1⟩
theorem cat_size (l : List UInt8) : (({ data := #[32] } : ByteArray) ++ S l).size = l.length + 1 := by
  rw [ByteArray.size_append, S_size]
  show 1 + l.length = l.length + 1
  omega
theorem cat_cells (l : List UInt8) : Lib.strCells (({ data := #[32] } : ByteArray) ++ S l) = Lib.byteCells (32 :: l) := by
  rw [Lib.strCells_eq, ByteArray.data_append]
  simp [S]
theorem byteCells_app (a b : List UInt8) : Lib.byteCells (a ++ b) = Lib.byteCells a ++ Lib.byteCells b := by simp [Lib.byteCells]
set_option maxHeartbeats 4000000 in
theorem Print_ok (ao : Option Addr) (c : Nat) (l : List (Int × Int)) (w : World) (he : Env w) (hs : SeesP w ao l) (h0 : (checkL l).1 = 0) (hi : InI l) :
    Calls Tryz.prog 22 #[.slice ao l.length c] w fun e w' => e = .returned (.tuple #[.string (S (printL l)), .int .i64 0]) ∧ Below w.heap.size w w' := by
  obtain ⟨h1, h2, -⟩ := checkL_ok h0
  have HC := Lib.hid (Check_all ao l.length c l w rfl hs (by unfold maxLen; omega))
  have HE := Lib.hid (fun W (hb : Below w.heap.size w W) => he.below hb)
  have HI := Lib.hid hi
  have HLEN := Lib.hid (printL_len hi)
  obtain ⟨b, o, hao, hc⟩ := hs
  obtain rfl := hao (by intro e; subst e; simp at h1)
  have HCL := Lib.hid hc
  generalize checkL l = R at h0 HC
  obtain ⟨r1, r2⟩ := R
  simp only at h0
  subst h0
  obtain ⟨N, hN⟩ : ∃ N, N = l.length := ⟨_, rfl⟩
  have HN := Lib.hid hN
  rw [← hN] at h1 h2 HC HLEN
  rw [← hN]
  clear hN hc hi he hao
  go_enter Tryz.func22, Tryz.ntmps22
  go_wp2_with (go_at_call 16; refine HC.out.mono ?_; rintro e w1 ⟨rfl, hb1⟩)
  refine wp_gen (fun W => Lib.IsBuilder 52 5 w1.heap.size w1.heap.size (Lib.byteCells []) W ∧ Below w1.heap.size w1 W) ⟨Lib.fresh_isBuilder 52 5 w1, (Below.refl _ _).alloc (Nat.le_refl _) _⟩ ?_
  rintro W ⟨hI0, hB0⟩
  have HB1 := Lib.hid hb1
  have hz1 := hb1.size
  clear hb1
  go_loopw [21] (fun v wr => ∃ k : Nat, k ≤ N ∧ v = .int .i64 k ∧ Lib.IsBuilder 52 5 w1.heap.size w1.heap.size (Lib.byteCells (printL (l.take k))) wr ∧ Below w1.heap.size w1 wr) (fun v _ => N - (intOf v).toNat)
  case atStart => exact ⟨0, Nat.zero_le _, rfl, hI0, hB0⟩
  case round =>
    obtain ⟨k, hk, rfl, hI, hB⟩ := hrel
    clear hI0 hB0
    by_cases hlt : k < N
    · obtain ⟨⟨op, a⟩, hx⟩ : ∃ x, l[k]? = some x := ⟨_, List.getElem?_eq_getElem (by rw [← HN.out]; exact hlt)⟩
      obtain ⟨q0, q1⟩ := HCL.out k _ hx
      have hBw := HB1.out.trans (hB.mono hz1)
      have c0 := (hBw.cell (p := ⟨b, _, none⟩) (block_lt_of_cell q0)).trans q0
      have c1 := (hBw.cell (p := ⟨b, _, none⟩) (block_lt_of_cell q1)).trans q1
      simp only at c0 c1
      have HSN := Lib.hid (printL_snoc l k hx)
      have hin := HI.out _ (List.mem_of_getElem? hx)
      have ha1 := hin.1
      have ha2 := hin.2
      simp only at ha1 ha2
      have hpl : (printL (l.take k)).length ≤ 11600 := by have := printL_take l k; have := HLEN.out; omega
      have hbl : (Lib.byteCells (printL (l.take k))).length = (printL (l.take k)).length := Lib.byteCells_length _
      have HBL := Lib.hid hbl
      have hwl : (word op).size ≤ 6 := by unfold word; rw [S_size]; exact word_len op
      have hil := Lib.itoa_length_le a ha1 ha2
      have hsz : ¬ 9223372036854775807 < 1 + (S (Lib.itoa a)).size := by rw [S_size]; omega
      have hi0 : (0 : Int) ≤ (k : Int) := by omega
      have hzr := hB.size
      have HBR := Lib.hid hB
      have HIR := Lib.hid hI
      clear q0 q1 hx hin hbl hBw hB hI
      unfold printOne at HSN
      have HWD := Lib.hid (show word op = S (opRow op).1 from rfl)
      go_upto_region 9 with (go_at_call 35; go_must (refine (about_any op _).mono ?_; rintro e w2 ⟨rfl, hb2⟩; simp only [rowAgg]))
      generalize isOp op = io
      generalize (opRow op).1 = WD at HSN HWD
      generalize word op = wo at HWD hwl ⊢
      generalize takes op = T at HSN ⊢
      generalize pops op = P
      generalize pushes op = Q
      refine wp_gen (fun W => W.heap[wr.heap.size]? = some (.cells #[.int .i64 op, .int .i64 a] 82) ∧ W.heap[w2.heap.size]? = some (.cells #[.string wo, .int .i64 T, .int .i64 P, .int .i64 Q] 86) ∧ Lib.IsBuilder 52 5 w1.heap.size w1.heap.size (Lib.byteCells (printL (l.take k))) W ∧ Below w1.heap.size w1 W) ⟨?_, heap_new _ _ _ rfl, ?_, ?_⟩ ?_
      · exact (Below.heap_alloc _ _ _ (by have := hb2.size; simp at this; omega)).trans ((hb2.block _ (by simp)).trans (heap_new _ _ _ rfl))
      · exact printB_below HIR.out ((((Below.refl _ _).alloc (Nat.le_refl _) _).trans (hb2.mono (by simp))).alloc (by have := hb2.size; simp at this; omega) _)
      · exact HBR.out.trans (((((Below.refl _ _).alloc (Nat.le_refl _) _).trans (hb2.mono (by simp))).alloc (by have := hb2.size; simp at this; omega) _).mono hzr)
      rintro W2 ⟨hxw, hrw, hIw, hBw⟩
      have HXW := Lib.hid hxw
      have HRW := Lib.hid hrw
      have HBW := Lib.hid hBw
      have r0 : W2.cell? ⟨w2.heap.size, 0, none⟩ = some (.string wo) := cell_of_row _ _ 0 _ _ _ hrw
      have hzw := hBw.size
      have hB2 := hb2.size
      clear hxw hrw hBw c0 c1 hb2
      by_cases hT : T = 0
      · subst hT
        go_wp2_with (first
          | (go_at_call 19; go_must (refine (WriteString_any w1.heap.size w1.heap.size _ wo _ hIw (by rw [HBL.out]; omega) hzw).mono ?_; rintro e w3 ⟨rfl, hI3, hB3, hz3, hk3⟩; have hr3 := (hk3 _ _ _ HRW.out (by decide) (by decide)).trans HRW.out; have cr := cell_of_row _ _ 1 _ _ _ hr3; clear hr3))
          | (go_at_call 42; go_must (refine (WriteByte_any w1.heap.size w1.heap.size _ 10 _ hI3 (by rw [List.length_append, HBL.out, Lib.strCells_length]; omega) (by omega)).mono ?_; rintro e w4 ⟨rfl, hI4, hB4, hz4, hk4⟩)))
        go_roundw
        case rel =>
          refine ⟨k + 1, by omega, by go_num, ?_, HBW.out.trans (hB3.trans hB4)⟩
          rw [HSN.out]
          simp only [if_true, List.nil_append]
          rw [byteCells_app, byteCells_app, ← List.append_assoc, show Lib.byteCells WD = Lib.strCells wo by rw [HWD.out, Lib.strCells_eq, S_data]]
          exact hI4
        case measure => simp [intOf]; omega
      · have hT1 : (T == 0) = false := by simpa using hT
        go_wp2_with (first
          | (go_at_call_of 19 (Value.string wo); go_must (refine (WriteString_any w1.heap.size w1.heap.size _ wo _ hIw (by rw [HBL.out]; omega) hzw).mono ?_; rintro e w3 ⟨rfl, hI3, hB3, hz3, hk3⟩; have hr3 := (hk3 _ _ _ HRW.out (by decide) (by decide)).trans HRW.out; have hx3 := (hk3 _ _ _ HXW.out (by decide) (by decide)).trans HXW.out; have cr := cell_of_row _ _ 1 _ _ _ hr3; have cx := cell_of_row _ _ 1 _ _ _ hx3; clear hr3 hx3))
          | (go_at_call 41; go_must (refine (Itoa_any a _ ha1 ha2 (HE.out _ (HB1.out.trans ((HBW.out.trans hB3).mono hz1)))).mono ?_; rintro e w4 ⟨rfl, hb4⟩; have hI4 := printB_below hI3 hb4; have hz4 := hb4.size))
          | (go_at_call 19; go_must (refine (WriteString_any w1.heap.size w1.heap.size _ _ _ hI4 (by rw [List.length_append, HBL.out, Lib.strCells_length, cat_size]; omega) (by omega)).mono ?_; rintro e w5 ⟨rfl, hI5, hB5, hz5, hk5⟩))
          | (go_at_call 42; go_must (refine (WriteByte_any w1.heap.size w1.heap.size _ 10 _ hI5 (by rw [List.length_append, List.length_append, HBL.out, Lib.strCells_length, Lib.strCells_length, cat_size]; omega) (by omega)).mono ?_; rintro e w6 ⟨rfl, hI6, hB6, hz6, hk6⟩)))
        go_roundw
        case rel =>
          refine ⟨k + 1, by omega, by go_num, ?_, HBW.out.trans (((hB3.trans (hb4.mono (by omega))).trans hB5).trans hB6)⟩
          rw [HSN.out, if_neg hT, byteCells_app, byteCells_app, byteCells_app, ← List.append_assoc, ← List.append_assoc, ← cat_cells, show Lib.byteCells WD = Lib.strCells wo by rw [HWD.out, Lib.strCells_eq, S_data]]
          exact hI6
        case measure => simp [intOf]; omega
    · obtain rfl : k = N := by omega
      go_wp2_with (go_at_call 24; go_must (refine (Tryz.Builder_String_any w1.heap.size w1.heap.size (printL (l.take k)) _ hI hB.size).mono ?_; rintro e w3 ⟨rfl, hb3⟩))
      go_ret2
      refine ⟨by rw [List.take_of_length_le (by rw [← HN.out]; exact Nat.le_refl _)]; rfl, HB1.out.trans ((hB.trans hb3).mono hz1)⟩
end Go.Proofs.YtoiokbdipcecnaaGreatDoor
