/-
  quash/quashref15.Print: every list of instructions. Condition: operands within int.
  And: quash/quashref15.digits: a number in decimal, every int. No condition.
-/
import Derived.Test.YtoiokbdipcecnaaGreatDoorEnv
import Derived.Test.YtoiokbdipcecnaaGreatDoorCodeTrim
import Derived.Lib.ItoaLen
import Derived.Lib.ItoaMem
import Derived.Test.YtoiokbdipcecnaaGreatDoorCodePrint
import Derived.Laws.IdiomStrings
import Derived.Laws.OwnMore
namespace Go.Proofs.YtoiokbdipcecnaaGreatDoor
open Go.RowKit
set_option maxRecDepth 100000

theorem decDigits_step (q r : Nat) (hq : 1 ≤ q) (hr : r < 10) : Lib.decDigits (10 * q + r) = Lib.decDigits q ++ Lib.decDigits r := by
  rw [Lib.decDigits, dif_neg (by omega), show (10 * q + r) / 10 = q by omega, show (10 * q + r) % 10 = r by omega, Lib.decDigits_one hr]
theorem itoa_digit (r : Nat) : Lib.itoa (r : Int) = Lib.decDigits r := Lib.itoa_nonneg r
theorem itoa_pos_step (q r : Nat) (hq : 1 ≤ q) (hr : r < 10) : Lib.itoa ((10 * q + r : Nat) : Int) = Lib.itoa (q : Int) ++ Lib.itoa (r : Int) := by
  rw [Lib.itoa_nonneg, Lib.itoa_nonneg, Lib.itoa_nonneg, decDigits_step q r hq hr]
theorem itoa_neg_step (q r : Nat) (hq : 1 ≤ q) (hr : r < 10) : Lib.itoa (-((10 * q + r : Nat) : Int)) = Lib.itoa (-(q : Int)) ++ Lib.itoa (r : Int) := by
  rw [Lib.itoa_neg _ (by omega), Lib.itoa_neg _ hq, Lib.itoa_nonneg, decDigits_step q r hq hr]
  rfl
theorem S_size' (l : List UInt8) : (S l).size = l.length := by simp [S, ByteArray.size]
theorem S_cat (a b : List UInt8) : S a ++ S b = S (a ++ b) := by
  apply ByteArray.ext
  rw [ByteArray.data_append]
  simp [S]
theorem S_cat45 (b : List UInt8) : ({ data := #[45] } : ByteArray) ++ S b = S (45 :: b) := S_cat [45] b
theorem wrap64_eq {n : Int} (h1 : -9223372036854775808 ≤ n) (h2 : n ≤ 9223372036854775807) : wrap64 n = n := by
  unfold wrap64
  omega
theorem ret_str {a b : ByteArray} (h : a = b) : Ending.returned (.string a) = .returned (.string b) := by rw [h]
set_option maxHeartbeats 4000000 in
theorem digits_small (n : Int) (w : World) (h0 : 0 ≤ n) (h1 : n < 10) : Calls Tryz.prog 45 #[.int .i64 n] w fun e w' => e = .returned (.string (S (Lib.itoa n))) ∧ w = w' := by
  obtain h | h | h | h | h | h | h | h | h | h : n = 0 ∨ n = 1 ∨ n = 2 ∨ n = 3 ∨ n = 4 ∨ n = 5 ∨ n = 6 ∨ n = 7 ∨ n = 8 ∨ n = 9 := by omega
  all_goals
    subst h
    clear h0 h1
    go_enter Tryz.func45, Tryz.ntmps45
    go_wp2
    go_ret
    exact ⟨ret_str (by kernel_rfl), rfl⟩
theorem digits_any : ∀ (m : Nat) (n : Int), 2 * n.natAbs + (if n < 0 then 1 else 0) = m → -9223372036854775808 ≤ n → n ≤ 9223372036854775807 → ∀ w, Calls Tryz.prog 45 #[.int .i64 n] w fun e w' => e = .returned (.string (S (Lib.itoa n))) ∧ w = w' := by
  intro m
  induction m using Nat.strongRecOn with
  | ind m ih =>
    intro n hm hlo hhi w
    by_cases h0 : 0 ≤ n
    · by_cases h1 : n < 10
      · exact digits_small n w h0 h1
      · obtain ⟨q, r, hn, hq, hr⟩ : ∃ q r : Nat, n = ((10 * q + r : Nat) : Int) ∧ 1 ≤ q ∧ r < 10 := ⟨n.toNat / 10, n.toNat % 10, by omega, by omega, by omega⟩
        have d1 : n / 10 = (q : Int) := by omega
        have d2 : n % 10 = (r : Int) := by omega
        have i1 := fun w => Lib.hid (ih (2 * q) (by omega) (q : Int) (by rw [if_neg (by omega)]; omega) (by omega) (by omega) w)
        have i2 := fun w => Lib.hid (ih (2 * r) (by omega) (r : Int) (by rw [if_neg (by omega)]; omega) (by omega) (by omega) w)
        have HE := Lib.hid (show S (Lib.itoa (q : Int)) ++ S (Lib.itoa (r : Int)) = S (Lib.itoa n) by rw [S_cat, hn, itoa_pos_step q r hq hr])
        have l1 := Lib.itoa_length_le (q : Int) (by omega) (by omega)
        have l2 := Lib.itoa_length_le (r : Int) (by omega) (by omega)
        have hsz : ¬ 9223372036854775807 < (S (Lib.itoa (q : Int))).size + (S (Lib.itoa (r : Int))).size := by rw [S_size', S_size']; omega
        clear hn hm ih
        go_enter Tryz.func45, Tryz.ntmps45
        go_wp2_with (first | (go_at_call_of 45 (Value.int .i64 (q : Int)); refine (i1 _).out.mono ?_; rintro e w1 ⟨rfl, rfl⟩) | (go_at_call 45; refine (i2 _).out.mono ?_; rintro e w1 ⟨rfl, rfl⟩))
        go_ret
        exact ⟨ret_str HE.out, rfl⟩
    · by_cases h1 : -10 < n
      · have hab : (-n).natAbs = n.natAbs := Int.natAbs_neg n
        have hm2 : 2 * n.natAbs + 1 = m := by rw [if_pos (by omega)] at hm; exact hm
        have i1 := fun w => Lib.hid (ih (2 * (-n).natAbs) (by omega) (-n) (by rw [if_neg (by omega)]; omega) (by omega) (by omega) w)
        have HE := Lib.hid (show ({ data := #[45] } : ByteArray) ++ S (Lib.itoa (-n)) = S (Lib.itoa n) by
          obtain ⟨u, hu⟩ : ∃ u : Nat, n = -(u : Int) := ⟨n.natAbs, by omega⟩
          subst hu
          rw [S_cat45, Int.neg_neg, Lib.itoa_nonneg, Lib.itoa_neg u (by omega)])
        have l1 := Lib.itoa_length_le (-n) (by omega) (by omega)
        have hsz : ¬ 9223372036854775807 < 1 + (S (Lib.itoa (-n))).size := by rw [S_size']; omega
        have hn0 : n < 0 := by omega
        have hg0 : ¬ 0 ≤ n := h0
        clear hm hm2 hab ih h0
        go_enter Tryz.func45, Tryz.ntmps45
        go_wp2_with (go_at_call 45; refine (i1 _).out.mono ?_; rintro e w1 ⟨rfl, rfl⟩)
        go_ret
        exact ⟨ret_str HE.out, rfl⟩
      · obtain ⟨q, r, hn, hq, hr⟩ : ∃ q r : Nat, n = -((10 * q + r : Nat) : Int) ∧ 1 ≤ q ∧ r < 10 := ⟨n.natAbs / 10, n.natAbs % 10, by omega, by omega, by omega⟩
        have d1 : n.tdiv 10 = -(q : Int) := by
          rw [hn, Int.neg_tdiv, Int.tdiv_eq_ediv_of_nonneg (by omega)]; omega
        have d2 : n.tmod 10 = -(r : Int) := by
          rw [hn, Int.neg_tmod, Int.tmod_eq_emod_of_nonneg (by omega)]; omega
        have hn0 : n < 0 := by omega
        have hg0 : ¬ 0 ≤ n := h0
        have hwq : wrap64 (-(q : Int)) = -(q : Int) := wrap64_eq (by omega) (by omega)
        have i1 := fun w => Lib.hid (ih (2 * q + 1) (by omega) (-(q : Int)) (by rw [if_pos (by omega)]; omega) (by omega) (by omega) w)
        have i2 := fun w => Lib.hid (ih (2 * r) (by omega) (r : Int) (by rw [if_neg (by omega)]; omega) (by omega) (by omega) w)
        have HE := Lib.hid (show S (Lib.itoa (-(q : Int))) ++ S (Lib.itoa (r : Int)) = S (Lib.itoa n) by rw [S_cat, hn, itoa_neg_step q r hq hr])
        have l1 := Lib.itoa_length_le (-(q : Int)) (by omega) (by omega)
        have l2 := Lib.itoa_length_le (r : Int) (by omega) (by omega)
        have hsz : ¬ 9223372036854775807 < (S (Lib.itoa (-(q : Int)))).size + (S (Lib.itoa (r : Int))).size := by rw [S_size', S_size']; omega
        clear hn hm ih h0
        rcases Nat.eq_zero_or_pos r with hr0 | hr0
        · subst hr0
          go_enter Tryz.func45, Tryz.ntmps45
          go_wp2_with (first | (go_at_call_of 45 (Value.int .i64 (-(q : Int))); refine (i1 _).out.mono ?_; rintro e w1 ⟨rfl, rfl⟩) | (go_at_call 45; refine (i2 _).out.mono ?_; rintro e w1 ⟨rfl, rfl⟩))
          go_ret
          exact ⟨ret_str HE.out, rfl⟩
        · have hr1 : -(r : Int) < 0 := by omega
          go_enter Tryz.func45, Tryz.ntmps45
          go_wp2_with (first | (go_at_call_of 45 (Value.int .i64 (-(q : Int))); refine (i1 _).out.mono ?_; rintro e w1 ⟨rfl, rfl⟩) | (go_at_call 45; refine (i2 _).out.mono ?_; rintro e w1 ⟨rfl, rfl⟩))
          go_ret
          exact ⟨ret_str HE.out, rfl⟩
end Go.Proofs.YtoiokbdipcecnaaGreatDoor
namespace Go.Proofs.YtoiokbdipcecnaaGreatDoor
open Go.RowKit
set_option maxRecDepth 100000

/-- a row of bytes of the call's own -/
def OwnB (w : World) (B : Nat) (v : Value) (l : List UInt8) : Prop := w.ownsRow B 5 1 v l.length (Lib.byteCells l)
theorem OwnB.below {w w' : World} {B : Nat} {v : Value} {l : List UInt8} (h : OwnB w B v l) (hb : Below w.heap.size w w') : OwnB w' B v l :=
  ownsRow_at h (fun g hg => by obtain ⟨_, hc⟩ := own_block h hg; exact hb.block _ (lt_of_block hc))
theorem wpList_appS {w : World} {B : Nat} {v : Value} {bs : List UInt8} (hown : OwnB w B v bs) (hB : B ≤ w.heap.size) (s : List UInt8) (hb : bs.length + s.length ≤ 140737488355328)
    {ops : Array Oper} {Q : Exit → Act → World → Prop} {a : Act} {rest : List Oper} {o : Oper} (hgd : o.guard = none) (p x : Operand) (hop : o.op = Op.call { callee := Callee.builtin Builtin.append, args := #[p, x], argTypes := #[42, 9] })
    (ev : a.eval p = v) (hx : a.eval x = .string (S s))
    (hK : ∀ v' w', OwnB w' B v' (bs ++ s) → w.grownBy w' v.ownBlock → wpList Tryz.prog ops Q rest (a.put o.dst v') w') : wpList Tryz.prog ops Q (o :: rest) a w := by
  obtain ⟨i0, hi, hz0, hz1, hz2⟩ := info_parts infoByte
  refine Lib.wpList_append_own_string w hgd p x 42 9 hop B 5 i0 Tryz.underlying42 Tryz.underlying9 hi hz0 hz1 hz2 v bs.length (Lib.byteCells bs) ev hown (S s) hx (by unfold maxLen; rw [S_size']; omega) (by rw [S_size']; omega) hB (fun v' w' h1 h2 _ => hK v' w' ?_ h2)
  unfold OwnB
  rw [List.length_append, byteCells_app]
  rw [S_size', show Lib.strCells (S s) = Lib.byteCells s by rw [Lib.strCells_eq, S_data]] at h1
  exact h1
theorem wpList_app1 {w : World} {B : Nat} {v : Value} {bs : List UInt8} (hown : OwnB w B v bs) (hB : B ≤ w.heap.size) (nb : Nat) (c : UInt8) (z : Int) (t : TypeId) (hc : w.heap[nb]? = some (.cells #[.int .u8 z] t)) (hz : z = (c.toNat : Int)) (hb : bs.length + 1 ≤ 140737488355328)
    {ops : Array Oper} {Q : Exit → Act → World → Prop} {a : Act} {rest : List Oper} {o : Oper} (hgd : o.guard = none) (p x : Operand) (hop : o.op = Op.call { callee := Callee.builtin Builtin.append, args := #[p, x], argTypes := #[42, 42] })
    (ev : a.eval p = v) (hx : a.eval x = .slice (some ⟨nb, 0, none⟩) 1 1)
    (hK : ∀ v' w', OwnB w' B v' (bs ++ [c]) → w.grownBy w' v.ownBlock → wpList Tryz.prog ops Q rest (a.put o.dst v') w') : wpList Tryz.prog ops Q (o :: rest) a w := by
  subst hz
  obtain ⟨i0, hi, hz0, hz1, hz2⟩ := info_parts infoByte
  refine wpList_append_own w hgd p x 42 hop B 5 i0 (.int .u8 0) 1 1 Tryz.underlying42 hi hz0 hz1 hz2 rfl (by decide) v bs.length (Lib.byteCells bs) ev hown ⟨nb, 0, none⟩ 1 1 [.int .u8 c.toNat] hx rfl (fun j u hj => ?_) (fun u hu => ?_) (by unfold maxLen; omega) (by omega) hB (fun v' w' h1 h2 _ => hK v' w' ?_ h2)
  · match j, hj with
    | 0, hj => simp at hj; subst hj; exact cell_of_row _ _ 0 _ _ _ hc
    | j + 1, hj => simp at hj
  · simp at hu; subst hu; rfl
  · unfold OwnB
    rw [List.length_append, byteCells_app]
    exact h1
theorem refPrint_bad (ao : Option Addr) (n c : Nat) (l : List (Int × Int)) (w : World) (hl : l.length = n) (hs : SeesP w ao l) (hn : n ≤ maxLen) (h0 : (checkL l).1 ≠ 0) :
    Calls Tryz.prog 26 #[.slice ao n c] w fun e w' => e = .returned (.tuple #[.string ⟨#[]⟩, .int .i64 (checkL l).1]) ∧ Below w.heap.size w w' := by
  have HC := Lib.hid (refCheck_any ao n c l w hl hs hn)
  generalize checkL l = R at h0 HC
  obtain ⟨r1, r2⟩ := R
  have h1 : (r1 == 0) = false := by simpa using h0
  clear hl hs hn h0
  go_enter Tryz.func26, Tryz.ntmps26
  go_wp2_with (go_at_call 18; refine HC.out.mono ?_; rintro e w1 ⟨rfl, rfl⟩)
  go_ret2
  exact ⟨rfl, Below.refl _ _⟩
theorem OwnB.form {w : World} {B : Nat} {v : Value} {l : List UInt8} (h : OwnB w B v l) : ∃ ao c, v = .slice ao l.length c ∧ (l.length ≠ 0 → ∃ g, ao = some ⟨g, 0, none⟩) := by
  rcases h.2 with ⟨h1, h2⟩ | ⟨g, cap, cur, hv, _⟩
  · exact ⟨none, 0, by rw [h1, h2], fun e => absurd h2 e⟩
  · exact ⟨some ⟨g, 0, none⟩, cap, hv, fun _ => ⟨g, rfl⟩⟩
theorem OwnB.form' {w : World} {B : Nat} {v : Value} {l : List UInt8} (h : OwnB w B v l) : ∃ ao n c, v = .slice ao n c ∧ Hid (n = l.length) := by
  obtain ⟨ao, c, e, _⟩ := h.form
  exact ⟨ao, _, c, e, Lib.hid rfl⟩
theorem printL_pos {l : List (Int × Int)} (h : 1 ≤ l.length) : (printL l).length ≠ 0 := by
  cases l with
  | nil => simp at h
  | cons x r => simp [printL, printOne]
set_option maxHeartbeats 4000000 in
theorem refPrint_ok (b o c : Nat) (l : List (Int × Int)) (w : World) (h0 : (checkL l).1 = 0) (hi : InI l)
    (hc : ∀ j x, l[j]? = some x → w.cell? ⟨b, o + j * 2, none⟩ = some (.int .i64 x.1) ∧ w.cell? ⟨b, o + j * 2 + 1, none⟩ = some (.int .i64 x.2)) :
    Calls Tryz.prog 26 #[.slice (some ⟨b, o, none⟩) l.length c] w fun e w' => e = .returned (.tuple #[.string (S (printL l)), .int .i64 0]) ∧ Below w.heap.size w w' := by
  obtain ⟨h1, h2, -⟩ := checkL_ok h0
  have HC := Lib.hid (refCheck_any (some ⟨b, o, none⟩) l.length c l w rfl ⟨b, o, fun _ => rfl, hc⟩ (by unfold maxLen; omega))
  have HI := Lib.hid hi
  have HLEN := Lib.hid (printL_len hi)
  have HPOS := Lib.hid (printL_pos h1)
  have HCL := Lib.hid hc
  generalize checkL l = R at h0 HC
  obtain ⟨r1, r2⟩ := R
  simp only at h0
  subst h0
  obtain ⟨N, hN⟩ : ∃ N, N = l.length := ⟨_, rfl⟩
  have HN := Lib.hid hN
  rw [← hN] at h1 h2 HC HLEN
  rw [← hN]
  clear hN hc hi
  go_enter Tryz.func26, Tryz.ntmps26
  go_wp2_with (go_at_call 18; refine HC.out.mono ?_; rintro e w1 ⟨rfl, rfl⟩)
  go_loopw [6, 7] (fun v u wr => ∃ k : Nat, k ≤ N ∧ u = .int .i64 k ∧ OwnB wr w.heap.size v (printL (l.take k)) ∧ Below w.heap.size w wr) (fun _ u _ => N - (intOf u).toNat)
  case atStart => exact ⟨0, Nat.zero_le _, rfl, World.ownsRow_nil _ _ _ _, Below.refl _ _⟩
  case round =>
    obtain ⟨k, hk, rfl, hown, hB⟩ := hrel
    by_cases hlt : k < N
    · obtain ⟨⟨op, a⟩, hx⟩ : ∃ x, l[k]? = some x := ⟨_, List.getElem?_eq_getElem (by rw [← HN.out]; exact hlt)⟩
      obtain ⟨q0, q1⟩ := HCL.out k _ hx
      have hbw : b < w.heap.size := block_lt_of_cell q0
      have c0 := (hB.cell (p := ⟨b, _, none⟩) hbw).trans q0
      have Q1 := Lib.hid (fun W (h : Below w.heap.size w W) => (h.cell (p := ⟨b, _, none⟩) hbw).trans q1)
      simp only at c0
      have HSN := Lib.hid (printL_snoc l k hx)
      have hin := HI.out _ (List.mem_of_getElem? hx)
      obtain ⟨ha1, ha2⟩ := hin
      simp only at ha1 ha2
      have hpl : (printL (l.take k)).length ≤ 11600 := by have := printL_take l k; have := HLEN.out; omega
      have hwl := word_len op
      have hil := Lib.itoa_length_le a ha1 ha2
      have hi0 : (0 : Int) ≤ (k : Int) := by omega
      unfold printOne at HSN
      have HWO := fun W => Lib.hid (refWord_any op W)
      unfold word at HWO
      generalize (opRow op).1 = WD at HSN HWO hwl
      obtain ⟨PT, hPT⟩ : ∃ PT, PT = printL (l.take k) := ⟨_, rfl⟩
      rw [← hPT] at hown hpl HSN
      obtain ⟨aov, nv, cv, rfl, hnv⟩ := hown.form'
      have HO := Lib.hid hown
      have HB := Lib.hid hB
      have hz := hB.size
      have HTK := fun W => Lib.hid (refTakes_any op W)
      have HDG := fun W => Lib.hid (digits_any _ a rfl ha1 ha2 W)
      generalize takes op = T at HSN HTK
      clear q0 q1 hx hPT hown hB
      go_upto_region 10 with (first
        | (go_at_call 44; refine (HWO _).out.mono ?_; rintro e w2 ⟨rfl, hb2⟩)
        | (at_builtin; refine wpList_appS (HO.out.below hb2) (Nat.le_trans hz hb2.size) WD (by omega) rfl _ _ rfl rfl rfl ?_; intro v3 w3 hown3 hgrow3))
      have hB3 : Below w.heap.size w w3 := (HB.out.trans (hb2.mono hz)).grown hgrow3 (Nat.le_trans hz hb2.size) (fun k hk => own_ge HO.out hk)
      obtain ⟨ao3, n3, c3, rfl, hn3⟩ := hown3.form'
      have HO3 := Lib.hid hown3
      have HB3 := Lib.hid hB3
      have hz3 := hB3.size
      clear hb2 hown3 hgrow3 hB3 c0
      by_cases hT : T = 0
      · subst hT
        go_wp2_with (first
          | (go_at_call 38; refine (HTK _).out.mono ?_; rintro e w4 ⟨rfl, rfl⟩)
          | (at_builtin; refine wpList_app1 (HO3.out.below ((Below.refl _ _).alloc (Nat.le_refl _) _)) (by simp <;> omega) w3.heap.size 10 _ _ (heap_new _ _ _ rfl) rfl (by rw [List.length_append]; omega) rfl _ _ rfl rfl rfl ?_; intro v5 w5 hown5 hgrow5))
        go_roundw
        case rel =>
          refine ⟨k + 1, by omega, by go_num, ?_, (HB3.out.alloc hz3 _).grown hgrow5 (by simp <;> omega) (fun k hk => own_ge HO3.out hk)⟩
          rw [HSN.out]
          simp only [if_true, List.nil_append]
          rw [← List.append_assoc]
          exact hown5
        case measure => simp [intOf]; omega
      · have hT1 : (T == 0) = false := by simpa using hT
        go_upto_region 12 with (first
          | (go_at_call 38; refine (HTK _).out.mono ?_; rintro e w4 ⟨rfl, rfl⟩)
          | (at_builtin; refine wpList_app1 (HO3.out.below ((Below.refl _ _).alloc (Nat.le_refl _) _)) (by simp <;> omega) w3.heap.size 32 _ _ (heap_new _ _ _ rfl) rfl (by rw [List.length_append]; omega) rfl _ _ rfl rfl rfl ?_; intro v5 w5 hown5 hgrow5))
        have hB5 : Below w.heap.size w w5 := (HB3.out.alloc hz3 _).grown hgrow5 (by simp <;> omega) (fun k hk => own_ge HO3.out hk)
        have c1 := Q1.out _ hB5
        obtain ⟨ao5, n5, c5, rfl, hn5⟩ := hown5.form'
        have HO5 := Lib.hid hown5
        have HB5 := Lib.hid hB5
        have hz5 := hB5.size
        clear hown5 hgrow5 hB5
        go_upto_region 13 with (first
          | (go_at_call 45; refine (HDG _).out.mono ?_; rintro e w6 ⟨rfl, rfl⟩)
          | (at_builtin; refine wpList_appS HO5.out hz5 (Lib.itoa a) (by simp only [List.length_append, List.length_singleton]; omega) rfl _ _ rfl rfl rfl ?_; intro v7 w7 hown7 hgrow7))
        have hB7 : Below w.heap.size w w7 := HB5.out.grown hgrow7 hz5 (fun k hk => own_ge HO5.out hk)
        obtain ⟨ao7, n7, c7, rfl, hn7⟩ := hown7.form'
        have HO7 := Lib.hid hown7
        have HB7 := Lib.hid hB7
        have hz7 := hB7.size
        clear hown7 hgrow7 hB7
        go_wp2_with (at_builtin; refine wpList_app1 (HO7.out.below ((Below.refl _ _).alloc (Nat.le_refl _) _)) (by simp <;> omega) w7.heap.size 10 _ _ (heap_new _ _ _ rfl) rfl (by simp only [List.length_append, List.length_singleton]; omega) rfl _ _ rfl rfl rfl ?_; intro v9 w9 hown9 hgrow9)
        go_roundw
        case rel =>
          refine ⟨k + 1, by omega, by go_num, ?_, (HB7.out.alloc hz7 _).grown hgrow9 (by simp <;> omega) (fun k hk => own_ge HO7.out hk)⟩
          rw [HSN.out, if_neg hT]
          have h := hown9
          simp only [List.append_assoc, List.cons_append, List.nil_append] at h ⊢
          exact h
        case measure => simp [intOf]; omega
    · obtain rfl : k = N := by omega
      have htk : l.take k = l := List.take_of_length_le (by rw [← HN.out]; exact Nat.le_refl _)
      rw [htk] at hown
      obtain ⟨ao', c', rfl, hsome⟩ := hown.form
      obtain ⟨g, rfl⟩ := hsome HPOS.out
      have hcv : (convert 42 9 (.slice (some ⟨g, 0, none⟩) (printL l).length c')).run Tryz.prog wr = .ok (.string (S (printL l))) wr :=
        run_convert_bytes_back wr _ _ 5 ⟨g, 0, none⟩ c' (printL l) Tryz.underlying42 Tryz.underlying5 Tryz.underlying9 (fun j hj => by
          rw [Addr.add_lit, Nat.zero_add]
          refine (hown.cellAt j (by omega)).trans ?_
          simp [Lib.byteCells, List.getElem?_eq_getElem hj])
      generalize (printL l).length = M at hcv ⊢
      clear hown htk
      go_wp2
      go_ret2
      exact ⟨rfl, hB⟩
theorem refPrint_any (ao : Option Addr) (n c : Nat) (l : List (Int × Int)) (w : World) (hl : l.length = n) (hs : SeesP w ao l) (hn : n ≤ maxLen) (hi : InI l) :
    Calls Tryz.prog 26 #[.slice ao n c] w fun e w' => e = .returned (.tuple #[.string (if (checkL l).1 = 0 then S (printL l) else ⟨#[]⟩), .int .i64 (checkL l).1]) ∧ Below w.heap.size w w' := by
  by_cases h0 : (checkL l).1 = 0
  · subst hl
    rw [if_pos h0, h0]
    obtain ⟨h1, _⟩ := checkL_ok h0
    obtain ⟨b, o, hao, hc⟩ := hs
    obtain rfl := hao (by intro e; subst e; simp at h1)
    exact refPrint_ok b o c l w h0 hi hc
  · rw [if_neg h0]
    exact refPrint_bad ao n c l w hl hs hn h0
theorem Print_any (ao : Option Addr) (n c : Nat) (l : List (Int × Int)) (w : World) (he : Env w) (hl : l.length = n) (hs : SeesP w ao l) (hn : n ≤ maxLen) (hi : InI l) :
    Calls Tryz.prog 22 #[.slice ao n c] w fun e w' => e = .returned (.tuple #[.string (if (checkL l).1 = 0 then S (printL l) else ⟨#[]⟩), .int .i64 (checkL l).1]) ∧ Below w.heap.size w w' := by
  by_cases h0 : (checkL l).1 = 0
  · subst hl
    rw [if_pos h0, h0]
    exact Print_ok ao c l w he hs h0 hi
  · rw [if_neg h0]
    exact Print_bad ao n c l w hl hs hn h0
end Go.Proofs.YtoiokbdipcecnaaGreatDoor
