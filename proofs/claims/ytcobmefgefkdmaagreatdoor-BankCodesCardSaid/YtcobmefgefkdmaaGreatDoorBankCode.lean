/-
  quash/bank.Code: every call. Condition: the library's variables (Env).
-/
import Derived.Test.YtcobmefgefkdmaaGreatDoorBankProg
namespace Go.Proofs.YtcobmefgefkdmaaGreatDoor
open Go.RowKit
set_option maxRecDepth 100000

def codeOk (base n op a b x y : Int) : Bool := decide (roomI n ≠ 0) && ofB n op a b x y && decide (0 ≤ base) && decide (base + n ≤ 256)
def CodeDoes (base n op a b x y : Int) (w : World) (e : Ending) (w' : World) : Prop :=
  if codeOk base n op a b x y then ProgDoes (progL op.toNat base n a b x) w e w'
  else e = .returned (.tuple #[.slice none 0 0, .int .i64 170]) ∧ Below w.heap.size w w'
def progFn : Nat → Nat
  | 1 => 31
  | 2 => 34
  | 3 => 36
  | 4 => 38
  | _ => 40
theorem kindV_form2 (op : Int) (h : 1 ≤ op ∧ op ≤ 5) : ∃ ka kb kx g, kindV op.toNat = .agg #[.bool ka, .bool kb, .bool kx, .func (Fn.func g) #[] #[], .func (Fn.func (progFn op.toNat)) #[] #[]] := by
  obtain h | h | h | h | h : op = 1 ∨ op = 2 ∨ op = 3 ∨ op = 4 ∨ op = 5 := by omega
  all_goals subst h; exact ⟨_, _, _, _, rfl⟩
theorem prog_enters (k : Nat) : ∀ args w, (callFunc (progFn k) args).run Tryz.prog w = .ok (.enter (progFn k) args) w := by
  unfold progFn
  split
  · exact enters_of Tryz.func31 (by kernel_rfl) rfl
  · exact enters_of Tryz.func34 (by kernel_rfl) rfl
  · exact enters_of Tryz.func36 (by kernel_rfl) rfl
  · exact enters_of Tryz.func38 (by kernel_rfl) rfl
  · exact enters_of Tryz.func40 (by kernel_rfl) rfl
theorem progs_any (base n op a b x y : Int) (w : World) (he : Env w) (h : codeOk base n op a b x y = true) :
    Calls Tryz.prog (progFn op.toNat) #[.int .i64 base, .int .i64 n, deedV op a b x y] w (ProgDoes (progL op.toNat base n a b x) w) := by
  simp only [codeOk, Bool.and_eq_true, decide_eq_true_eq] at h
  obtain ⟨⟨⟨hr, ho⟩, hb0⟩, hb1⟩ := h
  have hop := ofB_op ho
  have hn : 1 ≤ n ∧ n ≤ 64 := by unfold roomI at hr; split at hr <;> simp_all
  simp only [ofB, Bool.and_eq_true, decide_eq_true_eq] at ho
  obtain ⟨⟨⟨⟨⟨_, hra⟩, hrb⟩, hx0⟩, hx1⟩, _⟩ := ho
  have ha : 0 ≤ a ∧ a ≤ 64 := by
    unfold rightB at hra
    split at hra <;> simp at hra <;> omega
  have hb : 0 ≤ b ∧ b ≤ 64 := by
    unfold rightB at hrb
    split at hrb <;> simp at hrb <;> omega
  obtain e | e | e | e | e : op = 1 ∨ op = 2 ∨ op = 3 ∨ op = 4 ∨ op = 5 := by omega
  · subst e; exact prog1_any base n 1 a b x y w he hb0 (by omega) hn.1 hn.2 hx0 hx1 ha.1 ha.2 hb.1 hb.2
  · subst e; exact prog2_any base n 2 a b x y w he hb0 (by omega) hn.1 hn.2 hx0 hx1 ha.1 ha.2 hb.1 hb.2
  · subst e; exact prog3_any base n 3 a b x y w he hb0 (by omega) hn.1 hn.2 hx0 hx1 ha.1 ha.2 hb.1 hb.2
  · subst e; exact prog4_any base n 4 a b x y w he hb0 (by omega) hn.1 hn.2 hx0 hx1 ha.1 ha.2 hb.1 hb.2
  · subst e; exact prog5_any base n 5 a b x y w he hb0 (by omega) hn.1 hn.2 hx0 hx1 ha.1 ha.2 hb.1 hb.2
set_option maxHeartbeats 1000000 in
theorem Code_noroom (base n op a b x y : Int) (w : World) (hr0 : roomI n = 0) : Calls Tryz.prog 17 #[.int .i64 base, .int .i64 n, deedV op a b x y] w (CodeDoes base n op a b x y w) := by
  have HD := Lib.hid (show codeOk base n op a b x y = false by simp [codeOk, hr0])
  have HR := Lib.hid hr0
  clear hr0
  unfold deedV
  cases hok : ofB n op a b x y with
  | false =>
    have HO := Lib.hid hok
    have HKV := Lib.hid (show (if ofB n op a b x y then kindV op.toNat else kindV 0) = .agg #[.bool false, .bool false, .bool false, .nilFunc, .nilFunc] by rw [hok]; rfl)
    clear hok
    go_enter Tryz.func17, Tryz.ntmps17
    go_wp2_with (first
      | (go_at_call 21; go_must (refine (of_any n op a b x y _).mono ?_; rintro e w2 ⟨rfl, hb2⟩; rw [HKV.out, HO.out]))
      | (go_at_call 13; go_must (refine (Room_any n _).mono ?_; rintro e w3 ⟨rfl, rfl⟩; rw [HR.out])))
    go_ret2
    unfold CodeDoes
    rw [HD.out]
    refine ⟨rfl, ?_⟩
    have hb0 : Below w.heap.size w (w.alloc (.cells #[.int .i64 op, .int .i64 a, .int .i64 b, .int .i64 x, .int .i64 y] 25)) := (Below.refl _ _).alloc (Nat.le_refl _) _
    have hb3 := hb0.trans (hb2.mono (by simp))
    exact hb3.alloc (by have := hb2.size; simp at this; omega) _
  | true =>
    obtain ⟨ka, kb, kx, g, hkv⟩ := kindV_form2 op (ofB_op hok)
    have HO := Lib.hid hok
    have HKV := Lib.hid (show (if ofB n op a b x y then kindV op.toNat else kindV 0) = .agg #[.bool ka, .bool kb, .bool kx, .func (Fn.func g) #[] #[], .func (Fn.func (progFn op.toNat)) #[] #[]] by rw [hok]; exact hkv)
    clear hok hkv
    go_enter Tryz.func17, Tryz.ntmps17
    go_wp2_with (first
      | (go_at_call 21; go_must (refine (of_any n op a b x y _).mono ?_; rintro e w2 ⟨rfl, hb2⟩; rw [HKV.out, HO.out]))
      | (go_at_call 13; go_must (refine (Room_any n _).mono ?_; rintro e w3 ⟨rfl, rfl⟩; rw [HR.out])))
    go_ret2
    unfold CodeDoes
    rw [HD.out]
    refine ⟨rfl, ?_⟩
    have hb0 : Below w.heap.size w (w.alloc (.cells #[.int .i64 op, .int .i64 a, .int .i64 b, .int .i64 x, .int .i64 y] 25)) := (Below.refl _ _).alloc (Nat.le_refl _) _
    have hb3 := hb0.trans (hb2.mono (by simp))
    exact hb3.alloc (by have := hb2.size; simp at this; omega) _
set_option maxHeartbeats 1000000 in
theorem Code_notok (base n op a b x y : Int) (w : World) (hok : ofB n op a b x y = false) (h1 : 1 ≤ n) (hr : roomI n = n) : Calls Tryz.prog 17 #[.int .i64 base, .int .i64 n, deedV op a b x y] w (CodeDoes base n op a b x y w) := by
  have HD := Lib.hid (show codeOk base n op a b x y = false by simp [codeOk, hok])
  have HR := Lib.hid hr
  clear hr
  unfold deedV
  have hn0 : (n == 0) = false := by simp; omega
  have HO := Lib.hid hok
  have HKV := Lib.hid (show (if ofB n op a b x y then kindV op.toNat else kindV 0) = .agg #[.bool false, .bool false, .bool false, .nilFunc, .nilFunc] by rw [hok]; rfl)
  clear hok
  go_enter Tryz.func17, Tryz.ntmps17
  go_wp2_with (first
    | (go_at_call 21; go_must (refine (of_any n op a b x y _).mono ?_; rintro e w2 ⟨rfl, hb2⟩; rw [HKV.out, HO.out]))
    | (go_at_call 13; go_must (refine (Room_any n _).mono ?_; rintro e w3 ⟨rfl, rfl⟩; rw [HR.out])))
  go_ret2
  unfold CodeDoes
  rw [HD.out]
  refine ⟨rfl, ?_⟩
  have hb0 : Below w.heap.size w (w.alloc (.cells #[.int .i64 op, .int .i64 a, .int .i64 b, .int .i64 x, .int .i64 y] 25)) := (Below.refl _ _).alloc (Nat.le_refl _) _
  have hb3 := hb0.trans (hb2.mono (by simp))
  exact hb3.alloc (by have := hb2.size; simp at this; omega) _
set_option maxHeartbeats 1000000 in
theorem Code_low (base n op a b x y : Int) (w : World) (hok : ofB n op a b x y = true) (h1 : 1 ≤ n) (h2 : n ≤ 64) (hr : roomI n = n) (hb : base < 0) : Calls Tryz.prog 17 #[.int .i64 base, .int .i64 n, deedV op a b x y] w (CodeDoes base n op a b x y w) := by
  have HD := Lib.hid (show codeOk base n op a b x y = false by simp [codeOk]; omega)
  have HR := Lib.hid hr
  clear hr
  unfold deedV
  have hn0 : (n == 0) = false := by simp; omega
  obtain ⟨ka, kb, kx, g, hkv⟩ := kindV_form2 op (ofB_op hok)
  have HO := Lib.hid hok
  have HKV := Lib.hid (show (if ofB n op a b x y then kindV op.toNat else kindV 0) = .agg #[.bool ka, .bool kb, .bool kx, .func (Fn.func g) #[] #[], .func (Fn.func (progFn op.toNat)) #[] #[]] by rw [hok]; exact hkv)
  clear hok hkv
  go_enter Tryz.func17, Tryz.ntmps17
  go_wp2_with (first
    | (go_at_call 21; go_must (refine (of_any n op a b x y _).mono ?_; rintro e w2 ⟨rfl, hb2⟩; rw [HKV.out, HO.out]))
    | (go_at_call 13; go_must (refine (Room_any n _).mono ?_; rintro e w3 ⟨rfl, rfl⟩; rw [HR.out])))
  go_ret2
  unfold CodeDoes
  rw [HD.out]
  refine ⟨rfl, ?_⟩
  have hb0 : Below w.heap.size w (w.alloc (.cells #[.int .i64 op, .int .i64 a, .int .i64 b, .int .i64 x, .int .i64 y] 25)) := (Below.refl _ _).alloc (Nat.le_refl _) _
  have hb3 := hb0.trans (hb2.mono (by simp))
  exact hb3.alloc (by have := hb2.size; simp at this; omega) _
set_option maxHeartbeats 1000000 in
theorem Code_high (base n op a b x y : Int) (w : World) (hok : ofB n op a b x y = true) (h1 : 1 ≤ n) (h2 : n ≤ 64) (hr : roomI n = n) (hb : 256 < base + n) (h0 : 0 ≤ base) (_hlim : base ≤ 9223372036854775807) : Calls Tryz.prog 17 #[.int .i64 base, .int .i64 n, deedV op a b x y] w (CodeDoes base n op a b x y w) := by
  have HD := Lib.hid (show codeOk base n op a b x y = false by simp [codeOk]; omega)
  have HR := Lib.hid hr
  clear hr
  unfold deedV
  have hn0 : (n == 0) = false := by simp; omega
  have hb0 : decide (base < 0) = false := by simp; omega
  have hb1 : 256 - n < base := by omega
  clear hb
  obtain ⟨ka, kb, kx, g, hkv⟩ := kindV_form2 op (ofB_op hok)
  have HO := Lib.hid hok
  have HKV := Lib.hid (show (if ofB n op a b x y then kindV op.toNat else kindV 0) = .agg #[.bool ka, .bool kb, .bool kx, .func (Fn.func g) #[] #[], .func (Fn.func (progFn op.toNat)) #[] #[]] by rw [hok]; exact hkv)
  clear hok hkv
  go_enter Tryz.func17, Tryz.ntmps17
  go_wp2_with (first
    | (go_at_call 21; go_must (refine (of_any n op a b x y _).mono ?_; rintro e w2 ⟨rfl, hb2⟩; rw [HKV.out, HO.out]))
    | (go_at_call 13; go_must (refine (Room_any n _).mono ?_; rintro e w3 ⟨rfl, rfl⟩; rw [HR.out])))
  go_ret2
  unfold CodeDoes
  rw [HD.out]
  refine ⟨rfl, ?_⟩
  have hb0 : Below w.heap.size w (w.alloc (.cells #[.int .i64 op, .int .i64 a, .int .i64 b, .int .i64 x, .int .i64 y] 25)) := (Below.refl _ _).alloc (Nat.le_refl _) _
  have hb3 := hb0.trans (hb2.mono (by simp))
  exact hb3.alloc (by have := hb2.size; simp at this; omega) _
set_option maxHeartbeats 1000000 in
theorem Code_yes (base n op a b x y : Int) (w : World) (he : Env w) (h : codeOk base n op a b x y = true) : Calls Tryz.prog 17 #[.int .i64 base, .int .i64 n, deedV op a b x y] w (CodeDoes base n op a b x y w) := by
  have HD := Lib.hid h
  have hpr := fun W (hE : Env W) => progs_any base n op a b x y W hE h
  have HP := Lib.hid hpr
  have HE := Lib.hid (fun W (hb : Below w.heap.size w W) => he.below hb)
  simp only [codeOk, Bool.and_eq_true, decide_eq_true_eq] at h
  obtain ⟨⟨⟨hr, hok⟩, hbl⟩, hbh⟩ := h
  have hn : roomI n = n ∧ 1 ≤ n ∧ n ≤ 64 := by unfold roomI at hr ⊢; split at hr <;> simp_all
  have HR := Lib.hid hn.1
  have hn1 := hn.2.1
  have hn2 := hn.2.2
  have hn0 : (n == 0) = false := by simp; omega
  have hb0 : decide (base < 0) = false := by simp; omega
  have hb1 : ¬ 256 - n < base := by omega
  clear hr hn hpr he
  obtain ⟨ka, kb, kx, g, hkv⟩ := kindV_form2 op (ofB_op hok)
  have HO := Lib.hid hok
  have HKV := Lib.hid (show (if ofB n op a b x y then kindV op.toNat else kindV 0) = .agg #[.bool ka, .bool kb, .bool kx, .func (Fn.func g) #[] #[], .func (Fn.func (progFn op.toNat)) #[] #[]] by rw [hok]; exact hkv)
  clear hok hkv
  unfold deedV
  go_enter Tryz.func17, Tryz.ntmps17
  go_upto_region 4 with (first
      | (go_at_call 21; go_must (refine (of_any n op a b x y _).mono ?_; rintro e w2 ⟨rfl, hb2⟩; rw [HKV.out, HO.out]))
      | (go_at_call 13; go_must (refine (Room_any n _).mono ?_; rintro e w3 ⟨rfl, rfl⟩; rw [HR.out])))
  refine wp_gen (fun W => W.heap[w.heap.size]? = some (.cells #[.int .i64 op, .int .i64 a, .int .i64 b, .int .i64 x, .int .i64 y] 25) ∧ W.heap[w2.heap.size]? = some (.cells #[.bool ka, .bool kb, .bool kx, .func (Fn.func g) #[] #[], .func (Fn.func (progFn op.toNat)) #[] #[]] 51) ∧ Below w.heap.size w W) ⟨?_, heap_new _ _ _ rfl, ?_⟩ ?_
  · exact (Below.heap_alloc _ _ _ (by have := hb2.size; simp at this; omega)).trans ((hb2.block _ (by simp)).trans (heap_new _ _ _ rfl))
  · have hb0 : Below w.heap.size w (w.alloc (.cells #[.int .i64 op, .int .i64 a, .int .i64 b, .int .i64 x, .int .i64 y] 25)) := (Below.refl _ _).alloc (Nat.le_refl _) _
    exact (hb0.trans (hb2.mono (by simp))).alloc (by have := hb2.size; simp at this; omega) _
  rintro W ⟨q0, q1, hB⟩
  have c0 : W.cell? ⟨w.heap.size, 0, none⟩ = some (.int .i64 op) := cell_of_row _ _ 0 _ _ _ q0
  have c1 : W.cell? ⟨w.heap.size, 1, none⟩ = some (.int .i64 a) := cell_of_row _ _ 1 _ _ _ q0
  have c2 : W.cell? ⟨w.heap.size, 2, none⟩ = some (.int .i64 b) := cell_of_row _ _ 2 _ _ _ q0
  have c3 : W.cell? ⟨w.heap.size, 3, none⟩ = some (.int .i64 x) := cell_of_row _ _ 3 _ _ _ q0
  have c4 : W.cell? ⟨w.heap.size, 4, none⟩ = some (.int .i64 y) := cell_of_row _ _ 4 _ _ _ q0
  have k4 : W.cell? ⟨w2.heap.size, 4, none⟩ = some (.func (Fn.func (progFn op.toNat)) #[] #[]) := cell_of_row _ _ 4 _ _ _ q1
  have ent := prog_enters op.toNat
  have HPW := Lib.hid (HP.out W (HE.out W hB))
  unfold deedV at HPW
  go_wp2_with (go_at_fn (progFn op.toNat); go_must (refine HPW.out.mono ?_; rintro e w4 ⟨v, rfl, ho, hb4⟩))
  go_ret2
  unfold CodeDoes
  rw [HD.out, if_pos rfl]
  exact ⟨v, rfl, own_lower ho hB.size, hB.trans (hb4.mono hB.size)⟩
theorem Code_any (base n op a b x y : Int) (w : World) (he : Env w) (hbase : base ≤ 9223372036854775807) : Calls Tryz.prog 17 #[.int .i64 base, .int .i64 n, deedV op a b x y] w (CodeDoes base n op a b x y w) := by
  by_cases hr0 : roomI n = 0
  · exact Code_noroom base n op a b x y w hr0
  have hn : roomI n = n ∧ 1 ≤ n ∧ n ≤ 64 := by unfold roomI at hr0 ⊢; split at hr0 <;> simp_all
  cases hok : ofB n op a b x y with
  | false => exact Code_notok base n op a b x y w hok hn.2.1 hn.1
  | true =>
    by_cases h0 : base < 0
    · exact Code_low base n op a b x y w hok hn.2.1 hn.2.2 hn.1 h0
    by_cases h1 : 256 < base + n
    · exact Code_high base n op a b x y w hok hn.2.1 hn.2.2 hn.1 h1 (by omega) hbase
    · exact Code_yes base n op a b x y w he (by simp [codeOk, hok, hr0]; omega)
end Go.Proofs.YtcobmefgefkdmaaGreatDoor
