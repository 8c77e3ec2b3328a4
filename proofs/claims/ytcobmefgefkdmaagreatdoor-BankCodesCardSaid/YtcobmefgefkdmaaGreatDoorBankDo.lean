/-
  quash/bank.Do: every call. Condition: at most 100000 balances.
-/
import Derived.Test.YtcobmefgefkdmaaGreatDoorBankDeeds
namespace Go.Proofs.YtcobmefgefkdmaaGreatDoor
open Go.RowKit
set_option maxRecDepth 100000

/-- what a deed makes of the balances, and tells -/
def deedS (zs : List Int) (op a b x : Int) : List Int × Int :=
  let z := zs.getD a.toNat 0
  if op = 1 then (zs.set a.toNat (wrap64 (z + x)), wrap64 (z + x))
  else if op = 2 then (takeZ zs a.toNat z x, takeR z x)
  else if op = 3 then (moveZ zs a.toNat b.toNat z x, takeR z x)
  else if op = 4 then (zs, z)
  else (zs, sumZ zs 0)
def doOk (zs : List Int) (n op a b x y : Int) : Bool := decide (roomI n ≠ 0) && decide ((zs.length : Int) = n) && ofB n op a b x y
def doFn : Nat → Nat
  | 1 => 30
  | 2 => 33
  | 3 => 35
  | 4 => 37
  | _ => 39
theorem kindV_form (op : Int) (h : 1 ≤ op ∧ op ≤ 5) : ∃ ka kb kx g, kindV op.toNat = .agg #[.bool ka, .bool kb, .bool kx, .func (Fn.func (doFn op.toNat)) #[] #[], .func (Fn.func g) #[] #[]] := by
  obtain h | h | h | h | h : op = 1 ∨ op = 2 ∨ op = 3 ∨ op = 4 ∨ op = 5 := by omega
  all_goals subst h; exact ⟨_, _, _, _, rfl⟩
def DoDoes (zs : List Int) (n op a b x y : Int) (w : World) (e : Ending) (w' : World) : Prop :=
  if doOk zs n op a b x y then
    ∃ g cap h, e = .returned (.tuple #[balV g cap (deedS zs op a b x).1, .slice (some ⟨h, 0, none⟩) 1 1, .int .i64 0]) ∧ Bal w' w.heap.size g cap (deedS zs op a b x).1 ∧ w'.heap[h]? = some (.cells #[.int .i64 (deedS zs op a b x).2] 2) ∧ h ≠ g ∧ w.heap.size ≤ h ∧ Below w.heap.size w w'
  else e = .returned (.tuple #[.slice none 0 0, .slice none 0 0, .int .i64 170]) ∧ Below w.heap.size w w'
theorem ofB_op {n op a b x y : Int} (h : ofB n op a b x y = true) : 1 ≤ op ∧ op ≤ 5 := by
  simp only [ofB, Bool.and_eq_true, decide_eq_true_eq] at h
  exact ⟨h.1.1.1.1.1.1.1, h.1.1.1.1.1.1.2⟩
theorem deedS_length (zs : List Int) (op a b x : Int) : (deedS zs op a b x).1.length = zs.length := by
  unfold deedS takeZ moveZ
  simp only
  repeat' split
  all_goals simp
theorem deed_enters (k : Nat) : ∀ args w, (callFunc (doFn k) args).run Tryz.prog w = .ok (.enter (doFn k) args) w := by
  unfold doFn
  split
  · exact enters_of Tryz.func30 (by kernel_rfl) rfl
  · exact enters_of Tryz.func33 (by kernel_rfl) rfl
  · exact enters_of Tryz.func35 (by kernel_rfl) rfl
  · exact enters_of Tryz.func37 (by kernel_rfl) rfl
  · exact enters_of Tryz.func39 (by kernel_rfl) rfl
theorem deed_any {w : World} {B g cap : Nat} {zs : List Int} (h : Bal w B g cap zs) (op a b x y n : Int) (hl : (zs.length : Int) = n) (hlen : zs.length ≤ 100000) (ho : ofB n op a b x y = true) :
    Calls Tryz.prog (doFn op.toNat) #[balV g cap zs, deedV op a b x y] w (DeedDoes B g cap (deedS zs op a b x).1 (deedS zs op a b x).2 w) := by
  have hop := ofB_op ho
  simp only [ofB, Bool.and_eq_true, decide_eq_true_eq] at ho
  obtain ⟨⟨⟨⟨⟨_, hr1⟩, hr2⟩, _⟩, _⟩, _⟩ := ho
  obtain e | e | e | e | e : op = 1 ∨ op = 2 ∨ op = 3 ∨ op = 4 ∨ op = 5 := by omega
  · subst e
    have ha : 0 ≤ a ∧ a < n := by simpa [kA, rightB] using hr1
    obtain ⟨k, rfl⟩ : ∃ k : Nat, a = k := ⟨a.toNat, by omega⟩
    have hz : zs[k]? = some (zs.getD k 0) := by rw [List.getD_eq_getElem?_getD, List.getElem?_eq_getElem (by omega)]; rfl
    exact pay_any h k hz 1 b x y
  · subst e
    have ha : 0 ≤ a ∧ a < n := by simpa [kA, rightB] using hr1
    obtain ⟨k, rfl⟩ : ∃ k : Nat, a = k := ⟨a.toNat, by omega⟩
    have hz : zs[k]? = some (zs.getD k 0) := by rw [List.getD_eq_getElem?_getD, List.getElem?_eq_getElem (by omega)]; rfl
    exact take_any h k hz 2 b x y
  · subst e
    have ha : 0 ≤ a ∧ a < n := by simpa [kA, rightB] using hr1
    have hb : 0 ≤ b ∧ b < n := by simpa [kB, rightB] using hr2
    obtain ⟨k, rfl⟩ : ∃ k : Nat, a = k := ⟨a.toNat, by omega⟩
    obtain ⟨m, rfl⟩ : ∃ k : Nat, b = k := ⟨b.toNat, by omega⟩
    have hz : zs[k]? = some (zs.getD k 0) := by rw [List.getD_eq_getElem?_getD, List.getElem?_eq_getElem (by omega)]; rfl
    exact move_any h k m hz (by omega) 3 x y
  · subst e
    have ha : 0 ≤ a ∧ a < n := by simpa [kA, rightB] using hr1
    obtain ⟨k, rfl⟩ : ∃ k : Nat, a = k := ⟨a.toNat, by omega⟩
    have hz : zs[k]? = some (zs.getD k 0) := by rw [List.getD_eq_getElem?_getD, List.getElem?_eq_getElem (by omega)]; rfl
    exact see_any h k hz 4 b x y
  · subst e
    exact sum_any h 5 a b x y hlen
theorem Do_any (lb lo c : Nat) (zs : List Int) (n op a b x y : Int) (w : World) (hcap : zs.length ≤ c) (hlb : lb < w.heap.size) (hc : ∀ j, j < zs.length → w.cell? ⟨lb, lo + j, none⟩ = some (.int .i64 (zs.getD j 0))) :
    Calls Tryz.prog 9 #[.slice (some ⟨lb, lo, none⟩) zs.length c, .int .i64 n, deedV op a b x y] w (DoDoes zs n op a b x y w) := by
  have HC := Lib.hid hc
  clear hc
  unfold deedV
  by_cases hr0 : roomI n = 0
  · have HD := Lib.hid (show doOk zs n op a b x y = false by simp [doOk, hr0])
    have HR := Lib.hid hr0
    clear hr0
    cases hok : ofB n op a b x y with
    | false =>
      have HO := Lib.hid hok
      have HKV := Lib.hid (show (if ofB n op a b x y then kindV op.toNat else kindV 0) = .agg #[.bool false, .bool false, .bool false, .nilFunc, .nilFunc] by rw [hok]; rfl)
      clear hok
      go_enter Tryz.func9, Tryz.ntmps9
      go_wp2_with (first
        | (go_at_call 21; go_must (refine (of_any n op a b x y _).mono ?_; rintro e w2 ⟨rfl, hb2⟩; rw [HKV.out, HO.out]))
        | (go_at_call 13; go_must (refine (Room_any n _).mono ?_; rintro e w3 ⟨rfl, rfl⟩; rw [HR.out])))
      go_ret3
      unfold DoDoes
      rw [HD.out]
      refine ⟨rfl, ?_⟩
      have hb0 : Below w.heap.size w (w.alloc (.cells #[.int .i64 op, .int .i64 a, .int .i64 b, .int .i64 x, .int .i64 y] 25)) := (Below.refl _ _).alloc (Nat.le_refl _) _
      have hb3 := hb0.trans (hb2.mono (by simp))
      exact hb3.alloc (by have := hb2.size; simp at this; omega) _
    | true =>
      obtain ⟨ka, kb, kx, g, hkv⟩ := kindV_form op (ofB_op hok)
      have HO := Lib.hid hok
      have HKV := Lib.hid (show (if ofB n op a b x y then kindV op.toNat else kindV 0) = .agg #[.bool ka, .bool kb, .bool kx, .func (Fn.func (doFn op.toNat)) #[] #[], .func (Fn.func g) #[] #[]] by rw [hok]; exact hkv)
      clear hok hkv
      go_enter Tryz.func9, Tryz.ntmps9
      go_wp2_with (first
        | (go_at_call 21; go_must (refine (of_any n op a b x y _).mono ?_; rintro e w2 ⟨rfl, hb2⟩; rw [HKV.out, HO.out]))
        | (go_at_call 13; go_must (refine (Room_any n _).mono ?_; rintro e w3 ⟨rfl, rfl⟩; rw [HR.out])))
      go_ret3
      unfold DoDoes
      rw [HD.out]
      refine ⟨rfl, ?_⟩
      have hb0 : Below w.heap.size w (w.alloc (.cells #[.int .i64 op, .int .i64 a, .int .i64 b, .int .i64 x, .int .i64 y] 25)) := (Below.refl _ _).alloc (Nat.le_refl _) _
      have hb3 := hb0.trans (hb2.mono (by simp))
      exact hb3.alloc (by have := hb2.size; simp at this; omega) _
  have hn : roomI n = n ∧ 1 ≤ n ∧ n ≤ 64 := by unfold roomI at hr0 ⊢; split at hr0 <;> simp_all
  have HR := Lib.hid hn.1
  have hn1 := hn.2.1
  clear hr0
  by_cases hl : (zs.length : Int) = n
  case neg =>
    have HD := Lib.hid (show doOk zs n op a b x y = false by simp [doOk, hl])
    have hlb2 : ((zs.length : Int) != n) = true := by simpa using hl
    clear hn
    cases hok : ofB n op a b x y with
    | false =>
      have HO := Lib.hid hok
      have HKV := Lib.hid (show (if ofB n op a b x y then kindV op.toNat else kindV 0) = .agg #[.bool false, .bool false, .bool false, .nilFunc, .nilFunc] by rw [hok]; rfl)
      clear hok
      go_enter Tryz.func9, Tryz.ntmps9
      go_wp2_with (first
        | (go_at_call 21; go_must (refine (of_any n op a b x y _).mono ?_; rintro e w2 ⟨rfl, hb2⟩; rw [HKV.out, HO.out]))
        | (go_at_call 13; go_must (refine (Room_any n _).mono ?_; rintro e w3 ⟨rfl, rfl⟩; rw [HR.out])))
      go_ret3
      unfold DoDoes
      rw [HD.out]
      refine ⟨rfl, ?_⟩
      have hb0 : Below w.heap.size w (w.alloc (.cells #[.int .i64 op, .int .i64 a, .int .i64 b, .int .i64 x, .int .i64 y] 25)) := (Below.refl _ _).alloc (Nat.le_refl _) _
      have hb3 := hb0.trans (hb2.mono (by simp))
      exact hb3.alloc (by have := hb2.size; simp at this; omega) _
    | true =>
      obtain ⟨ka, kb, kx, g, hkv⟩ := kindV_form op (ofB_op hok)
      have HO := Lib.hid hok
      have HKV := Lib.hid (show (if ofB n op a b x y then kindV op.toNat else kindV 0) = .agg #[.bool ka, .bool kb, .bool kx, .func (Fn.func (doFn op.toNat)) #[] #[], .func (Fn.func g) #[] #[]] by rw [hok]; exact hkv)
      clear hok hkv
      go_enter Tryz.func9, Tryz.ntmps9
      go_wp2_with (first
        | (go_at_call 21; go_must (refine (of_any n op a b x y _).mono ?_; rintro e w2 ⟨rfl, hb2⟩; rw [HKV.out, HO.out]))
        | (go_at_call 13; go_must (refine (Room_any n _).mono ?_; rintro e w3 ⟨rfl, rfl⟩; rw [HR.out])))
      go_ret3
      unfold DoDoes
      rw [HD.out]
      refine ⟨rfl, ?_⟩
      have hb0 : Below w.heap.size w (w.alloc (.cells #[.int .i64 op, .int .i64 a, .int .i64 b, .int .i64 x, .int .i64 y] 25)) := (Below.refl _ _).alloc (Nat.le_refl _) _
      have hb3 := hb0.trans (hb2.mono (by simp))
      exact hb3.alloc (by have := hb2.size; simp at this; omega) _
  cases hok : ofB n op a b x y with
  | false =>
    have HD := Lib.hid (show doOk zs n op a b x y = false by simp [doOk, hok])
    have HO := Lib.hid hok
    have HKV := Lib.hid (show (if ofB n op a b x y then kindV op.toNat else kindV 0) = .agg #[.bool false, .bool false, .bool false, .nilFunc, .nilFunc] by rw [hok]; rfl)
    clear hok hn
    go_enter Tryz.func9, Tryz.ntmps9
    go_wp2_with (first
      | (go_at_call 21; go_must (refine (of_any n op a b x y _).mono ?_; rintro e w2 ⟨rfl, hb2⟩; rw [HKV.out, HO.out]))
      | (go_at_call 13; go_must (refine (Room_any n _).mono ?_; rintro e w3 ⟨rfl, rfl⟩; rw [HR.out])))
    go_ret3
    unfold DoDoes
    rw [HD.out]
    refine ⟨rfl, ?_⟩
    have hb0 : Below w.heap.size w (w.alloc (.cells #[.int .i64 op, .int .i64 a, .int .i64 b, .int .i64 x, .int .i64 y] 25)) := (Below.refl _ _).alloc (Nat.le_refl _) _
    have hb3 := hb0.trans (hb2.mono (by simp))
    exact hb3.alloc (by have := hb2.size; simp at this; omega) _
  | true =>
    have hlen : zs.length ≤ 100000 := by omega
    obtain ⟨ka, kb, kx, g, hkv⟩ := kindV_form op (ofB_op hok)
    have HD := Lib.hid (show doOk zs n op a b x y = true by simp [doOk, hok, hl, hn.1]; omega)
    have HO := Lib.hid hok
    have HKV := Lib.hid (show (if ofB n op a b x y then kindV op.toNat else kindV 0) = .agg #[.bool ka, .bool kb, .bool kx, .func (Fn.func (doFn op.toNat)) #[] #[], .func (Fn.func g) #[] #[]] by rw [hok]; exact hkv)
    clear hok hkv hn
    go_enter Tryz.func9, Tryz.ntmps9
    go_upto_region 4 with (first
      | (go_at_call 21; go_must (refine (of_any n op a b x y _).mono ?_; rintro e w2 ⟨rfl, hb2⟩; rw [HKV.out, HO.out]))
      | (go_at_call 13; go_must (refine (Room_any n _).mono ?_; rintro e w3 ⟨rfl, rfl⟩; rw [HR.out])))
    refine wp_gen (fun W => W.heap[w.heap.size]? = some (.cells #[.int .i64 op, .int .i64 a, .int .i64 b, .int .i64 x, .int .i64 y] 25) ∧ W.heap[w2.heap.size]? = some (.cells #[.bool ka, .bool kb, .bool kx, .func (Fn.func (doFn op.toNat)) #[] #[], .func (Fn.func g) #[] #[]] 51) ∧ Below w.heap.size w W) ⟨?_, heap_new _ _ _ rfl, ?_⟩ ?_
    · exact (Below.heap_alloc _ _ _ (by have := hb2.size; simp at this; omega)).trans ((hb2.block _ (by simp)).trans (heap_new _ _ _ rfl))
    · have hb0 : Below w.heap.size w (w.alloc (.cells #[.int .i64 op, .int .i64 a, .int .i64 b, .int .i64 x, .int .i64 y] 25)) := (Below.refl _ _).alloc (Nat.le_refl _) _
      exact (hb0.trans (hb2.mono (by simp))).alloc (by have := hb2.size; simp at this; omega) _
    rintro W ⟨q0, q1, hB⟩
    have hcl := Clone64_any lb lo c zs W hlen hcap (fun j hj => (hB.cell (p := ⟨lb, lo + j, none⟩) hlb).trans (HC.out j hj))
    have HCL := Lib.hid hcl
    clear hcl
    have hwz := lt_of_block q0
    have hwz2 := lt_of_block q1
    have hzz : w.heap.size ≤ W.heap.size := hB.size
    go_upto_region 5 with (first
      | (go_at_call 22; go_must (refine HCL.out.mono ?_; rintro e w3 ⟨v', rfl, ho3, hb3⟩))
    )
    obtain ⟨g3, cap3, rfl⟩ := Joins.ownsRow_form ho3 (by omega)
    have hbal : Bal w3 W.heap.size g3 cap3 zs := ho3
    have hdd := deed_any hbal op a b x y n hl hlen HO.out
    have HDD := Lib.hid hdd
    clear hdd ho3
    have p0 := (hb3.block _ hwz).trans q0
    have p1 := (hb3.block _ hwz2).trans q1
    have c0 : w3.cell? ⟨w.heap.size, 0, none⟩ = some (.int .i64 op) := cell_of_row _ _ 0 _ _ _ p0
    have c1 : w3.cell? ⟨w.heap.size, 1, none⟩ = some (.int .i64 a) := cell_of_row _ _ 1 _ _ _ p0
    have c2 : w3.cell? ⟨w.heap.size, 2, none⟩ = some (.int .i64 b) := cell_of_row _ _ 2 _ _ _ p0
    have c3 : w3.cell? ⟨w.heap.size, 3, none⟩ = some (.int .i64 x) := cell_of_row _ _ 3 _ _ _ p0
    have c4 : w3.cell? ⟨w.heap.size, 4, none⟩ = some (.int .i64 y) := cell_of_row _ _ 4 _ _ _ p0
    have k3 : w3.cell? ⟨w2.heap.size, 3, none⟩ = some (.func (Fn.func (doFn op.toNat)) #[] #[]) := cell_of_row _ _ 3 _ _ _ p1
    have ent := deed_enters op.toNat
    unfold deedV balV at HDD
    go_wp2_with (go_at_fn (doFn op.toNat); go_must (refine HDD.out.mono ?_; rintro e w4 ⟨rfl, hb4, hB4, hz4, hk4⟩))
    have hb4l : Bal w4 w.heap.size g3 cap3 (deedS zs op a b x).1 := own_lower hb4 hzz
    go_ret3
    unfold DoDoes
    rw [HD.out]
    rw [if_pos rfl]
    have hln := deedS_length zs op a b x
    have hB5 : Below w.heap.size w w4 := (hB.trans (hb3.mono hzz)).trans (hB4.mono hzz)
    refine ⟨g3, cap3, w4.heap.size, ?_, hb4l.below ((Below.refl _ _).alloc (Nat.le_refl _) _), heap_new _ _ _ rfl, by have := hb4.lt.1; omega, hB5.size, hB5.alloc hB5.size _⟩
    unfold balV
    rw [hln]
    rfl
end Go.Proofs.YtcobmefgefkdmaaGreatDoor
