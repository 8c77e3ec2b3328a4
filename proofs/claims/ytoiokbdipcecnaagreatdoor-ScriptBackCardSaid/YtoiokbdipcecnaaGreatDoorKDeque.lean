/-
  quash/deque.Code: every call. Condition: the library's variables (Env).
-/
import Derived.Test.YtoiokbdipcecnaaGreatDoorText
import Derived.Test.YtoiokbdipcecnaaGreatDoorBuilderB
import Derived.Test.YtoiokbdipcecnaaGreatDoorSees
import Derived.Test.YtoiokbdipcecnaaGreatDoorCodeInstrs
import Derived.Lib.SliceRun
import Derived.Laws.OwnMore
import Derived.Laws.AppendOwnNone
import Derived.StillTailTactics
import Derived.Laws.CopyOwn
import Derived.Lib.Overlaps
import Derived.Laws.Externs
import Derived.Lib.AppendZeros
import Derived.Lib.AppendZerosOnto
import Derived.Laws.NewBlocks
import Derived.Lib.RowBridge
import Derived.Shelf.Spec.SlicesInsertGrow
import Derived.Deep.RegionLaw
import Derived.Deep.DeepCutAuto
import Derived.Maps.AppendAt
import Derived.BigQuiet
namespace Go.Proofs.YtoiokbdipcecnaaGreatDoor.Kq
open Go.RowKit
set_option maxRecDepth 100000

theorem info64 : (Tryz.prog.info? 2).map (fun i => (i.zero, i.size, i.bytes)) = some (some (.int .i64 0), 1, 8) := by kernel_rfl
def i64s (zs : List Int) : List Value := zs.map (Value.int .i64)
theorem i64s_at (zs : List Int) (k : Nat) {z : Int} (h : zs[k]? = some z) : (i64s zs)[k]? = some (.int .i64 z) := by
  simp [i64s, h]
theorem i64s_app (a b : List Int) : i64s (a ++ b) = i64s a ++ i64s b := by simp [i64s]
theorem i64s_one {zs : List Int} : ∀ v ∈ i64s zs, v.oneCell' = true := fun v hv => by obtain ⟨_, _, rfl⟩ := List.mem_map.1 hv; rfl
/-- a row of int64 of the call's own -/
def Own (w : World) (B : Nat) (v : Value) (zs : List Int) : Prop := w.ownsRow B 2 1 v zs.length (i64s zs)
/-- .. at an address -/
def Bal (w : World) (B g cap : Nat) (zs : List Int) : Prop := w.ownsRow B 2 1 (.slice (some ⟨g, 0, none⟩) zs.length cap) zs.length (i64s zs)
section
variable {w : World} {B g cap : Nat} {zs : List Int} {v : Value}
theorem Own.form (h : Own w B v zs) : (v = .slice none 0 0 ∧ zs = []) ∨ ∃ g cap, v = .slice (some ⟨g, 0, none⟩) zs.length cap ∧ Bal w B g cap zs := by
  have h0 := h
  obtain ⟨_, h1 | ⟨g, cap, cur, hv, _⟩⟩ := h0
  · exact Or.inl ⟨h1.1, List.eq_nil_of_length_eq_zero h1.2⟩
  · subst hv
    exact Or.inr ⟨g, cap, rfl, h⟩
theorem Own.below {w' : World} (h : Own w B v zs) (hb : Below w.heap.size w w') : Own w' B v zs :=
  ownsRow_at h (fun g hg => by obtain ⟨_, hc⟩ := own_block h hg; exact hb.block _ (lt_of_block hc))
theorem Bal.lt (h : Bal w B g cap zs) : g < w.heap.size ∧ B ≤ g := by
  obtain ⟨cur, hc⟩ := own_block h rfl
  exact ⟨lt_of_block hc, own_ge h rfl⟩
theorem Bal.caps (h : Bal w B g cap zs) : zs.length ≤ cap ∧ cap ≤ maxLen := by
  obtain ⟨_, h | ⟨_, _, _, hv, _, _, h1, h2, _⟩⟩ := h
  · cases h.1
  · injection hv with _ _ h3; subst h3; exact ⟨h1, h2⟩
theorem Bal.block (h : Bal w B g cap zs) : ∃ cur, w.heap[g]? = some (.cells cur 2) ∧ cur.size = cap ∧ cur.toList.take zs.length = i64s zs := by
  obtain ⟨_, h | ⟨_, _, cur, hv, _, hb, _, _, h3, h4⟩⟩ := h
  · cases h.1
  · injection hv with h1 _ h2
    injection h1 with h1
    injection h1 with h1
    subst h1; subst h2
    exact ⟨cur, hb, by simpa using h3, by simpa using h4⟩
theorem Bal.cell (h : Bal w B g cap zs) (k : Nat) {z : Int} (hk : zs[k]? = some z) : w.cell? ⟨g, k, none⟩ = some (.int .i64 z) :=
  (h.cellAt k (by have := (List.getElem?_eq_some_iff.1 hk).1; omega)).trans (i64s_at zs k hk)
theorem Bal.below {w' : World} (h : Bal w B g cap zs) (hb : Below w.heap.size w w') : Bal w' B g cap zs := Own.below (v := .slice (some ⟨g, 0, none⟩) zs.length cap) h hb
theorem Bal.of_block {cur : Array Value} (hg : B ≤ g) (hb : w.heap[g]? = some (.cells cur 2)) (hc : cur.size = cap) (hl : zs.length ≤ cap) (hm : cap ≤ maxLen) (ht : cur.toList.take zs.length = i64s zs) : Bal w B g cap zs :=
  ⟨by simp [i64s], .inr ⟨g, cap, cur, rfl, hg, hb, hl, hm, by simpa using hc, by simpa using ht⟩⟩
/-- a shorter slice of the same row -/
theorem Bal.take (h : Bal w B g cap zs) (k : Nat) (hk : k ≤ zs.length) : Bal w B g cap (zs.take k) := by
  obtain ⟨cur, hb, hs, ht⟩ := h.block
  refine Bal.of_block h.lt.2 hb hs (by have := h.caps.1; simp; omega) h.caps.2 ?_
  have hl : (zs.take k).length = k := by rw [List.length_take]; omega
  rw [hl, show cur.toList.take k = (cur.toList.take zs.length).take k by rw [List.take_take, Nat.min_eq_left hk], ht]
  simp [i64s, List.map_take]
end
/-- append of a slice that reads as a list, onto a row of int64 of the call's own -/
theorem wpList_append64 {w : World} {B : Nat} {v : Value} {xs : List Int} (hown : Own w B v xs) (hB : B ≤ w.heap.size) (ao : Option Addr) (n c : Nat) (zs : List Int) (hz : zs.length = n) (hs : Sees w ao zs) (hn : ao = none → c = 0) (hb : (xs.length + zs.length) * 8 ≤ 140737488355328)
    {ops : Array Oper} {Q : Exit → Act → World → Prop} {a : Act} {rest : List Oper} {o : Oper} (hgd : o.guard = none) (s x : Operand) (hop : o.op = Op.call { callee := Callee.builtin Builtin.append, args := #[s, x], argTypes := #[25, 25] })
    (ev : a.eval s = v) (hx : a.eval x = .slice ao n c)
    (hK : ∀ v' w', Own w' B v' (xs ++ zs) → w.grownBy w' v.ownBlock → wpList Tryz.prog ops Q rest (a.put o.dst v') w') : wpList Tryz.prog ops Q (o :: rest) a w := by
  subst hz
  obtain ⟨i0, hi, hz0, hz1, hz2⟩ := info_parts info64
  cases ao with
  | none =>
    obtain rfl := hn rfl
    have hz : zs = [] := by
      obtain ⟨b, o, h1, _⟩ := hs
      by_cases e : zs = []
      · exact e
      · exact absurd (h1 e) (by simp)
    subst hz
    refine wpList_append_own_none hgd s x _ hop B 2 i0 1 Tryz.underlying25 hi v _ _ ev hown hx (hK v w (by simpa using hown) (World.grownBy.refl w _))
  | some ad =>
    have hnews : ∀ j u, (i64s zs)[j]? = some u → w.cell? (ad.add j) = some u := hs.news
    exact wpList_append_own _ hgd s x 25 hop B 2 i0 (.int .i64 0) 1 8 Tryz.underlying25 hi hz0 hz1 hz2 rfl (by decide) v xs.length (i64s xs) ev hown ad zs.length c (i64s zs) hx (by simp [i64s]) hnews i64s_one (by unfold maxLen; omega) hb hB
      (fun v' w' h1 h2 _ => hK v' w' (by unfold Own; rw [List.length_append, i64s_app]; exact h1) h2)
def roomI (n : Int) : Int := if 1 ≤ n ∧ n ≤ 100 then 2 + n else 0
theorem roomI_yes {n : Int} (h : roomI n ≠ 0) : roomI n = 2 + n ∧ 1 ≤ n ∧ n ≤ 100 := by
  unfold roomI at h ⊢
  split at h <;> simp_all
theorem Room_any (n : Int) (w : World) : Calls Tryz.prog 108 #[.int .i64 n] w fun e w' => e = .returned (.int .i64 (roomI n)) ∧ w' = w := by
  by_cases h1 : n < 1
  · have hr : roomI n = 0 := by simp [roomI]; omega
    rw [hr]
    go_enter Tryz.func108, Tryz.ntmps108
    go_wp2
    go_ret
    exact ⟨rfl, rfl⟩
  · by_cases h2 : 100 < n
    · have hr : roomI n = 0 := by simp [roomI]; omega
      rw [hr]
      go_enter Tryz.func108, Tryz.ntmps108
      go_wp2
      go_ret
      exact ⟨rfl, rfl⟩
    · have hr : roomI n = 2 + n := by simp [roomI]; omega
      rw [hr]
      go_enter Tryz.func108, Tryz.ntmps108
      go_wp2
      go_ret
      exact ⟨rfl, rfl⟩
theorem ret_bool {a b : Bool} (h : a = b) : Ending.returned (.bool a) = .returned (.bool b) := by rw [h]
/-- may a deed be? -/
def mayD (op a b x y : Int) : Bool := decide (1 ≤ op) && decide (op ≤ 5) && decide (a = 0) && decide (b = 0) && decide (y = 0) && (decide (op ≤ 2) || decide (x = 0))
set_option maxHeartbeats 4000000 in
theorem mayD_any (op a b x y : Int) (w : World) : Calls Tryz.prog 109 #[.agg #[.int .i64 op, .int .i64 a, .int .i64 b, .int .i64 x, .int .i64 y]] w fun e w' => e = .returned (.bool (mayD op a b x y)) ∧ Below w.heap.size w w' := by
  obtain ho | ho | ho | ho | ho | ho | ho : op = 1 ∨ op = 2 ∨ op = 3 ∨ op = 4 ∨ op = 5 ∨ op < 1 ∨ 5 < op := by omega
  case inr.inr.inr.inr.inr.inl =>
    have e : mayD op a b x y = false := by simp [mayD]; omega
    rw [e]
    clear e
    have h1 : (op == 1) = false := by simp; omega
    have h2 : (op == 2) = false := by simp; omega
    go_enter Tryz.func109, Tryz.ntmps109
    go_wp2
    go_ret
    exact ⟨rfl, (Below.refl _ _).alloc (Nat.le_refl _) _⟩
  case inr.inr.inr.inr.inr.inr =>
    have e : mayD op a b x y = false := by simp [mayD]; omega
    rw [e]
    clear e
    have h1 : (op == 1) = false := by simp; omega
    have h2 : (op == 2) = false := by simp; omega
    go_enter Tryz.func109, Tryz.ntmps109
    go_wp2
    go_ret
    exact ⟨rfl, (Below.refl _ _).alloc (Nat.le_refl _) _⟩
  all_goals
    subst ho
    go_enter Tryz.func109, Tryz.ntmps109
    go_wp2
    all_goals
      go_ret
      exact ⟨ret_bool (by simp [mayD, *] <;> first | omega | (rw [Bool.eq_iff_iff]; simp; omega) | (rw [Bool.eq_iff_iff]; simp) | trace_state), (Below.refl _ _).alloc (Nat.le_refl _) _⟩
/-- what a call of lines answers -/
def LinesDoes (t : List UInt8) (w : World) (e : Ending) (w' : World) : Prop :=
  match parseL t with
  | .error (er, _ln) => e = .returned (.tuple #[.slice none 0 0, .int .i64 er]) ∧ Below w.heap.size w w'
  | .ok l => ∃ v, e = .returned (.tuple #[v, .int .i64 0]) ∧ w'.ownsRow w.heap.size 82 2 v l.length (instrCells l) ∧ Below w.heap.size w w'
theorem builderAt_below {T e : TypeId} {B b : Nat} {p : Value} {bs : List Value} {w w' : World} (h : Lib.BuilderAt T e B b p bs w) (hb : Below w.heap.size w w') : Lib.BuilderAt T e B b p bs w' := by
  obtain ⟨hB, v, hbk, hown, hne⟩ := h
  exact ⟨hB, v, (hb.block _ (lt_of_block hbk)).trans hbk, ownsRow_at hown (fun g hg => by obtain ⟨_, hc⟩ := own_block hown hg; exact hb.block _ (lt_of_block hc)), hne⟩
theorem isBuilder_below {T e : TypeId} {B b : Nat} {bs : List Value} {w w' : World} (h : Lib.IsBuilder T e B b bs w) (hb : Below w.heap.size w w') : Lib.IsBuilder T e B b bs w' :=
  h.elim (fun h => Or.inl (builderAt_below h hb)) (fun h => Or.inr (builderAt_below h hb))
set_option maxHeartbeats 800000 in
theorem lines_any (text : List UInt8) (ns : List Int) (nb C : Nat) (w : World) (he : Env w) (hC : ns.length ≤ C) (hC63 : C ≤ 9223372036854775807) (hs : text.length ≤ 60000)
    (hns : ns.length + 1 = (linesL 35 text).length) (h0 : (linesL 35 text).getD 0 [] ≠ []) (hnb : nb < w.heap.size) (hcs : ∀ j, j < ns.length → w.cell? ⟨nb, j, none⟩ = some (.int .i64 (ns.getD j 0)))
    (hr : ∀ j, -9223372036854775808 ≤ ns.getD j 0 ∧ ns.getD j 0 ≤ 9223372036854775807) (hlen : (joinL text ns).length ≤ 60000) (ha : Asc (joinL text ns)) :
    Calls Tryz.prog 111 #[.string (S text), .slice (some ⟨nb, 0, none⟩) ns.length C] w (LinesDoes (joinL text ns) w) := by
  have heS : Env (w.alloc (.cells #[.pointer none, .slice none 0 0] 52)) := he.below ((Below.refl _ _).alloc (Nat.le_refl _) _)
  have HE := Lib.hid heS
  have HEN := Lib.hid (fun W (hb : Below w.heap.size w W) => he.below hb)
  have HB0 := Lib.hid ((Lib.fresh_isBuilder 52 5 w).elim (fun h => (Or.inl h : Lib.IsBuilder 52 5 w.heap.size w.heap.size [] _)) Or.inr)
  clear heS he
  go_enter Tryz.func111, Tryz.ntmps111
  go_wp2_with (first | (go_at_call 47; refine (Split_any text 35 _ (by omega) HE.out).mono ?_; rintro e w1 ⟨rfl, rfl⟩))
  obtain ⟨P, hP⟩ : ∃ P, P = linesL 35 text := ⟨_, rfl⟩
  have hPn := (linesL_len 35 text).1
  have hj : joinL text ns = outL P ns P.length := by rw [hP]; rfl
  rw [← hP] at hns h0 hPn
  rw [hj] at hlen ha
  rw [hj]
  rw [← hP]
  have HJ := Lib.hid hj
  clear hP hj
  have hst : (∀ xs : Array Value, Lib.IsBuilder 52 5 w.heap.size w.heap.size (Lib.byteCells []) ((w.alloc (.cells #[.pointer none, .slice none 0 0] 52)).alloc (.cells xs 9)) ∧ Below w.heap.size w ((w.alloc (.cells #[.pointer none, .slice none 0 0] 52)).alloc (.cells xs 9)) ∧
      ((w.alloc (.cells #[.pointer none, .slice none 0 0] 52)).alloc (.cells xs 9)).heap[w.heap.size + 1]? = some (.cells xs 9)) := fun xs => by
    refine ⟨?_, ((Below.refl _ _).alloc (Nat.le_refl _) _).alloc (by simp) _, heap_new _ _ _ (by simp)⟩
    exact isBuilder_below (Lib.fresh_isBuilder 52 5 w) ((Below.refl _ _).alloc (Nat.le_refl _) _)
  refine wp_gen (fun W => Lib.IsBuilder 52 5 w.heap.size w.heap.size (Lib.byteCells []) W ∧ Below w.heap.size w W ∧ W.heap[w.heap.size + 1]? = some (.cells (P.map fun x => Value.string (S x)).toArray 9)) (hst _) ?_
  rintro W1 ⟨hIs, hBs, hss⟩
  clear hst HB0 HE
  go_loopw [1, 15] (fun u v wr => ∃ (k : Nat) (ao : Option Addr), k ≤ P.length ∧ v = .int .i64 k ∧ u = .slice ao (ns.length - (k - 1)) (C - (k - 1)) ∧ (k - 1 < ns.length → ao = some ⟨nb, k - 1, none⟩) ∧ Lib.IsBuilder 52 5 w.heap.size w.heap.size (Lib.byteCells (outL P ns k)) wr ∧ Below w.heap.size w wr ∧
    wr.heap[w.heap.size + 1]? = some (.cells (P.map fun x => Value.string (S x)).toArray 9)) (fun _ v _ => P.length - (intOf v).toNat)
  case atStart => exact ⟨0, _, Nat.zero_le _, rfl, rfl, fun _ => rfl, hIs, hBs, hss⟩
  case round =>
    obtain ⟨k, ao, hk, rfl, rfl, hao, hI, hB, hstr⟩ := hrel
    clear hIs hBs hss
    by_cases hlt : k < P.length
    · have hlk : wr.cell? ⟨w.heap.size+1, k, none⟩ = some (.string (S P[k])) := by simp [World.cell?, hstr, hlt]
      have hlen1 := outL_mono (P := P) (ns := ns) (show k + 1 ≤ P.length by omega)
      have hstep := outL_step (P := P) (ns := ns) k
      have hgd : P.getD k [] = P[k] := by rw [List.getD_eq_getElem?_getD, List.getElem?_eq_getElem hlt]; rfl
      rw [hgd] at hstep
      have hlen2 : (outL P ns k).length + ((if k = 0 then [] else Lib.itoa (ns.getD (k - 1) 0)) ++ P[k]).length ≤ 60000 := by rw [hstep, List.length_append] at hlen1; omega
      have HSTEP := Lib.hid hstep
      have HSTR := Lib.hid hstr
      have hbl : (Lib.byteCells (outL P ns k)).length = (outL P ns k).length := Lib.byteCells_length _
      clear hstep hgd hlen1 hstr
      cases k with
      | zero =>
        have hBk : w.heap.size ≤ wr.heap.size := hB.size
        simp only [if_true, List.nil_append] at hlen2
        go_wp2_with (first
          | (go_at_call 23; go_must (refine (Tryz.Builder_Len w.heap.size w.heap.size _ _ hI).mono ?_; rintro e w2 ⟨rfl, rfl⟩))
          | (go_at_call 19; go_must (refine (WriteString_any w.heap.size w.heap.size _ (S P[0]) _ hI (by rw [hbl, S_size]; omega) hBk).mono ?_; rintro e w3 ⟨rfl, hI3, hB3, hz3, hk3⟩)))
        go_roundw
        case rel =>
          refine ⟨1, ao, by omega, by go_num, rfl, hao, ?_, hB.trans hB3, ?_⟩
          · have e := HSTEP.out
            simp only [if_true, List.nil_append] at e
            rw [e, show Lib.byteCells (outL P ns 0 ++ P[0]) = Lib.byteCells (outL P ns 0) ++ Lib.strCells (S P[0]) by rw [Lib.strCells_eq, S_data]; simp [Lib.byteCells]]
            exact hI3
          · exact (hk3 _ _ _ HSTR.out (by decide) (by decide)).trans HSTR.out
        case measure => simp [intOf]; omega
      | succ j =>
        obtain rfl := hao (by omega)
        clear hao
        have hpos : 0 < (outL P ns (j + 1)).length := List.length_pos_iff.2 (outL_pos h0 j)
        have hBk : w.heap.size ≤ wr.heap.size := hB.size
        have hcj : wr.cell? ⟨nb, j, none⟩ = some (.int .i64 (ns.getD j 0)) := (hB.cell (p := ⟨nb, j, none⟩) hnb).trans (hcs j (by omega))
        have hrj := hr j
        have hle : (Lib.itoa (ns.getD j 0)).length + P[j + 1].length + (outL P ns (j + 1)).length ≤ 60000 := by
          have h := hlen2
          rw [if_neg (Nat.succ_ne_zero j), List.length_append, show j + 1 - 1 = j from rfl] at h
          omega
        have HLE := Lib.hid hle
        clear hlen2 hle
        go_wp2_with (first
          | (go_at_call 23; go_must (refine (Tryz.Builder_Len w.heap.size w.heap.size _ _ hI).mono ?_; rintro e w2 ⟨rfl, rfl⟩))
          | (go_at_call 40; go_must (refine (FormatInt_any _ _ hrj.1 hrj.2 (HEN.out _ hB)).mono ?_; rintro e w3 ⟨rfl, hb3⟩; have hI3 := isBuilder_below hI hb3; have hB3 := hB.trans (hb3.mono hBk)))
          | (go_at_call 19; (refine (WriteString_any w.heap.size w.heap.size _ (S P[j + 1]) _ hI4 (by rw [List.length_append, hbl, Lib.strCells_length, S_size, S_size]; have := HLE.out; omega) (hB3.trans hB4).size).mono ?_; rintro e w5 ⟨rfl, hI5, hB5, hz5, hk5⟩))
          | (go_at_call 19; go_must (refine (WriteString_any w.heap.size w.heap.size _ (S (Lib.itoa (ns.getD j 0))) _ hI3 (by rw [hbl, S_size]; have := HLE.out; omega) hB3.size).mono ?_; rintro e w4 ⟨rfl, hI4, hB4, hz4, hk4⟩)))
        refine ⟨⟨j + 1 + 1, _, by omega, by go_num, rfl, fun h => ?_, ?_, (hB3.trans hB4).trans hB5, ?_⟩, ?_⟩
        · rw [if_neg (by omega)]; rfl
        · have e := HSTEP.out
          rw [if_neg (Nat.succ_ne_zero j), show j + 1 - 1 = j from rfl] at e
          rw [e, show ∀ a b c : List UInt8, Lib.byteCells (a ++ (b ++ c)) = Lib.byteCells a ++ Lib.strCells (S b) ++ Lib.strCells (S c) from fun a b c => by rw [Lib.strCells_eq, Lib.strCells_eq, S_data, S_data]; simp [Lib.byteCells]]
          exact hI5
        · have q1 := (hb3.block _ (lt_of_block HSTR.out)).trans HSTR.out
          have q2 := (hk4 _ _ _ q1 (by decide) (by decide)).trans q1
          exact (hk5 _ _ _ q2 (by decide) (by decide)).trans q2
        · simp [intOf]; omega
    · obtain rfl : k = P.length := by omega
      have HA := Lib.hid ha
      clear ha
      cases hp : parseL (outL P ns P.length) with
      | error x =>
        obtain ⟨er, ln⟩ := x
        have HP := Lib.hid hp
        clear hp
        go_wp2_with (first
          | (go_at_call 24; go_must (refine (Tryz.Builder_String_any w.heap.size w.heap.size (outL P ns P.length) _ hI hB.size).mono ?_; rintro e w3 ⟨rfl, hb3⟩; have hB3 := hB.trans hb3))
          | (go_at_call 74; go_must (refine (Parse_any (outL P ns P.length) _ HA.out (HEN.out _ hB3)).mono ?_; rintro e w4 hd; unfold ParseDoes at hd; rw [HP.out] at hd; obtain ⟨rfl, hb4⟩ := hd)))
        go_ret2
        unfold LinesDoes
        rw [HJ.out, HP.out]
        exact ⟨rfl, hB3.trans (hb4.mono hB3.size)⟩
      | ok l =>
        have HP := Lib.hid hp
        clear hp
        go_wp2_with (first
          | (go_at_call 24; go_must (refine (Tryz.Builder_String_any w.heap.size w.heap.size (outL P ns P.length) _ hI hB.size).mono ?_; rintro e w3 ⟨rfl, hb3⟩; have hB3 := hB.trans hb3))
          | (go_at_call 74; go_must (refine (Parse_any (outL P ns P.length) _ HA.out (HEN.out _ hB3)).mono ?_; rintro e w4 hd; unfold ParseDoes at hd; rw [HP.out] at hd; obtain ⟨v, rfl, ho, hb4⟩ := hd)))
        go_ret2
        unfold LinesDoes
        rw [HJ.out, HP.out]
        exact ⟨v, rfl, own_lower ho hB3.size, hB3.trans (hb4.mono hB3.size)⟩
def ProgDoes (l : List (Int × Int)) (w : World) (e : Ending) (w' : World) : Prop :=
  ∃ v, e = .returned (.tuple #[v, .int .i64 0]) ∧ w'.ownsRow w.heap.size 82 2 v l.length (instrCells l) ∧ Below w.heap.size w w'
/-- lines at a text and numbers whose reading is known -/
theorem lines_prog (text : List UInt8) (ns : List Int) (prog : List (Int × Int)) (hM : parseM text ns = .ok prog) (hmk : marksB text = true) (hs : decide (text.length ≤ 2000) = true) (ha : ascB text = true)
    (hns : (ns.length + 1 == (linesL 35 text).length) = true) (hn : decide (ns.length ≤ 20) = true) (h0 : ((linesL 35 text).getD 0 []).isEmpty = false) (nb C : Nat) (w : World) (he : Env w) (hC : ns.length ≤ C) (hC63 : C ≤ 9223372036854775807) (hnb : nb < w.heap.size)
    (hcs : ∀ j, j < ns.length → w.cell? ⟨nb, j, none⟩ = some (.int .i64 (ns.getD j 0))) (hr : InR ns) :
    Calls Tryz.prog 111 #[.string (S text), .slice (some ⟨nb, 0, none⟩) ns.length C] w (ProgDoes prog w) := by
  have h1 := of_decide_eq_true hs
  have h2 := eq_of_beq hns
  have h3 := of_decide_eq_true hn
  have hL := linesL_len 35 text
  have hlen : (joinL text ns).length ≤ 60000 := by
    have := outL_length (P := linesL 35 text) (ns := ns) (M := text.length) (fun x hx => (hL.2 x hx).1) hr (linesL 35 text).length
    have h4 : (linesL 35 text).length * (text.length + 21) ≤ 21 * 2021 := Nat.mul_le_mul (by omega) (by omega)
    unfold joinL
    omega
  refine (lines_any text ns nb C w he hC hC63 (by omega) h2 (fun e => ?_) hnb hcs hr hlen ?_).mono fun e w' hd => ?_
  · rw [e] at h0; cases h0
  · exact outL_asc (fun x hx c hc => ascB_asc ha c ((hL.2 x hx).2 c hc)) _
  · unfold LinesDoes at hd
    rw [parse_sub hmk hr (by omega), hM] at hd
    exact hd
theorem inR_nil : InR [] := fun j => by simp
theorem inR_cons {x : Int} {r : List Int} (h1 : -9223372036854775808 ≤ x) (h2 : x ≤ 9223372036854775807) (h : InR r) : InR (x :: r) := fun j => by
  cases j with
  | zero => exact ⟨h1, h2⟩
  | succ j => exact h j
def progT5 : List UInt8 := [98, 101, 103, 105, 110, 10, 112, 117, 115, 104, 32, 35, 10, 108, 111, 97, 100, 10, 116, 101, 108, 108, 10, 99, 111, 109, 109, 105, 116]
def progL5 (base : Int) : List (Int × Int) := [(16, 0), (1, base + 1), (17, 0), (21, 0), (19, 0)]
set_option maxHeartbeats 1000000 in
theorem program5_any (base n x : Int) (w : World) (h1 : 0 ≤ base) (h2 : base ≤ 256) :
    Calls Tryz.prog 110 #[.int .i64 base, .int .i64 n, .agg #[.int .i64 5, .int .i64 0, .int .i64 0, .int .i64 x, .int .i64 0]] w fun e w' => ∃ g, e = .returned (.tuple #[.string (S progT5), .slice (some ⟨g, 0, none⟩) 1 1]) ∧ w'.heap[g]? = some (.cells #[.int .i64 (base + 1)] 2) ∧ Below w.heap.size w w' ∧ w.heap.size ≤ g := by
  go_enter Tryz.func110, Tryz.ntmps110
  go_wp2
  go_ret2
  exact ⟨_, rfl, heap_new _ _ _ (by simp), (((Below.refl _ _).alloc (Nat.le_refl _) _).alloc (by simp) _).alloc (by simp; omega) _, by omega⟩
theorem own_some {w : World} {B : Nat} {v : Value} {zs : List Int} {n : Nat} (h : Own w B v zs) (hl : zs.length = n) (h0 : 0 < n) : ∃ g c, v = .slice (some ⟨g, 0, none⟩) n c ∧ Bal w B g c zs := by
  subst hl
  rcases h.form with ⟨_, rfl⟩ | ⟨g, c, h1, h2⟩
  · simp at h0
  · exact ⟨g, c, h1, h2⟩
theorem own_pair (w : World) (A C : Obj) (y z : Int) : Own (((w.alloc A).alloc (.cells #[.int .i64 y, .int .i64 z] 2)).alloc C) w.heap.size (.slice (some ⟨w.heap.size + 1, 0, none⟩) 2 2) [y, z] := by
  have h : ((w.alloc A).alloc (.cells #[.int .i64 y, .int .i64 z] 2)).heap[w.heap.size + 1]? = some (.cells #[.int .i64 y, .int .i64 z] 2) := heap_new _ _ _ (by simp)
  exact ⟨rfl, .inr ⟨w.heap.size + 1, 2, _, rfl, by omega, (Below.heap_alloc _ _ _ (lt_of_block h)).trans h, Nat.le_refl _, by unfold maxLen; omega, rfl, rfl⟩⟩
theorem size3 (w : World) (A B C : Obj) : w.heap.size ≤ (((w.alloc A).alloc B).alloc C).heap.size := by simp; omega
theorem sees_arr {w : World} {g : Nat} {l : List Int} {t : TypeId} (h : w.heap[g]? = some (.cells (l.map (Value.int .i64)).toArray t)) : Sees w (some ⟨g, 0, none⟩) l := Sees.cells fun j hj => by
  rw [Nat.zero_add, cell_of_row _ _ j _ _ _ h]
  simp [List.getD_eq_getElem?_getD, List.getElem?_eq_getElem hj]
def progT1 : List UInt8 := [98, 101, 103, 105, 110, 10, 112, 117, 115, 104, 32, 35, 10, 108, 111, 97, 100, 10, 115, 101, 116, 32, 48, 10, 112, 117, 115, 104, 32, 35, 10, 108, 111, 97, 100, 10, 115, 101, 116, 32, 49, 10, 103, 101, 116, 32, 49, 10, 112, 117, 115, 104, 32, 35, 10, 108, 101, 115, 115, 10, 122, 101, 114, 111, 32, 110, 111, 110, 101, 10, 103, 101, 116, 32, 48, 10, 103, 101, 116, 32, 49, 10, 97, 100, 100, 10, 112, 117, 115, 104, 32, 35, 10, 109, 111, 100, 10, 112, 117, 115, 104, 32, 35, 10, 97, 100, 100, 10, 112, 117, 115, 104, 32, 35, 10, 115, 116, 111, 114, 101, 10, 112, 117, 115, 104, 32, 35, 10, 103, 101, 116, 32, 49, 10, 112, 117, 115, 104, 32, 49, 10, 97, 100, 100, 10, 115, 116, 111, 114, 101, 10, 112, 117, 115, 104, 32, 49, 10, 116, 101, 108, 108, 10, 106, 117, 109, 112, 32, 111, 117, 116, 10, 110, 111, 110, 101, 58, 10, 112, 117, 115, 104, 32, 48, 10, 116, 101, 108, 108, 10, 111, 117, 116, 58, 10, 99, 111, 109, 109, 105, 116]
def progN1 (base n x : Int) : List Int := [base, base + 1, n, n, base + 2, x, base + 1]
set_option maxHeartbeats 2000000 in
theorem program1_any (base n x : Int) (w : World) (h1 : 0 ≤ base) (h2 : base ≤ 256) :
    Calls Tryz.prog 110 #[.int .i64 base, .int .i64 n, .agg #[.int .i64 1, .int .i64 0, .int .i64 0, .int .i64 x, .int .i64 0]] w fun e w' => ∃ g c, e = .returned (.tuple #[.string (S progT1), .slice (some ⟨g, 0, none⟩) 7 c]) ∧ Bal w' w.heap.size g c (progN1 base n x) ∧ Below w.heap.size w w' := by
  go_enter Tryz.func110, Tryz.ntmps110
  go_wp2_with (at_builtin; go_must (refine wpList_append64 (B := w.heap.size) (v := .slice (some ⟨w.heap.size + 1, 0, none⟩) 2 2) (xs := [base, base + 1]) (by exact own_pair _ _ _ _ _) (by exact size3 _ _ _ _) (some ⟨w.heap.size + 1 + 1, 0, none⟩) 5 5 (progN1 base n x).tail.tail rfl (by exact sees_arr (heap_new _ _ _ (by simp))) (fun h => by cases h) (by show (2 + _) * 8 ≤ _; simp [progN1]) rfl _ _ rfl rfl rfl ?_; intro v1 w1 ho1 hg1))
  go_ret2
  obtain ⟨g, c, rfl, hb⟩ := own_some ho1 (show _ = 7 from rfl) (by decide)
  exact ⟨g, c, rfl, hb, ((((Below.refl _ _).alloc (Nat.le_refl _) _).alloc (by simp) _).alloc (by simp; omega) _).grown hg1 (size3 _ _ _ _) (fun k e => by cases e; show w.heap.size ≤ w.heap.size + 1; omega)⟩
def progT2 : List UInt8 := [98, 101, 103, 105, 110, 10, 112, 117, 115, 104, 32, 35, 10, 108, 111, 97, 100, 10, 115, 101, 116, 32, 48, 10, 112, 117, 115, 104, 32, 35, 10, 108, 111, 97, 100, 10, 115, 101, 116, 32, 49, 10, 103, 101, 116, 32, 49, 10, 112, 117, 115, 104, 32, 35, 10, 108, 101, 115, 115, 10, 122, 101, 114, 111, 32, 110, 111, 110, 101, 10, 103, 101, 116, 32, 48, 10, 112, 117, 115, 104, 32, 49, 10, 115, 117, 98, 10, 112, 117, 115, 104, 32, 35, 10, 109, 111, 100, 10, 115, 101, 116, 32, 48, 10, 112, 117, 115, 104, 32, 35, 10, 103, 101, 116, 32, 48, 10, 115, 116, 111, 114, 101, 10, 103, 101, 116, 32, 48, 10, 112, 117, 115, 104, 32, 35, 10, 97, 100, 100, 10, 112, 117, 115, 104, 32, 35, 10, 115, 116, 111, 114, 101, 10, 112, 117, 115, 104, 32, 35, 10, 103, 101, 116, 32, 49, 10, 112, 117, 115, 104, 32, 49, 10, 97, 100, 100, 10, 115, 116, 111, 114, 101, 10, 112, 117, 115, 104, 32, 49, 10, 116, 101, 108, 108, 10, 106, 117, 109, 112, 32, 111, 117, 116, 10, 110, 111, 110, 101, 58, 10, 112, 117, 115, 104, 32, 48, 10, 116, 101, 108, 108, 10, 111, 117, 116, 58, 10, 99, 111, 109, 109, 105, 116]
def progN2 (base n x : Int) : List Int := [base, base + 1, n, n, base, base + 2, x, base + 1]
set_option maxHeartbeats 2000000 in
theorem program2_any (base n x : Int) (w : World) (h1 : 0 ≤ base) (h2 : base ≤ 256) :
    Calls Tryz.prog 110 #[.int .i64 base, .int .i64 n, .agg #[.int .i64 2, .int .i64 0, .int .i64 0, .int .i64 x, .int .i64 0]] w fun e w' => ∃ g c, e = .returned (.tuple #[.string (S progT2), .slice (some ⟨g, 0, none⟩) 8 c]) ∧ Bal w' w.heap.size g c (progN2 base n x) ∧ Below w.heap.size w w' := by
  go_enter Tryz.func110, Tryz.ntmps110
  go_wp2_with (at_builtin; go_must (refine wpList_append64 (B := w.heap.size) (v := .slice (some ⟨w.heap.size + 1, 0, none⟩) 2 2) (xs := [base, base + 1]) (by exact own_pair _ _ _ _ _) (by exact size3 _ _ _ _) (some ⟨w.heap.size + 1 + 1, 0, none⟩) 6 6 (progN2 base n x).tail.tail rfl (by exact sees_arr (heap_new _ _ _ (by simp))) (fun h => by cases h) (by show (2 + _) * 8 ≤ _; simp [progN2]) rfl _ _ rfl rfl rfl ?_; intro v1 w1 ho1 hg1))
  go_ret2
  obtain ⟨g, c, rfl, hb⟩ := own_some ho1 (show _ = 8 from rfl) (by decide)
  exact ⟨g, c, rfl, hb, ((((Below.refl _ _).alloc (Nat.le_refl _) _).alloc (by simp) _).alloc (by simp; omega) _).grown hg1 (size3 _ _ _ _) (fun k e => by cases e; show w.heap.size ≤ w.heap.size + 1; omega)⟩
def progT3 : List UInt8 := [98, 101, 103, 105, 110, 10, 112, 117, 115, 104, 32, 35, 10, 108, 111, 97, 100, 10, 115, 101, 116, 32, 48, 10, 112, 117, 115, 104, 32, 35, 10, 108, 111, 97, 100, 10, 115, 101, 116, 32, 49, 10, 103, 101, 116, 32, 49, 10, 122, 101, 114, 111, 32, 110, 111, 110, 101, 10, 103, 101, 116, 32, 49, 10, 112, 117, 115, 104, 32, 49, 10, 115, 117, 98, 10, 115, 101, 116, 32, 49, 10, 112, 117, 115, 104, 32, 35, 10, 103, 101, 116, 32, 49, 10, 115, 116, 111, 114, 101, 10, 112, 117, 115, 104, 32, 49, 10, 116, 101, 108, 108, 10, 103, 101, 116, 32, 48, 10, 103, 101, 116, 32, 49, 10, 97, 100, 100, 10, 112, 117, 115, 104, 32, 35, 10, 109, 111, 100, 10, 112, 117, 115, 104, 32, 35, 10, 97, 100, 100, 10, 108, 111, 97, 100, 10, 116, 101, 108, 108, 10, 106, 117, 109, 112, 32, 111, 117, 116, 10, 110, 111, 110, 101, 58, 10, 112, 117, 115, 104, 32, 48, 10, 116, 101, 108, 108, 10, 111, 117, 116, 58, 10, 99, 111, 109, 109, 105, 116]
def progN3 (base n _x : Int) : List Int := [base, base + 1, base + 1, n, base + 2]
set_option maxHeartbeats 2000000 in
theorem program3_any (base n x : Int) (w : World) (h1 : 0 ≤ base) (h2 : base ≤ 256) :
    Calls Tryz.prog 110 #[.int .i64 base, .int .i64 n, .agg #[.int .i64 3, .int .i64 0, .int .i64 0, .int .i64 x, .int .i64 0]] w fun e w' => ∃ g c, e = .returned (.tuple #[.string (S progT3), .slice (some ⟨g, 0, none⟩) 5 c]) ∧ Bal w' w.heap.size g c (progN3 base n x) ∧ Below w.heap.size w w' := by
  go_enter Tryz.func110, Tryz.ntmps110
  go_wp2_with (at_builtin; go_must (refine wpList_append64 (B := w.heap.size) (v := .slice (some ⟨w.heap.size + 1, 0, none⟩) 2 2) (xs := [base, base + 1]) (by exact own_pair _ _ _ _ _) (by exact size3 _ _ _ _) (some ⟨w.heap.size + 1 + 1, 0, none⟩) 3 3 (progN3 base n x).tail.tail rfl (by exact sees_arr (heap_new _ _ _ (by simp))) (fun h => by cases h) (by show (2 + _) * 8 ≤ _; simp [progN3]) rfl _ _ rfl rfl rfl ?_; intro v1 w1 ho1 hg1))
  go_ret2
  obtain ⟨g, c, rfl, hb⟩ := own_some ho1 (show _ = 5 from rfl) (by decide)
  exact ⟨g, c, rfl, hb, ((((Below.refl _ _).alloc (Nat.le_refl _) _).alloc (by simp) _).alloc (by simp; omega) _).grown hg1 (size3 _ _ _ _) (fun k e => by cases e; show w.heap.size ≤ w.heap.size + 1; omega)⟩
def progT4 : List UInt8 := [98, 101, 103, 105, 110, 10, 112, 117, 115, 104, 32, 35, 10, 108, 111, 97, 100, 10, 115, 101, 116, 32, 48, 10, 112, 117, 115, 104, 32, 35, 10, 108, 111, 97, 100, 10, 115, 101, 116, 32, 49, 10, 103, 101, 116, 32, 49, 10, 122, 101, 114, 111, 32, 110, 111, 110, 101, 10, 112, 117, 115, 104, 32, 35, 10, 103, 101, 116, 32, 49, 10, 112, 117, 115, 104, 32, 49, 10, 115, 117, 98, 10, 115, 116, 111, 114, 101, 10, 112, 117, 115, 104, 32, 49, 10, 116, 101, 108, 108, 10, 103, 101, 116, 32, 48, 10, 112, 117, 115, 104, 32, 35, 10, 97, 100, 100, 10, 108, 111, 97, 100, 10, 116, 101, 108, 108, 10, 112, 117, 115, 104, 32, 35, 10, 103, 101, 116, 32, 48, 10, 112, 117, 115, 104, 32, 49, 10, 97, 100, 100, 10, 112, 117, 115, 104, 32, 35, 10, 109, 111, 100, 10, 115, 116, 111, 114, 101, 10, 106, 117, 109, 112, 32, 111, 117, 116, 10, 110, 111, 110, 101, 58, 10, 112, 117, 115, 104, 32, 48, 10, 116, 101, 108, 108, 10, 111, 117, 116, 58, 10, 99, 111, 109, 109, 105, 116]
def progN4 (base n _x : Int) : List Int := [base, base + 1, base + 1, base + 2, base, n]
set_option maxHeartbeats 2000000 in
theorem program4_any (base n x : Int) (w : World) (h1 : 0 ≤ base) (h2 : base ≤ 256) :
    Calls Tryz.prog 110 #[.int .i64 base, .int .i64 n, .agg #[.int .i64 4, .int .i64 0, .int .i64 0, .int .i64 x, .int .i64 0]] w fun e w' => ∃ g c, e = .returned (.tuple #[.string (S progT4), .slice (some ⟨g, 0, none⟩) 6 c]) ∧ Bal w' w.heap.size g c (progN4 base n x) ∧ Below w.heap.size w w' := by
  go_enter Tryz.func110, Tryz.ntmps110
  go_wp2_with (at_builtin; go_must (refine wpList_append64 (B := w.heap.size) (v := .slice (some ⟨w.heap.size + 1, 0, none⟩) 2 2) (xs := [base, base + 1]) (by exact own_pair _ _ _ _ _) (by exact size3 _ _ _ _) (some ⟨w.heap.size + 1 + 1, 0, none⟩) 4 4 (progN4 base n x).tail.tail rfl (by exact sees_arr (heap_new _ _ _ (by simp))) (fun h => by cases h) (by show (2 + _) * 8 ≤ _; simp [progN4]) rfl _ _ rfl rfl rfl ?_; intro v1 w1 ho1 hg1))
  go_ret2
  obtain ⟨g, c, rfl, hb⟩ := own_some ho1 (show _ = 6 from rfl) (by decide)
  exact ⟨g, c, rfl, hb, ((((Below.refl _ _).alloc (Nat.le_refl _) _).alloc (by simp) _).alloc (by simp; omega) _).grown hg1 (size3 _ _ _ _) (fun k e => by cases e; show w.heap.size ≤ w.heap.size + 1; omega)⟩
def progL1 (base n x : Int) : List (Int × Int) := [(16, 0), (1, base), (17, 0), (6, 0), (1, base + 1), (17, 0), (6, 1), (5, 1), (1, n), (11, 0), (15, 28), (5, 0), (5, 1), (7, 0), (1, n), (10, 0), (1, base + 2), (7, 0), (1, x), (18, 0), (1, base + 1), (5, 1), (1, 1), (7, 0), (18, 0), (1, 1), (21, 0), (14, 30), (1, 0), (21, 0), (19, 0)]
def progL2 (base n x : Int) : List (Int × Int) := [(16, 0), (1, base), (17, 0), (6, 0), (1, base + 1), (17, 0), (6, 1), (5, 1), (1, n), (11, 0), (15, 33), (5, 0), (1, 1), (8, 0), (1, n), (10, 0), (6, 0), (1, base), (5, 0), (18, 0), (5, 0), (1, base + 2), (7, 0), (1, x), (18, 0), (1, base + 1), (5, 1), (1, 1), (7, 0), (18, 0), (1, 1), (21, 0), (14, 35), (1, 0), (21, 0), (19, 0)]
def progL3 (base n _x : Int) : List (Int × Int) := [(16, 0), (1, base), (17, 0), (6, 0), (1, base + 1), (17, 0), (6, 1), (5, 1), (15, 28), (5, 1), (1, 1), (8, 0), (6, 1), (1, base + 1), (5, 1), (18, 0), (1, 1), (21, 0), (5, 0), (5, 1), (7, 0), (1, n), (10, 0), (1, base + 2), (7, 0), (17, 0), (21, 0), (14, 30), (1, 0), (21, 0), (19, 0)]
def progL4 (base n _x : Int) : List (Int × Int) := [(16, 0), (1, base), (17, 0), (6, 0), (1, base + 1), (17, 0), (6, 1), (5, 1), (15, 29), (1, base + 1), (5, 1), (1, 1), (8, 0), (18, 0), (1, 1), (21, 0), (5, 0), (1, base + 2), (7, 0), (17, 0), (21, 0), (1, base), (5, 0), (1, 1), (7, 0), (1, n), (10, 0), (18, 0), (14, 31), (1, 0), (21, 0), (19, 0)]
def progTD : Nat → List UInt8
  | 1 => progT1
  | 2 => progT2
  | 3 => progT3
  | 4 => progT4
  | _ => progT5
def progND (k : Nat) (base n x : Int) : List Int := match k with
  | 1 => progN1 base n x
  | 2 => progN2 base n x
  | 3 => progN3 base n x
  | 4 => progN4 base n x
  | _ => [base + 1]
def progLD (k : Nat) (base n x : Int) : List (Int × Int) := match k with
  | 1 => progL1 base n x
  | 2 => progL2 base n x
  | 3 => progL3 base n x
  | 4 => progL4 base n x
  | _ => progL5 base
def codeOkD (base n op a b x y : Int) : Bool := decide (roomI n ≠ 0) && mayD op a b x y && decide (0 ≤ base) && decide (base + roomI n ≤ 256)
def CodeDoesD (base n op a b x y : Int) (w : World) (e : Ending) (w' : World) : Prop :=
  if codeOkD base n op a b x y then ProgDoes (progLD op.toNat base n x) w e w'
  else e = .returned (.tuple #[.slice none 0 0, .int .i64 200]) ∧ Below w.heap.size w w'
theorem mayD_op {op a b x y : Int} (h : mayD op a b x y = true) : a = 0 ∧ b = 0 ∧ y = 0 ∧ (op = 1 ∨ op = 2 ∨ op = 3 ∧ x = 0 ∨ op = 4 ∧ x = 0 ∨ op = 5 ∧ x = 0) := by
  unfold mayD at h
  simp at h
  omega
theorem program_at (base n op x : Int) (w : World) (h1 : 0 ≤ base) (h2 : base ≤ 256) (ho : op = 1 ∨ op = 2 ∨ op = 3 ∧ x = 0 ∨ op = 4 ∧ x = 0 ∨ op = 5 ∧ x = 0) :
    Calls Tryz.prog 110 #[.int .i64 base, .int .i64 n, .agg #[.int .i64 op, .int .i64 0, .int .i64 0, .int .i64 x, .int .i64 0]] w fun e w' => ∃ g c, e = .returned (.tuple #[.string (S (progTD op.toNat)), .slice (some ⟨g, 0, none⟩) (progND op.toNat base n x).length c]) ∧ Bal w' w.heap.size g c (progND op.toNat base n x) ∧ Below w.heap.size w w' := by
  obtain rfl | rfl | ⟨rfl, rfl⟩ | ⟨rfl, rfl⟩ | ⟨rfl, rfl⟩ := ho
  · exact program1_any base n x w h1 h2
  · exact program2_any base n x w h1 h2
  · exact program3_any base n 0 w h1 h2
  · exact program4_any base n 0 w h1 h2
  · refine (program5_any base n 0 w h1 h2).mono fun e w' => ?_
    rintro ⟨g, he, hg, hb, hge⟩
    exact ⟨g, 1, he, Bal.of_block (zs := [base + 1]) hge hg rfl (Nat.le_refl _) (by unfold maxLen; omega) rfl, hb⟩
theorem lines_at (base n op x : Int) (w : World) (he : Env w) (h1 : 0 ≤ base) (h2 : base ≤ 256) (hn1 : 1 ≤ n) (hn2 : n ≤ 100) (hx1 : -9223372036854775808 ≤ x) (hx2 : x ≤ 9223372036854775807)
    (ho : op = 1 ∨ op = 2 ∨ op = 3 ∧ x = 0 ∨ op = 4 ∧ x = 0 ∨ op = 5 ∧ x = 0) (B g c : Nat) (hb : Bal w B g c (progND op.toNat base n x)) :
    Calls Tryz.prog 111 #[.string (S (progTD op.toNat)), .slice (some ⟨g, 0, none⟩) (progND op.toNat base n x).length c] w (ProgDoes (progLD op.toNat base n x) w) := by
  obtain ⟨hl, hc⟩ := hb.caps
  unfold maxLen at hc
  have hlt := hb.lt.1
  have hcs : ∀ j, j < (progND op.toNat base n x).length → w.cell? ⟨g, j, none⟩ = some (.int .i64 ((progND op.toNat base n x).getD j 0)) := fun j hj => hb.cell j (by rw [List.getD_eq_getElem?_getD, List.getElem?_eq_getElem hj]; rfl)
  obtain rfl | rfl | ⟨rfl, rfl⟩ | ⟨rfl, rfl⟩ | ⟨rfl, rfl⟩ := ho
  · exact lines_prog progT1 (progN1 base n x) (progL1 base n x) (by kernel_rfl) (by kernel_rfl) (by kernel_rfl) (by kernel_rfl) (by kernel_rfl) (by kernel_rfl) (by kernel_rfl) g c w he hl (by omega) hlt hcs (inR_cons (by omega) (by omega) (inR_cons (by omega) (by omega) (inR_cons (by omega) (by omega) (inR_cons (by omega) (by omega) (inR_cons (by omega) (by omega) (inR_cons (by omega) (by omega) (inR_cons (by omega) (by omega) (inR_nil))))))))
  · exact lines_prog progT2 (progN2 base n x) (progL2 base n x) (by kernel_rfl) (by kernel_rfl) (by kernel_rfl) (by kernel_rfl) (by kernel_rfl) (by kernel_rfl) (by kernel_rfl) g c w he hl (by omega) hlt hcs (inR_cons (by omega) (by omega) (inR_cons (by omega) (by omega) (inR_cons (by omega) (by omega) (inR_cons (by omega) (by omega) (inR_cons (by omega) (by omega) (inR_cons (by omega) (by omega) (inR_cons (by omega) (by omega) (inR_cons (by omega) (by omega) (inR_nil)))))))))
  · exact lines_prog progT3 (progN3 base n 0) (progL3 base n 0) (by kernel_rfl) (by kernel_rfl) (by kernel_rfl) (by kernel_rfl) (by kernel_rfl) (by kernel_rfl) (by kernel_rfl) g c w he hl (by omega) hlt hcs (inR_cons (by omega) (by omega) (inR_cons (by omega) (by omega) (inR_cons (by omega) (by omega) (inR_cons (by omega) (by omega) (inR_cons (by omega) (by omega) (inR_nil))))))
  · exact lines_prog progT4 (progN4 base n 0) (progL4 base n 0) (by kernel_rfl) (by kernel_rfl) (by kernel_rfl) (by kernel_rfl) (by kernel_rfl) (by kernel_rfl) (by kernel_rfl) g c w he hl (by omega) hlt hcs (inR_cons (by omega) (by omega) (inR_cons (by omega) (by omega) (inR_cons (by omega) (by omega) (inR_cons (by omega) (by omega) (inR_cons (by omega) (by omega) (inR_cons (by omega) (by omega) (inR_nil)))))))
  · exact lines_prog progT5 ([base + 1]) (progL5 base) (by kernel_rfl) (by kernel_rfl) (by kernel_rfl) (by kernel_rfl) (by kernel_rfl) (by kernel_rfl) (by kernel_rfl) g c w he hl (by omega) hlt hcs (inR_cons (by omega) (by omega) (inR_nil))
set_option maxHeartbeats 1000000 in
theorem Code_yesD (base n op a b x y : Int) (w : World) (he : Env w) (hx1 : -9223372036854775808 ≤ x) (hx2 : x ≤ 9223372036854775807) (h : codeOkD base n op a b x y = true) : Calls Tryz.prog 79 #[.int .i64 base, .int .i64 n, .agg #[.int .i64 op, .int .i64 a, .int .i64 b, .int .i64 x, .int .i64 y]] w (ProgDoes (progLD op.toNat base n x) w) := by
  simp only [codeOkD, Bool.and_eq_true, decide_eq_true_eq] at h
  obtain ⟨⟨⟨hr, hm⟩, hb0⟩, hb1⟩ := h
  obtain ⟨hr2, hn1, hn2⟩ := roomI_yes hr
  obtain ⟨rfl, rfl, rfl, ho⟩ := mayD_op hm
  have HE := Lib.hid (fun W (hb : Below w.heap.size w W) => he.below hb)
  have HPR := fun w' => Lib.hid (program_at base n op x w' hb0 (by omega) ho)
  have HLI := fun w' he' B g c hb => Lib.hid (lines_at base n op x w' he' hb0 (by omega) hn1 hn2 hx1 hx2 ho B g c hb)
  have HR := Lib.hid hr2
  have HM := Lib.hid hm
  have hn0 : (2 + n == 0) = false := by simp; omega
  have g1 : ¬ base < 0 := by omega
  have g2 : ¬ 256 - (2 + n) < base := by omega
  rw [hr2] at hb1
  generalize progTD op.toNat = TX at HPR HLI
  generalize progND op.toNat base n x = NS at HPR HLI
  generalize progLD op.toNat base n x = PR at HLI ⊢
  clear he ho hm hr hr2
  go_enter Tryz.func79, Tryz.ntmps79
  go_wp2_with (first
    | (go_at_call 108; go_must (refine (Room_any n _).mono ?_; rintro e w1 ⟨rfl, rfl⟩; rw [HR.out]))
    | (go_at_call 109; go_must (refine (mayD_any op 0 0 x 0 _).mono ?_; rintro e w2 ⟨rfl, hb2⟩; rw [HM.out]; obtain ⟨hc2, _⟩ := bcell hb2))
    | (go_at_call 110; go_must (refine (HPR _).out.mono ?_; rintro e w3 ⟨g, c, rfl, hg3, hb3⟩))
    | (go_at_call 111; go_must (refine (HLI _ (HE.out _ ((((Below.refl _ _).alloc (Nat.le_refl _) _).trans (hb2.mono (by simp))).trans (hb3.mono (by have := hb2.size; simp at this; omega)))) _ _ _ hg3).out.mono ?_; rintro e w4 ⟨v, rfl, ho4, hb4⟩)))
  go_ret2
  have hB3 : Below w.heap.size w w3 := (((Below.refl _ _).alloc (Nat.le_refl _) _).trans (hb2.mono (by simp))).trans (hb3.mono (by have := hb2.size; simp at this; omega))
  exact ⟨v, rfl, own_lower ho4 hB3.size, hB3.trans (hb4.mono hB3.size)⟩
set_option maxHeartbeats 1000000 in
theorem Code_noD (base n op a b x y : Int) (w : World) (hlim : base ≤ 9223372036854775807) (h : codeOkD base n op a b x y = false) : Calls Tryz.prog 79 #[.int .i64 base, .int .i64 n, .agg #[.int .i64 op, .int .i64 a, .int .i64 b, .int .i64 x, .int .i64 y]] w fun e w' => e = .returned (.tuple #[.slice none 0 0, .int .i64 200]) ∧ Below w.heap.size w w' := by
  by_cases hr : roomI n = 0
  · have HR := Lib.hid hr
    clear h hr
    go_enter Tryz.func79, Tryz.ntmps79
    go_wp2_with (go_at_call 108; go_must (refine (Room_any n _).mono ?_; rintro e w1 ⟨rfl, rfl⟩; rw [HR.out]))
    go_ret2
    exact ⟨rfl, (Below.refl _ _).alloc (Nat.le_refl _) _⟩
  obtain ⟨hr2, hn1, hn2⟩ := roomI_yes hr
  have HR := Lib.hid hr2
  have hn0 : (2 + n == 0) = false := by simp; omega
  cases hm : mayD op a b x y with
  | false =>
    have HM := Lib.hid hm
    clear h hr hr2 hm
    go_enter Tryz.func79, Tryz.ntmps79
    go_wp2_with (first
      | (go_at_call 108; go_must (refine (Room_any n _).mono ?_; rintro e w1 ⟨rfl, rfl⟩; rw [HR.out]))
      | (go_at_call 109; go_must (refine (mayD_any op a b x y _).mono ?_; rintro e w2 ⟨rfl, hb2⟩; rw [HM.out])))
    go_ret2
    exact ⟨rfl, ((Below.refl _ _).alloc (Nat.le_refl _) _).trans (hb2.mono (by simp))⟩
  | true =>
    have HM := Lib.hid hm
    have hbb : base < 0 ∨ 0 ≤ base ∧ 256 - (2 + n) < base := by
      by_cases g : base < 0
      · exact .inl g
      · refine .inr ⟨by omega, ?_⟩
        by_cases g2 : 256 - (2 + n) < base
        · exact g2
        · exfalso
          have : codeOkD base n op a b x y = true := by
            simp only [codeOkD, Bool.and_eq_true, decide_eq_true_eq]
            exact ⟨⟨⟨hr, hm⟩, by omega⟩, by rw [hr2]; omega⟩
          rw [this] at h; cases h
    clear h hr hr2 hm
    rcases hbb with g1 | ⟨g1, g2⟩
    · go_enter Tryz.func79, Tryz.ntmps79
      go_wp2_with (first
        | (go_at_call 108; go_must (refine (Room_any n _).mono ?_; rintro e w1 ⟨rfl, rfl⟩; rw [HR.out]))
        | (go_at_call 109; go_must (refine (mayD_any op a b x y _).mono ?_; rintro e w2 ⟨rfl, hb2⟩; rw [HM.out])))
      go_ret2
      exact ⟨rfl, ((Below.refl _ _).alloc (Nat.le_refl _) _).trans (hb2.mono (by simp))⟩
    · go_enter Tryz.func79, Tryz.ntmps79
      go_wp2_with (first
        | (go_at_call 108; go_must (refine (Room_any n _).mono ?_; rintro e w1 ⟨rfl, rfl⟩; rw [HR.out]))
        | (go_at_call 109; go_must (refine (mayD_any op a b x y _).mono ?_; rintro e w2 ⟨rfl, hb2⟩; rw [HM.out])))
      go_ret2
      exact ⟨rfl, ((Below.refl _ _).alloc (Nat.le_refl _) _).trans (hb2.mono (by simp))⟩
theorem Code_anyD (base n op a b x y : Int) (w : World) (he : Env w) (hlim : base ≤ 9223372036854775807) (hx1 : -9223372036854775808 ≤ x) (hx2 : x ≤ 9223372036854775807) : Calls Tryz.prog 79 #[.int .i64 base, .int .i64 n, .agg #[.int .i64 op, .int .i64 a, .int .i64 b, .int .i64 x, .int .i64 y]] w (CodeDoesD base n op a b x y w) := by
  cases h : codeOkD base n op a b x y with
  | true => exact (Code_yesD base n op a b x y w he hx1 hx2 h).mono fun e w' hd => by unfold CodeDoesD; rw [if_pos h]; exact hd
  | false => exact (Code_noD base n op a b x y w hlim h).mono fun e w' hd => by unfold CodeDoesD; rw [if_neg (by rw [h]; decide)]; exact hd
end Go.Proofs.YtoiokbdipcecnaaGreatDoor.Kq
