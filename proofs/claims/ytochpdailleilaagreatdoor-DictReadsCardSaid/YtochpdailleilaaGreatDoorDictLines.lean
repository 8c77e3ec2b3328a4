/-
  quash/dict.lines: what it answers for a text of ASCII whose marks are as many as the numbers. Condition: the library's variables (Env).
-/
import Derived.Test.YtochpdailleilaaGreatDoorText
import Derived.Test.YtochpdailleilaaGreatDoorBuilder
namespace Go.Proofs.YtochpdailleilaaGreatDoor
open Go.RowKit Go.Maps Go.WideMaps
set_option maxRecDepth 100000

/-- what a call of lines answers -/
def LinesDoes (t : List UInt8) (w : World) (e : Ending) (w' : World) : Prop :=
  match parseL t with
  | .error (er, _ln) => e = .returned (.tuple #[.slice none 0 0, .int .i64 er]) ∧ Below w.heap.size w w'
  | .ok l => ∃ v, e = .returned (.tuple #[v, .int .i64 0]) ∧ w'.ownsRow w.heap.size 77 2 v l.length (instrCells l) ∧ Below w.heap.size w w'

theorem builderAt_below {T e : TypeId} {B b : Nat} {p : Value} {bs : List Value} {w w' : World} (h : Lib.BuilderAt T e B b p bs w) (hb : Below w.heap.size w w') : Lib.BuilderAt T e B b p bs w' := by
  obtain ⟨hB, v, hbk, hown, hne⟩ := h
  exact ⟨hB, v, (hb.block _ (lt_of_block hbk)).trans hbk, ownsRow_at hown (fun g hg => by obtain ⟨_, hc⟩ := own_block hown hg; exact hb.block _ (lt_of_block hc)), hne⟩
theorem isBuilder_below {T e : TypeId} {B b : Nat} {bs : List Value} {w w' : World} (h : Lib.IsBuilder T e B b bs w) (hb : Below w.heap.size w w') : Lib.IsBuilder T e B b bs w' :=
  h.elim (fun h => Or.inl (builderAt_below h hb)) (fun h => Or.inr (builderAt_below h hb))

set_option maxHeartbeats 800000 in
theorem lines_any (text : List UInt8) (ns : List Int) (nb C : Nat) (w : World) (he : Env w) (hC : ns.length ≤ C) (hC63 : C ≤ 9223372036854775807) (hs : text.length ≤ 60000)
    (hns : ns.length + 1 = (linesL 35 text).length) (h0 : (linesL 35 text).getD 0 [] ≠ []) (hnb : nb < w.heap.size) (hcs : ∀ j, j < ns.length → w.cell? ⟨nb, j, none⟩ = some (.int .i64 (ns.getD j 0)))
    (hr : ∀ j, -9223372036854775808 ≤ ns.getD j 0 ∧ ns.getD j 0 ≤ 9223372036854775807) (hlen : (joinL text ns).length ≤ 60000) (ha : Asc (joinL text ns)) :
    Calls Tryz.prog 39 #[.string (S text), .slice (some ⟨nb, 0, none⟩) ns.length C] w (LinesDoes (joinL text ns) w) := by
  have heS : Env (w.alloc (.cells #[.pointer none, .slice none 0 0] 98)) := he.below ((Below.refl _ _).alloc (Nat.le_refl _) _)
  have HE := Lib.hid heS
  have HEN := Lib.hid (fun W (hb : Below w.heap.size w W) => he.below hb)
  have HB0 := Lib.hid ((Lib.fresh_isBuilder 98 5 w).elim (fun h => (Or.inl h : Lib.IsBuilder 98 5 w.heap.size w.heap.size [] _)) Or.inr)
  clear heS he
  go_enter Tryz.func39, Tryz.ntmps39
  go_wp2_with (first | (go_at_call 49; refine (Split_any text 35 _ (by omega) HE.out).mono ?_; rintro e w1 ⟨rfl, rfl⟩))
  obtain ⟨P, hP⟩ : ∃ P, P = linesL 35 text := ⟨_, rfl⟩
  have hPn := (linesL_len 35 text).1
  have hj : joinL text ns = outL P ns P.length := by rw [hP]; rfl
  rw [← hP] at hns h0 hPn
  rw [hj] at hlen ha
  rw [hj]
  rw [← hP]
  have HJ := Lib.hid hj
  clear hP hj
  have hst : (∀ xs : Array Value, Lib.IsBuilder 98 5 w.heap.size w.heap.size (Lib.byteCells []) ((w.alloc (.cells #[.pointer none, .slice none 0 0] 98)).alloc (.cells xs 9)) ∧ Below w.heap.size w ((w.alloc (.cells #[.pointer none, .slice none 0 0] 98)).alloc (.cells xs 9)) ∧
      ((w.alloc (.cells #[.pointer none, .slice none 0 0] 98)).alloc (.cells xs 9)).heap[w.heap.size + 1]? = some (.cells xs 9)) := fun xs => by
    refine ⟨?_, ((Below.refl _ _).alloc (Nat.le_refl _) _).alloc (by simp) _, heap_new _ _ _ (by simp)⟩
    exact isBuilder_below (Lib.fresh_isBuilder 98 5 w) ((Below.refl _ _).alloc (Nat.le_refl _) _)
  refine wp_gen (fun W => Lib.IsBuilder 98 5 w.heap.size w.heap.size (Lib.byteCells []) W ∧ Below w.heap.size w W ∧ W.heap[w.heap.size + 1]? = some (.cells (P.map fun x => Value.string (S x)).toArray 9)) (hst _) ?_
  rintro W1 ⟨hIs, hBs, hss⟩
  clear hst HB0 HE
  go_loopw [1, 15] (fun u v wr => ∃ (k : Nat) (ao : Option Addr), k ≤ P.length ∧ v = .int .i64 k ∧ u = .slice ao (ns.length - (k - 1)) (C - (k - 1)) ∧ (k - 1 < ns.length → ao = some ⟨nb, k - 1, none⟩) ∧ Lib.IsBuilder 98 5 w.heap.size w.heap.size (Lib.byteCells (outL P ns k)) wr ∧ Below w.heap.size w wr ∧
    wr.heap[w.heap.size + 1]? = some (.cells (P.map fun x => Value.string (S x)).toArray 9)) (fun _ v _ => P.length - (intOf v).toNat)
  case atStart => exact ⟨0, _, Nat.zero_le _, rfl, rfl, fun _ => rfl, hIs, hBs, hss⟩
  case round =>
    obtain ⟨k, ao, hk, rfl, rfl, hao, hI, hB, hstr⟩ := hrel
    clear hIs hBs hss
    by_cases hlt : k < P.length
    · have hlk : wr.cell? ⟨w.heap.size+1, k, none⟩ = some (.string (S P[k])) := by simp [World.cell?, hstr, hlt]
      have hlen1 := outL_mono (P := P) (ns := ns) (show k + 1 ≤ P.length by omega)
      have hstep := outL_step (P := P) (ns := ns) k
      have hgd : P.getD k [] = P[k] := by rw [List.getD_eq_getElem?_getD, List.getElem?_eq_getElem hlt]; rfl
      rw [hgd] at hstep
      have hlen2 : (outL P ns k).length + ((if k = 0 then [] else Lib.itoa (ns.getD (k - 1) 0)) ++ P[k]).length ≤ 60000 := by rw [hstep, List.length_append] at hlen1; omega
      have HSTEP := Lib.hid hstep
      have HSTR := Lib.hid hstr
      have hbl : (Lib.byteCells (outL P ns k)).length = (outL P ns k).length := Lib.byteCells_length _
      clear hstep hgd hlen1 hstr
      cases k with
      | zero =>
        have hBk : w.heap.size ≤ wr.heap.size := hB.size
        simp only [if_true, List.nil_append] at hlen2
        go_wp2_with (first
          | (go_at_call 50; go_must (refine (Tryz.Builder_Len w.heap.size w.heap.size _ _ hI).mono ?_; rintro e w2 ⟨rfl, rfl⟩))
          | (go_at_call 51; go_must (refine (WriteString_any w.heap.size w.heap.size _ (S P[0]) _ hI (by rw [hbl, S_size]; omega) hBk).mono ?_; rintro e w3 ⟨rfl, hI3, hB3, hz3, hk3⟩)))
        go_roundw
        case rel =>
          refine ⟨1, ao, by omega, by go_num, rfl, hao, ?_, hB.trans hB3, ?_⟩
          · have e := HSTEP.out
            simp only [if_true, List.nil_append] at e
            rw [e, show Lib.byteCells (outL P ns 0 ++ P[0]) = Lib.byteCells (outL P ns 0) ++ Lib.strCells (S P[0]) by rw [Lib.strCells_eq, S_data]; simp [Lib.byteCells]]
            exact hI3
          · exact (hk3 _ _ _ HSTR.out (by decide) (by decide)).trans HSTR.out
        case measure => simp [intOf]; omega
      | succ j =>
        obtain rfl := hao (by omega)
        clear hao
        have hpos : 0 < (outL P ns (j + 1)).length := List.length_pos_iff.2 (outL_pos h0 j)
        have hBk : w.heap.size ≤ wr.heap.size := hB.size
        have hcj : wr.cell? ⟨nb, j, none⟩ = some (.int .i64 (ns.getD j 0)) := (hB.cell (p := ⟨nb, j, none⟩) hnb).trans (hcs j (by omega))
        have hrj := hr j
        have hle : (Lib.itoa (ns.getD j 0)).length + P[j + 1].length + (outL P ns (j + 1)).length ≤ 60000 := by
          have h := hlen2
          rw [if_neg (Nat.succ_ne_zero j), List.length_append, show j + 1 - 1 = j from rfl] at h
          omega
        have HLE := Lib.hid hle
        clear hlen2 hle
        go_wp2_with (first
          | (go_at_call 50; go_must (refine (Tryz.Builder_Len w.heap.size w.heap.size _ _ hI).mono ?_; rintro e w2 ⟨rfl, rfl⟩))
          | (go_at_call 52; go_must (refine (FormatInt_any _ _ hrj.1 hrj.2 (HEN.out _ hB)).mono ?_; rintro e w3 ⟨rfl, hb3⟩; have hI3 := isBuilder_below hI hb3; have hB3 := hB.trans (hb3.mono hBk)))
          | (go_at_call 51; (refine (WriteString_any w.heap.size w.heap.size _ (S P[j + 1]) _ hI4 (by rw [List.length_append, hbl, Lib.strCells_length, S_size, S_size]; have := HLE.out; omega) (hB3.trans hB4).size).mono ?_; rintro e w5 ⟨rfl, hI5, hB5, hz5, hk5⟩))
          | (go_at_call 51; go_must (refine (WriteString_any w.heap.size w.heap.size _ (S (Lib.itoa (ns.getD j 0))) _ hI3 (by rw [hbl, S_size]; have := HLE.out; omega) hB3.size).mono ?_; rintro e w4 ⟨rfl, hI4, hB4, hz4, hk4⟩)))
        refine ⟨⟨j + 1 + 1, _, by omega, by go_num, rfl, fun h => ?_, ?_, (hB3.trans hB4).trans hB5, ?_⟩, ?_⟩
        · rw [if_neg (by omega)]; rfl
        · have e := HSTEP.out
          rw [if_neg (Nat.succ_ne_zero j), show j + 1 - 1 = j from rfl] at e
          rw [e, show ∀ a b c : List UInt8, Lib.byteCells (a ++ (b ++ c)) = Lib.byteCells a ++ Lib.strCells (S b) ++ Lib.strCells (S c) from fun a b c => by rw [Lib.strCells_eq, Lib.strCells_eq, S_data, S_data]; simp [Lib.byteCells]]
          exact hI5
        · have q1 := (hb3.block _ (lt_of_block HSTR.out)).trans HSTR.out
          have q2 := (hk4 _ _ _ q1 (by decide) (by decide)).trans q1
          exact (hk5 _ _ _ q2 (by decide) (by decide)).trans q2
        · simp [intOf]; omega
    · obtain rfl : k = P.length := by omega
      have HA := Lib.hid ha
      clear ha
      cases hp : parseL (outL P ns P.length) with
      | error x =>
        obtain ⟨er, ln⟩ := x
        have HP := Lib.hid hp
        clear hp
        go_wp2_with (first
          | (go_at_call 54; go_must (refine (Tryz.Builder_String_any w.heap.size w.heap.size (outL P ns P.length) _ hI hB.size).mono ?_; rintro e w3 ⟨rfl, hb3⟩; have hB3 := hB.trans hb3))
          | (go_at_call 53; go_must (refine (Parse_any (outL P ns P.length) _ HA.out (HEN.out _ hB3)).mono ?_; rintro e w4 hd; unfold ParseDoes at hd; rw [HP.out] at hd; obtain ⟨rfl, hb4⟩ := hd)))
        go_ret2
        unfold LinesDoes
        rw [HJ.out, HP.out]
        exact ⟨rfl, hB3.trans (hb4.mono hB3.size)⟩
      | ok l =>
        have HP := Lib.hid hp
        clear hp
        go_wp2_with (first
          | (go_at_call 54; go_must (refine (Tryz.Builder_String_any w.heap.size w.heap.size (outL P ns P.length) _ hI hB.size).mono ?_; rintro e w3 ⟨rfl, hb3⟩; have hB3 := hB.trans hb3))
          | (go_at_call 53; go_must (refine (Parse_any (outL P ns P.length) _ HA.out (HEN.out _ hB3)).mono ?_; rintro e w4 hd; unfold ParseDoes at hd; rw [HP.out] at hd; obtain ⟨v, rfl, ho, hb4⟩ := hd)))
        go_ret2
        unfold LinesDoes
        rw [HJ.out, HP.out]
        exact ⟨v, rfl, own_lower ho hB3.size, hB3.trans (hb4.mono hB3.size)⟩
end Go.Proofs.YtochpdailleilaaGreatDoor
