/-
  (*reader).places: for every state that a reader comes to: the labels' places put in, or the fault that it panics with. Condition: the reader's place in memory (Rd).
-/
import Derived.Test.YtoiokbdipcecnaaGreatDoorCodeRead4
import Derived.Deep.DeepCutAuto
import Derived.Deep.RegionHeld3
namespace Go.Proofs.YtoiokbdipcecnaaGreatDoor
open Go.RowKit Go.Maps Go.WideMaps
set_option maxRecDepth 100000

def placeOne (labels : List (List UInt8 × Nat)) (named : List (Nat × List UInt8)) (n k : Nat) (x : Int × Int) : Except Int (Int × Int) :=
  match namAt named k with
  | none => if takes x.1 = 3 ∧ (n : Int) < x.2 then .error 152 else .ok x
  | some nm =>
    match labAt labels nm with
    | none => .error 154
    | some p => if takes x.1 = 3 ∧ n < p then .error 152 else .ok (x.1, (p : Int))
def placesN (labels : List (List UInt8 × Nat)) (named : List (Nat × List UInt8)) (lines : List Int) (n : Nat) : Nat → Nat → List (Int × Int) → Except (Int × Int) (List (Int × Int))
  | 0, _, l => .ok l
  | f + 1, k, l =>
    match placeOne labels named n k (l.getD k (0, 0)) with
    | .error e => .error (e, lines.getD k 0)
    | .ok x => placesN labels named lines n f (k + 1) (l.set k x)
def placesS (st : RS) : Except (Int × Int) (List (Int × Int)) := placesN st.labels st.named st.lines st.l.length st.l.length 0 st.l

section
variable {w : World} {B rb lb nb : Nat} {vl vls : Value} {st : RS} {line : Int}
theorem S_of {s : ByteArray} {l : List UInt8} (h : s.data.toList = l) : s = S l := by
  subst h; rfl
theorem Rd.look_named (h : Rd w B rb lb nb vl vls st line) (k : Nat) (hk : k ≤ 400) :
    (Instr.lookup 156 (.map (some nb)) (.int .i64 k) true).run Tryz.prog w = .ok (.tuple #[.string (S ((namAt st.named k).getD [])), .bool (namAt st.named k).isSome]) w := by
  obtain ⟨v, ps, hrun, hR⟩ := h.nam.look_ok intLaw Tryz.underlying156 (zeroStr w) (plainElem_string Tryz.underlying9 (s := .empty) (by decide)) (key := .int .i64 k) (kl := .int .i64 k) (keyOf_int_mk Tryz.underlying3 (WalkArith.wf_i64 (by omega)))
  obtain ⟨s, rfl, hs, _⟩ := plainElem_string_inv Tryz.underlying9 hR
  rw [hrun, (nam_has k st.named).1]
  have e : (namD st.named).atKey (.int .i64 k) (.lit (.string (ByteArray.empty).data.toList)) = .lit (.string ((namAt st.named k).getD [])) := (nam_has k st.named).2
  rw [e] at hs
  rw [S_of (s := s) (l := (namAt st.named k).getD []) (by have h2 := hs.symm; simp at h2; exact h2.1)]
theorem Rd.look_label (h : Rd w B rb lb nb vl vls st line) (n : List UInt8) (hn : n.length ≤ 65536) :
    (Instr.lookup 155 (.map (some lb)) (.string (S n)) true).run Tryz.prog w = .ok (.tuple #[.int .i64 ((labAt st.labels n).getD 0 : Nat), .bool (labAt st.labels n).isSome]) w := by
  obtain ⟨v, ps, hrun, hR⟩ := h.lab.look_ok strLaw Tryz.underlying155 (zeroInt w) (plainElem_int Tryz.underlying3 (a := 0) (by decide)) (key := .string (S n)) (kl := .string n) (keyOf_string_mk (s := S n) Tryz.underlying9 (by unfold maxLen; simp [S, ByteArray.size]; omega))
  obtain ⟨c, rfl, hc, _⟩ := plainElem_int_inv Tryz.underlying3 hR
  rw [hrun, (lab_has n st.labels).1]
  rw [(lab_has n st.labels).2] at hc
  have e : ((labAt st.labels n).getD 0 : Int) = c := by simp at hc; exact hc.1
  rw [← e]
theorem setl {l : List (Int × Int)} {k : Nat} (x : Int × Int) (h : k < l.length) : (instrCells l).set (k*2+1) (.int .i64 x.2) = instrCells (l.set k ((l.getD k (0,0)).1, x.2)) := by
  induction l generalizing k with
  | nil => simp at h
  | cons y l ih =>
    cases k with
    | zero => rfl
    | succ k =>
      have := ih (k := k) (by simpa using h)
      rw [show (k+1)*2+1 = (k*2+1)+1+1 by omega]
      show Value.int .i64 y.1 :: Value.int .i64 y.2 :: (instrCells l).set (k*2+1) (.int .i64 x.2) = _
      rw [this]
      rfl
/-- an operand is written -/
theorem Rd.set_a {g n cap : Nat} (h : Rd w B rb lb nb (.slice (some ⟨g, 0, none⟩) n cap) vls st line) (hn : st.l.length = n) {k : Nat} (hk : k < st.l.length) (a : Int) :
    Rd (w.setCell ⟨g, k*2+1, none⟩ (.int .i64 a)) B rb lb nb (.slice (some ⟨g, 0, none⟩) n cap) vls { st with l := st.l.set k ((st.l.getD k (0,0)).1, a) } line := by
  subst hn
  obtain ⟨ho, hg⟩ := h.own.stored (k*2+1) (.int .i64 a)
  obtain ⟨cur, hc⟩ := own_block h.own (g := g) rfl
  have ne : ∀ x o, w.heap[x]? = some o → (∀ cur : Array Value, o ≠ Obj.cells cur 82) → (w.setCell ⟨g, k*2+1, none⟩ (.int .i64 a)).heap[x]? = w.heap[x]? := fun x o hx hne => by
    refine heap_setCell_other _ _ _ _ (fun e => ?_)
    have e2 : x = g := e
    rw [e2, hc] at hx; injection hx with hx
    exact hne _ hx.symm
  obtain ⟨e1, c1, m1⟩ := map_block h.lab
  obtain ⟨e2, c2, m2⟩ := map_block h.nam
  refine ⟨(ne rb _ h.blk (fun cur e => by injection e with _ e2 _; exact absurd e2 (by decide))).trans h.blk, ?_, ownsRow_at h.ownl (fun x hx => ?_), ownsMap_at h.lab (ne lb _ m1 (fun cur e => by cases e)), ownsMap_at h.nam (ne nb _ m2 (fun cur e => by cases e)), h.ne, h.b1, h.b2, h.b3, by simp; exact h.n1, h.n2, h.n3, h.n4, h.ap⟩
  · have e := setl (l := st.l) (k := k) (0, a) hk
    simp only at e
    rw [e] at ho
    show World.ownsRow _ _ _ _ _ (st.l.set k ((st.l.getD k (0,0)).1, a)).length _
    rw [List.length_set]
    exact ho
  · obtain ⟨cur, hc⟩ := own_block h.ownl hx
    exact ne x _ hc (fun cur e => by injection e with _ e2 _; exact absurd e2 (by decide))
theorem Rd.set_line (h : Rd w B rb lb nb vl vls st line) (n : Int) : Rd (w.setCell ⟨rb, 4, none⟩ (.int .i64 n)) B rb lb nb vl vls st n := by
  have ne : ∀ x o, w.heap[x]? = some o → (∀ cur : Array Value, o ≠ Obj.cells cur 158) → (w.setCell ⟨rb, 4, none⟩ (.int .i64 n)).heap[x]? = w.heap[x]? := fun x o hx hne => by
    refine heap_setCell_other _ _ _ _ (fun e => ?_)
    have e2 : x = rb := e
    rw [e2, h.blk] at hx; injection hx with hx
    exact hne _ hx.symm
  obtain ⟨e1, c1, m1⟩ := map_block h.lab
  obtain ⟨e2, c2, m2⟩ := map_block h.nam
  refine ⟨?_, ownsRow_at h.own (fun x hx => ?_), ownsRow_at h.ownl (fun x hx => ?_), ownsMap_at h.lab (ne lb _ m1 (fun cur e => by cases e)), ownsMap_at h.nam (ne nb _ m2 (fun cur e => by cases e)), h.ne, h.b1, h.b2, h.b3, h.n1, h.n2, h.n3, h.n4, h.ap⟩
  · rw [heap_setCell_same w rb 4 _ _ _ h.blk]; rfl
  · obtain ⟨cur, hc⟩ := own_block h.own hx
    exact ne x _ hc (fun cur e => by injection e with _ e2 _; exact absurd e2 (by decide))
  · obtain ⟨cur, hc⟩ := own_block h.ownl hx
    exact ne x _ hc (fun cur e => by injection e with _ e2 _; exact absurd e2 (by decide))

theorem set_same {l : List (Int × Int)} {k : Nat} {x : Int × Int} (h : l[k]? = some x) : l.set k x = l := by
  obtain ⟨hk, rfl⟩ := List.getElem?_eq_some_iff.1 h
  exact List.set_getElem_self hk
/-- what places comes to -/
def PlacesDoes (w : World) (B rb lb nb : Nat) (vl vls : Value) (st : RS) (r : Except (Int × Int) (List (Int × Int))) (e : Ending) (w' : World) : Prop :=
  match r with
  | .error (er, ln) => e = fault er ln ∧ Below B w w' ∧ w.heap.size ≤ w'.heap.size
  | .ok l => e = .returned (.tuple #[]) ∧ (∃ line', Rd w' B rb lb nb vl vls { st with l := l } line') ∧ Below B w w' ∧ w.heap.size ≤ w'.heap.size

set_option maxHeartbeats 4000000 in
theorem places_any (h : Rd w B rb lb nb vl vls st line) (hok : st.lines.length = st.l.length) (hne : 0 < st.l.length) (hlab : ∀ k nm, namAt st.named k = some nm → nm.length ≤ 65536) :
    Calls Tryz.prog 97 #[.pointer (some ⟨rb, 0, none⟩)] w (PlacesDoes w B rb lb nb vl vls st (placesS st)) := by
  obtain ⟨g, cap, rfl⟩ := Joins.ownsRow_form h.own hne
  obtain ⟨gl, capl, rfl⟩ := Joins.ownsRow_form h.ownl (by omega)
  have hl := h.n1
  obtain ⟨c0, c1, c2, c3, c4⟩ := h.cells
  go_enter Tryz.func97, Tryz.ntmps97
  go_wp2_with fail
  go_loopw [12] (fun v wr => ∃ (k : Nat) (l : List (Int × Int)) (ln : Int), k ≤ st.l.length ∧ v = .int .i64 k ∧ l.length = st.l.length ∧ Rd wr B rb lb nb (.slice (some ⟨g, 0, none⟩) st.l.length cap) (.slice (some ⟨gl, 0, none⟩) st.lines.length capl) { st with l := l } ln ∧
      Below B w wr ∧ w.heap.size ≤ wr.heap.size ∧ placesN st.labels st.named st.lines st.l.length (st.l.length - k) k l = placesS st) (fun v _ => st.l.length - (intOf v).toNat)
  case atStart => exact ⟨0, st.l, line, Nat.zero_le _, rfl, rfl, h, Below.refl _ _, Nat.le_refl _, rfl⟩
  case round =>
    obtain ⟨k, l, ln, hk, rfl, hll, hR, hBW, hzW, hsp⟩ := hrel
    have HS := Lib.hid hsp
    clear hsp c0 c1 c2 c3 c4
    have HL := Lib.hid hll
    by_cases hlt : k < st.l.length
    · obtain ⟨c0, c1, c2, c3, c4⟩ := hR.cells
      obtain ⟨lnk, hlnk⟩ : ∃ lnk, st.lines[k]? = some lnk := ⟨_, List.getElem?_eq_getElem (by omega)⟩
      have l0 := (hR.ownl.cellAt k (by show k < st.lines.length * 1; omega)).trans (show (intCells st.lines)[k]? = some (.int .i64 lnk) by simp [intCells, hlnk])
      obtain ⟨⟨op, a⟩, hxk⟩ : ∃ x, l[k]? = some x := ⟨_, List.getElem?_eq_getElem (by omega)⟩
      have hlines : k < st.lines.length := by omega
      have f4 := hR.frozen 4
      have HX := Lib.hid hxk
      have HN := Lib.hid hlnk
      clear hxk hlnk hok hll
      go_upto_region 4 with fail
      refine wp_gen (fun W => Rd W B rb lb nb (.slice (some ⟨g, 0, none⟩) st.l.length cap) (.slice (some ⟨gl, 0, none⟩) st.lines.length capl) { st with l := l } lnk ∧ Below B w W ∧ w.heap.size ≤ W.heap.size) ⟨hR.set_line lnk, hBW.setCell (p := ⟨rb, 4, none⟩) hR.b1 _, by simp; omega⟩ ?_
      rintro W ⟨hR1, hB1, hz1⟩
      clear c0 c1 c2 c3 c4 l0 f4 hR hBW hzW
      obtain ⟨c0, c1, c2, c3, c4⟩ := hR1.cells
      have hrb := hR1.lt (.inl rfl)
      have hgg : g < W.heap.size := hR1.lt (.inr (.inr (.inr (.inl rfl))))
      obtain ⟨m, hm⟩ : ∃ m, st.l.length - k = m + 1 := ⟨st.l.length - k - 1, by omega⟩
      have hm2 : st.l.length - (k + 1) = m := by omega
      have hgd : l.getD k (0, 0) = (op, a) := by rw [List.getD_eq_getElem?_getD, HX.out]; rfl
      have hld : st.lines.getD k 0 = lnk := by rw [List.getD_eq_getElem?_getD, HN.out]; rfl
      have hstep : placesS st = match placeOne st.labels st.named st.l.length k (op, a) with
          | .error e => .error (e, lnk)
          | .ok x => placesN st.labels st.named st.lines st.l.length m (k + 1) (l.set k x) := by
        rw [← HS.out, hm]; simp only [placesN, hgd, hld]
      have hset : ∀ x, l.length = st.l.length → (l.set k x).length = st.l.length := fun x hx => by simpa using hx
      have HSET := Lib.hid hset
      have HSTEP := Lib.hid hstep
      have HM := Lib.hid hm2
      have HGD := Lib.hid hgd
      clear hm hm2 hgd hld hset hstep
      have ow := hR1.own
      rw [show ({ st with l := l } : RS).l.length = st.l.length from HL.out] at ow
      have x0 := (ow.cellAt (k*2) (by show k*2 < st.l.length * 2; omega)).trans (instrCells_at l k _ HX.out).1
      have x1 := (ow.cellAt (k*2+1) (by show k*2+1 < st.l.length * 2; omega)).trans (instrCells_at l k _ HX.out).2
      have xf := ow.frozenAt (k*2+1)
      clear ow
      cases hn : namAt st.named k with
      | none =>
        have hk1 := hR1.look_named k (by omega)
        rw [hn] at hk1
        have HL2 := HL
        have HX2 := HX
        have HNN := Lib.hid hn
        clear hn
        go_upto_region 10 with fail
        refine wp_gen (fun W2 => Rd W2 B rb lb nb (.slice (some ⟨g, 0, none⟩) st.l.length cap) (.slice (some ⟨gl, 0, none⟩) st.lines.length capl) { st with l := l } lnk ∧ Below B w W2 ∧ w.heap.size ≤ W2.heap.size) ⟨hR1, hB1, hz1⟩ ?_
        rintro W2 ⟨hR2, hB2, hz2⟩
        clear c0 c1 c2 c3 c4 hk1 hR1 hB1 hz1 hrb hgg x0 x1 xf
        obtain ⟨c0, c1, c2, c3, c4⟩ := hR2.cells
        have hrb := hR2.lt (.inl rfl)
        have hgg : g < W2.heap.size := hR2.lt (.inr (.inr (.inr (.inl rfl))))
        have ow := hR2.own
        rw [show ({ st with l := l } : RS).l.length = st.l.length from HL2.out] at ow
        have x0 := (ow.cellAt (k*2) (by show k*2 < st.l.length * 2; omega)).trans (instrCells_at _ k _ HX2.out).1
        have x1 := (ow.cellAt (k*2+1) (by show k*2+1 < st.l.length * 2; omega)).trans (instrCells_at _ k _ HX2.out).2
        clear ow
        by_cases t3 : takes op = 3
        · have t3b : (takes op == 3) = true := by simpa using t3
          by_cases ha : (st.l.length : Int) < a
          · have hbad : placesS st = .error (152, lnk) := by rw [HSTEP.out]; unfold placeOne; rw [HNN.out]; simp only [t3, ha, and_self, if_true]
            have HP := Lib.hid hbad
            clear hbad
            go_region_held3 (fun w' => w'.cell? ⟨rb, 0, none⟩ = some (.slice (some ⟨g, 0, none⟩) st.l.length cap) ∧ w'.cell? ⟨g, k*2, none⟩ = some (.int .i64 op) ∧ w'.cell? ⟨g, k*2+1, none⟩ = some (.int .i64 a)) (exact ⟨by assumption, by assumption, by assumption⟩)
              (first | (go_at_call 81; refine (Takes_any _ _).mono ?_; rintro e w5 ⟨rfl, hb5⟩; have d0 := (hb5.cell (p := ⟨rb, 0, none⟩) hrb).trans c0; have d1 := (hb5.cell (p := ⟨g, k*2, none⟩) hgg).trans x0; have d2 := (hb5.cell (p := ⟨g, k*2+1, none⟩) hgg).trans x1))
            have hR5 := hR2.below (w' := w5) ⟨hb5.os, hb5.tape, hb5.output, hb5.size, hb5.block⟩
            have hB5 := hB2.trans ((show Below W2.heap.size W2 w5 from ⟨hb5.os, hb5.tape, hb5.output, hb5.size, hb5.block⟩).mono (show B ≤ W2.heap.size by have := hR2.b1; omega))
            have hz5 : w.heap.size ≤ w5.heap.size := Nat.le_trans hz2 hb5.size
            have d4 := hR5.cells.2.2.2.2
            go_wp2_with (go_at_call 130; refine (fail_any rb _ lnk _ d4).mono ?_; rintro e w6 ⟨rfl, rfl⟩)
            refine ⟨rfl, ?_⟩
            unfold PlacesDoes
            rw [HP.out]
            exact ⟨rfl, hB5, hz5⟩
          · have hgo : placesN st.labels st.named st.lines st.l.length (st.l.length - (k + 1)) (k + 1) l = placesS st := by rw [HSTEP.out, HM.out]; unfold placeOne; rw [HNN.out]; simp only [t3, ha, and_false, if_false]; rw [show l.set k (op, a) = l from set_same HX.out]
            have HG := Lib.hid hgo
            clear hgo
            go_region_held3 (fun w' => w'.cell? ⟨rb, 0, none⟩ = some (.slice (some ⟨g, 0, none⟩) st.l.length cap) ∧ w'.cell? ⟨g, k*2, none⟩ = some (.int .i64 op) ∧ w'.cell? ⟨g, k*2+1, none⟩ = some (.int .i64 a)) (exact ⟨by assumption, by assumption, by assumption⟩)
              (first | (go_at_call 81; refine (Takes_any _ _).mono ?_; rintro e w5 ⟨rfl, hb5⟩; have d0 := (hb5.cell (p := ⟨rb, 0, none⟩) hrb).trans c0; have d1 := (hb5.cell (p := ⟨g, k*2, none⟩) hgg).trans x0; have d2 := (hb5.cell (p := ⟨g, k*2+1, none⟩) hgg).trans x1))
            have hR5 := hR2.below (w' := w5) ⟨hb5.os, hb5.tape, hb5.output, hb5.size, hb5.block⟩
            have hB5 := hB2.trans ((show Below W2.heap.size W2 w5 from ⟨hb5.os, hb5.tape, hb5.output, hb5.size, hb5.block⟩).mono (show B ≤ W2.heap.size by have := hR2.b1; omega))
            have hz5 : w.heap.size ≤ w5.heap.size := Nat.le_trans hz2 hb5.size
            have d4 := hR5.cells.2.2.2.2
            go_wp2
            go_roundw
            case rel => exact ⟨k + 1, l, lnk, by omega, by go_num, HL2.out, hR5, hB5, hz5, HG.out⟩
            case measure => simp [intOf]; omega
        · have t3b : (takes op == 3) = false := by simpa using t3
          have hgo : placesN st.labels st.named st.lines st.l.length (st.l.length - (k + 1)) (k + 1) l = placesS st := by rw [HSTEP.out, HM.out]; unfold placeOne; rw [HNN.out]; simp only [t3, false_and, if_false]; rw [show l.set k (op, a) = l from set_same HX.out]
          have HG := Lib.hid hgo
          clear hgo
          refine wp_region_held_drew (S := (fun w' => w'.cell? ⟨rb, 0, none⟩ = some (.slice (some ⟨g, 0, none⟩) st.l.length cap) ∧ w'.cell? ⟨g, k*2, none⟩ = some (.int .i64 op) ∧ w'.cell? ⟨g, k*2+1, none⟩ = some (.int .i64 a))) (by kernel_rfl) ⟨c0, x0, x1⟩ (fun hHeld => ?_)
          refine wpAnyH_take (i := 0) (oi := ⟨some 56, _, _, _, _, _⟩) (v := ?_) rfl (by kernel_rfl) (by kernel_rfl) (by kernel_rfl) (fun _ _ _ h => h) (Or.inl ⟨by rfl, ?_⟩) (by assumption) ?_
          rotate_left
          · (intro w hSw; (try dsimp only at hSw); go_simp; try (with_reducible rfl))
          try simp only [Act.put, List.setIfInBounds_toArray, List.set_cons_zero, List.set_cons_succ]
          refine wpAnyH_take (i := 1) (oi := ⟨some 57, _, _, _, _, _⟩) (v := ?_) rfl (by kernel_rfl) (by kernel_rfl) (by kernel_rfl) (fun _ _ _ h => h) (Or.inl ⟨by rfl, ?_⟩) (by assumption) ?_
          rotate_left
          · (intro w hSw; (try dsimp only at hSw); go_simp; try (with_reducible rfl))
          try simp only [Act.put, List.setIfInBounds_toArray, List.set_cons_zero, List.set_cons_succ]
          refine wpAnyH_take (i := 2) (oi := ⟨some 58, _, _, _, _, _⟩) (v := ?_) rfl (by kernel_rfl) (by kernel_rfl) (by kernel_rfl) (fun _ _ _ h => h) (Or.inl ⟨by rfl, ?_⟩) (by assumption) ?_
          rotate_left
          · (intro w hSw; (try dsimp only at hSw); go_simp; try (with_reducible rfl))
          try simp only [Act.put, List.setIfInBounds_toArray, List.set_cons_zero, List.set_cons_succ]
          refine wpAnyH_take (i := 3) (oi := ⟨some 59, _, _, _, _, _⟩) (v := ?_) rfl (by kernel_rfl) (by kernel_rfl) (by kernel_rfl) (fun _ _ _ h => h) (Or.inl ⟨by rfl, ?_⟩) (by assumption) ?_
          rotate_left
          · (intro w hSw; (try dsimp only at hSw); go_simp; try (with_reducible rfl))
          try simp only [Act.put, List.setIfInBounds_toArray, List.set_cons_zero, List.set_cons_succ]
          refine wpAnyH_take (i := 4) (oi := ⟨some 60, _, _, _, _, _⟩) (v := ?_) rfl (by kernel_rfl) (by kernel_rfl) (by kernel_rfl) (fun _ _ _ h => h) (Or.inl ⟨by rfl, ?_⟩) (by assumption) ?_
          rotate_left
          · (intro w hSw; (try dsimp only at hSw); go_simp; try (with_reducible rfl))
          try simp only [Act.put, List.setIfInBounds_toArray, List.set_cons_zero, List.set_cons_succ]
          refine wpAnyH_take (i := 5) (oi := ⟨some 61, _, _, _, _, _⟩) (v := ?_) rfl (by kernel_rfl) (by kernel_rfl) (by kernel_rfl) (fun _ _ _ h => h) (Or.inl ⟨by rfl, ?_⟩) (by assumption) ?_
          rotate_left
          · (intro w hSw; (try dsimp only at hSw); go_simp; try (with_reducible rfl))
          try simp only [Act.put, List.setIfInBounds_toArray, List.set_cons_zero, List.set_cons_succ]
          refine wpAnyH_take (i := 6) (oi := ⟨some 62, _, _, _, _, _⟩) (v := ?_) rfl (by kernel_rfl) (by kernel_rfl) (by kernel_rfl) (fun _ _ _ h => h) (Or.inl ⟨by rfl, ?_⟩) (by assumption) ?_
          rotate_left
          · (intro w hSw; (try dsimp only at hSw); go_simp; try (with_reducible rfl))
          try simp only [Act.put, List.setIfInBounds_toArray, List.set_cons_zero, List.set_cons_succ]
          refine wpAnyH_take (i := 7) (oi := ⟨some 63, _, _, _, _, _⟩) (v := ?_) rfl (by kernel_rfl) (by kernel_rfl) (by kernel_rfl) (fun _ _ _ h => h) (Or.inl ⟨by rfl, ?_⟩) (by assumption) ?_
          rotate_left
          · (intro w hSw; (try dsimp only at hSw); go_simp; try (with_reducible rfl))
          try simp only [Act.put, List.setIfInBounds_toArray, List.set_cons_zero, List.set_cons_succ]
          refine wpAnyH_ready (rs := [8]) (by kernel_rfl) (by simp) ?_
          refine AllReadyH.cons (o := ⟨some 64, _, _, _, _, _⟩) rfl (fun K hK => ?_) AllReadyH.nil
          go_simp
          go_at_call 81; refine (Takes_any _ _).mono ?_; rintro e w5 ⟨rfl, hb5⟩; have d0 := (hb5.cell (p := ⟨rb, 0, none⟩) hrb).trans c0; have d1 := (hb5.cell (p := ⟨g, k*2, none⟩) hgg).trans x0; have d2 := (hb5.cell (p := ⟨g, k*2+1, none⟩) hgg).trans x1
          try go_simp
          refine hK.out _ _ ⟨d0, d1, d2⟩ (fun hHeld => ?_)
          clear hK K
          try simp only [Act.put, List.setIfInBounds_toArray, List.set_cons_zero, List.set_cons_succ]
          refine wpAnyH_take (i := 9) (oi := ⟨some 65, _, _, _, _, _⟩) (v := ?_) rfl (by kernel_rfl) (by kernel_rfl) (by kernel_rfl) (fun _ _ _ h => h) (Or.inl ⟨by rfl, ?_⟩) (by assumption) ?_
          rotate_left
          · (intro w hSw; (try dsimp only at hSw); go_simp; try (with_reducible rfl))
          try simp only [Act.put, List.setIfInBounds_toArray, List.set_cons_zero, List.set_cons_succ]
          refine wpAnyH_take (i := 10) (oi := ⟨some 66, _, _, _, _, _⟩) (v := ?_) rfl (by kernel_rfl) (by kernel_rfl) (by kernel_rfl) (fun _ _ _ h => h) (Or.inl ⟨by rfl, ?_⟩) (by assumption) ?_
          rotate_left
          · (intro w hSw; (try dsimp only at hSw); go_simp; try (with_reducible rfl))
          try simp only [Act.put, List.setIfInBounds_toArray, List.set_cons_zero, List.set_cons_succ]
          refine wpAnyH_take (i := 11) (oi := ⟨some 67, _, _, _, _, _⟩) (v := undef) rfl (by kernel_rfl) (by kernel_rfl) (by kernel_rfl) (fun _ _ _ h => h) (Or.inr ⟨by rfl, rfl⟩) (by assumption) ?_
          try simp only [Act.put, List.setIfInBounds_toArray, List.set_cons_zero, List.set_cons_succ]
          refine wpAnyH_take (i := 12) (oi := ⟨some 68, _, _, _, _, _⟩) (v := undef) rfl (by kernel_rfl) (by kernel_rfl) (by kernel_rfl) (fun _ _ _ h => h) (Or.inr ⟨by rfl, rfl⟩) (by assumption) ?_
          try simp only [Act.put, List.setIfInBounds_toArray, List.set_cons_zero, List.set_cons_succ]
          refine wpAnyH_take (i := 13) (oi := ⟨some 69, _, _, _, _, _⟩) (v := undef) rfl (by kernel_rfl) (by kernel_rfl) (by kernel_rfl) (fun _ _ _ h => h) (Or.inr ⟨by rfl, rfl⟩) (by assumption) ?_
          try simp only [Act.put, List.setIfInBounds_toArray, List.set_cons_zero, List.set_cons_succ]
          refine wpAnyH_take (i := 14) (oi := ⟨some 70, _, _, _, _, _⟩) (v := undef) rfl (by kernel_rfl) (by kernel_rfl) (by kernel_rfl) (fun _ _ _ h => h) (Or.inr ⟨by rfl, rfl⟩) (by assumption) ?_
          try simp only [Act.put, List.setIfInBounds_toArray, List.set_cons_zero, List.set_cons_succ]
          refine wpAnyH_take (i := 15) (oi := ⟨some 71, _, _, _, _, _⟩) (v := undef) rfl (by kernel_rfl) (by kernel_rfl) (by kernel_rfl) (fun _ _ _ h => h) (Or.inr ⟨by rfl, rfl⟩) (by assumption) ?_
          try simp only [Act.put, List.setIfInBounds_toArray, List.set_cons_zero, List.set_cons_succ]
          refine wpAnyH_take (i := 16) (oi := ⟨some 72, _, _, _, _, _⟩) (v := undef) rfl (by kernel_rfl) (by kernel_rfl) (by kernel_rfl) (fun _ _ _ h => h) (Or.inr ⟨by rfl, rfl⟩) (by assumption) ?_
          try simp only [Act.put, List.setIfInBounds_toArray, List.set_cons_zero, List.set_cons_succ]
          refine wpAnyH_take (i := 17) (oi := ⟨some 73, _, _, _, _, _⟩) (v := undef) rfl (by kernel_rfl) (by kernel_rfl) (by kernel_rfl) (fun _ _ _ h => h) (Or.inr ⟨by rfl, rfl⟩) (by assumption) ?_
          try simp only [Act.put, List.setIfInBounds_toArray, List.set_cons_zero, List.set_cons_succ]
          refine wpAnyH_take (i := 18) (oi := ⟨some 74, _, _, _, _, _⟩) (v := undef) rfl (by kernel_rfl) (by kernel_rfl) (by kernel_rfl) (fun _ _ _ h => h) (Or.inr ⟨by rfl, rfl⟩) (by assumption) ?_
          try simp only [Act.put, List.setIfInBounds_toArray, List.set_cons_zero, List.set_cons_succ]
          refine wpAnyH_take (i := 19) (oi := ⟨some 75, _, _, _, _, _⟩) (v := undef) rfl (by kernel_rfl) (by kernel_rfl) (by kernel_rfl) (fun _ _ _ h => h) (Or.inr ⟨by rfl, rfl⟩) (by assumption) ?_
          try simp only [Act.put, List.setIfInBounds_toArray, List.set_cons_zero, List.set_cons_succ]
          refine wpAnyH_take (i := 20) (oi := ⟨some 76, _, _, _, _, _⟩) (v := undef) rfl (by kernel_rfl) (by kernel_rfl) (by kernel_rfl) (fun _ _ _ h => h) (Or.inr ⟨by rfl, rfl⟩) (by assumption) ?_
          try simp only [Act.put, List.setIfInBounds_toArray, List.set_cons_zero, List.set_cons_succ]
          refine wpAnyH_take (i := 21) (oi := ⟨some 77, _, _, _, _, _⟩) (v := undef) rfl (by kernel_rfl) (by kernel_rfl) (by kernel_rfl) (fun _ _ _ h => h) (Or.inr ⟨by rfl, rfl⟩) (by assumption) ?_
          try simp only [Act.put, List.setIfInBounds_toArray, List.set_cons_zero, List.set_cons_succ]
          refine wpAnyH_take (i := 22) (oi := ⟨some 78, _, _, _, _, _⟩) (v := undef) rfl (by kernel_rfl) (by kernel_rfl) (by kernel_rfl) (fun _ _ _ h => h) (Or.inr ⟨by rfl, rfl⟩) (by assumption) ?_
          try simp only [Act.put, List.setIfInBounds_toArray, List.set_cons_zero, List.set_cons_succ]
          refine wpAnyH_take (i := 23) (oi := ⟨some 79, _, _, _, _, _⟩) (v := undef) rfl (by kernel_rfl) (by kernel_rfl) (by kernel_rfl) (fun _ _ _ h => h) (Or.inr ⟨by rfl, rfl⟩) (by assumption) ?_
          try simp only [Act.put, List.setIfInBounds_toArray, List.set_cons_zero, List.set_cons_succ]
          refine wpAnyH_take (i := 24) (oi := ⟨some 80, _, _, _, _, _⟩) (v := undef) rfl (by kernel_rfl) (by kernel_rfl) (by kernel_rfl) (fun _ _ _ h => h) (Or.inr ⟨by rfl, rfl⟩) (by assumption) ?_
          try simp only [Act.put, List.setIfInBounds_toArray, List.set_cons_zero, List.set_cons_succ]
          refine wpAnyH_take (i := 25) (oi := ⟨some 81, _, _, _, _, _⟩) (v := ?_) rfl (by kernel_rfl) (by kernel_rfl) (by kernel_rfl) (fun _ _ _ h => h) (Or.inl ⟨by rfl, ?_⟩) (by assumption) ?_
          rotate_left
          · (intro w hSw; (try dsimp only at hSw); go_simp; try (with_reducible rfl))
          try simp only [Act.put, List.setIfInBounds_toArray, List.set_cons_zero, List.set_cons_succ]
          refine wpAnyH_done (by kernel_rfl) ?_ _
          have hR5 := hR2.below (w' := w5) ⟨hb5.os, hb5.tape, hb5.output, hb5.size, hb5.block⟩
          have hB5 := hB2.trans ((show Below W2.heap.size W2 w5 from ⟨hb5.os, hb5.tape, hb5.output, hb5.size, hb5.block⟩).mono (show B ≤ W2.heap.size by have := hR2.b1; omega))
          have hz5 : w.heap.size ≤ w5.heap.size := Nat.le_trans hz2 hb5.size
          have d4 := hR5.cells.2.2.2.2
          go_wp2
          go_roundw
          case rel => exact ⟨k + 1, l, lnk, by omega, by go_num, HL2.out, hR5, hB5, hz5, HG.out⟩
          case measure => simp [intOf]; omega
      | some nm =>
        have hk1 := hR1.look_named k (by omega)
        rw [hn] at hk1
        simp only [Option.getD_some, Option.isSome_some] at hk1
        have hk2 := hR1.look_label nm (hlab k nm hn)
        have HNN := Lib.hid hn
        clear hn
        cases hlb : labAt st.labels nm with
        | none =>
          rw [hlb] at hk2
          have hbad : placesS st = .error (154, lnk) := by rw [HSTEP.out]; unfold placeOne; rw [HNN.out]; simp only [hlb]
          have HP := Lib.hid hbad
          clear hbad hlb
          go_wp2_with (go_at_call 130; refine (fail_any rb _ lnk _ c4).mono ?_; rintro e w6 ⟨rfl, rfl⟩)
          refine ⟨rfl, ?_⟩
          unfold PlacesDoes
          rw [HP.out]
          exact ⟨rfl, hB1, hz1⟩
        | some p =>
          rw [hlb] at hk2
          simp only [Option.getD_some, Option.isSome_some] at hk2
          have HLB := Lib.hid hlb
          clear hlb
          have HL2 : Hid ((l.set k (op, (p : Int))).length = st.l.length) := Lib.hid (HSET.out _ HL.out)
          have HX2 : Hid ((l.set k (op, (p : Int)))[k]? = some (op, (p : Int))) := Lib.hid (by rw [List.getElem?_set_self]; have := HL.out; omega)
          go_upto_region 10 with fail
          refine wp_gen (fun W2 => Rd W2 B rb lb nb (.slice (some ⟨g, 0, none⟩) st.l.length cap) (.slice (some ⟨gl, 0, none⟩) st.lines.length capl) { st with l := l.set k (op, (p : Int)) } lnk ∧ Below B w W2 ∧ w.heap.size ≤ W2.heap.size) ⟨by have h9 := hR1.set_a (st := { st with l := l }) HL.out (k := k) (by show k < l.length; have := HL.out; omega) p; rw [show (({ st with l := l } : RS).l.getD k (0, 0)).1 = op from by rw [HGD.out]] at h9; exact h9, hB1.setCell (p := ⟨g, k*2+1, none⟩) (own_base hR1.own rfl) _, by simp; omega⟩ ?_
          rintro W2 ⟨hR2, hB2, hz2⟩
          clear c0 c1 c2 c3 c4 hk1 hR1 hB1 hz1 hrb hgg x0 x1 xf hk2
          obtain ⟨c0, c1, c2, c3, c4⟩ := hR2.cells
          have hrb := hR2.lt (.inl rfl)
          have hgg : g < W2.heap.size := hR2.lt (.inr (.inr (.inr (.inl rfl))))
          have ow := hR2.own
          rw [show ({ st with l := l.set k (op, (p : Int)) } : RS).l.length = st.l.length from HL2.out] at ow
          have x0 := (ow.cellAt (k*2) (by show k*2 < st.l.length * 2; omega)).trans (instrCells_at _ k _ HX2.out).1
          have x1 := (ow.cellAt (k*2+1) (by show k*2+1 < st.l.length * 2; omega)).trans (instrCells_at _ k _ HX2.out).2
          clear ow
          by_cases t3 : takes op = 3
          · have t3b : (takes op == 3) = true := by simpa using t3
            by_cases ha : (st.l.length : Int) < (p : Int)
            · have hbad : placesS st = .error (152, lnk) := by rw [HSTEP.out]; unfold placeOne; rw [HNN.out]; simp only [HLB.out]; rw [if_pos ⟨t3, by omega⟩]
              have HP := Lib.hid hbad
              clear hbad
              go_region_held3 (fun w' => w'.cell? ⟨rb, 0, none⟩ = some (.slice (some ⟨g, 0, none⟩) st.l.length cap) ∧ w'.cell? ⟨g, k*2, none⟩ = some (.int .i64 op) ∧ w'.cell? ⟨g, k*2+1, none⟩ = some (.int .i64 (p : Int))) (exact ⟨by assumption, by assumption, by assumption⟩)
                (first | (go_at_call 81; refine (Takes_any _ _).mono ?_; rintro e w5 ⟨rfl, hb5⟩; have d0 := (hb5.cell (p := ⟨rb, 0, none⟩) hrb).trans c0; have d1 := (hb5.cell (p := ⟨g, k*2, none⟩) hgg).trans x0; have d2 := (hb5.cell (p := ⟨g, k*2+1, none⟩) hgg).trans x1))
              have hR5 := hR2.below (w' := w5) ⟨hb5.os, hb5.tape, hb5.output, hb5.size, hb5.block⟩
              have hB5 := hB2.trans ((show Below W2.heap.size W2 w5 from ⟨hb5.os, hb5.tape, hb5.output, hb5.size, hb5.block⟩).mono (show B ≤ W2.heap.size by have := hR2.b1; omega))
              have hz5 : w.heap.size ≤ w5.heap.size := Nat.le_trans hz2 hb5.size
              have d4 := hR5.cells.2.2.2.2
              go_wp2_with (go_at_call 130; refine (fail_any rb _ lnk _ d4).mono ?_; rintro e w6 ⟨rfl, rfl⟩)
              refine ⟨rfl, ?_⟩
              unfold PlacesDoes
              rw [HP.out]
              exact ⟨rfl, hB5, hz5⟩
            · have hgo : placesN st.labels st.named st.lines st.l.length (st.l.length - (k + 1)) (k + 1) (l.set k (op, (p : Int))) = placesS st := by rw [HSTEP.out, HM.out]; unfold placeOne; rw [HNN.out]; simp only [HLB.out]; rw [if_neg (fun h9 => ha (by omega))]
              have HG := Lib.hid hgo
              clear hgo
              go_region_held3 (fun w' => w'.cell? ⟨rb, 0, none⟩ = some (.slice (some ⟨g, 0, none⟩) st.l.length cap) ∧ w'.cell? ⟨g, k*2, none⟩ = some (.int .i64 op) ∧ w'.cell? ⟨g, k*2+1, none⟩ = some (.int .i64 (p : Int))) (exact ⟨by assumption, by assumption, by assumption⟩)
                (first | (go_at_call 81; refine (Takes_any _ _).mono ?_; rintro e w5 ⟨rfl, hb5⟩; have d0 := (hb5.cell (p := ⟨rb, 0, none⟩) hrb).trans c0; have d1 := (hb5.cell (p := ⟨g, k*2, none⟩) hgg).trans x0; have d2 := (hb5.cell (p := ⟨g, k*2+1, none⟩) hgg).trans x1))
              have hR5 := hR2.below (w' := w5) ⟨hb5.os, hb5.tape, hb5.output, hb5.size, hb5.block⟩
              have hB5 := hB2.trans ((show Below W2.heap.size W2 w5 from ⟨hb5.os, hb5.tape, hb5.output, hb5.size, hb5.block⟩).mono (show B ≤ W2.heap.size by have := hR2.b1; omega))
              have hz5 : w.heap.size ≤ w5.heap.size := Nat.le_trans hz2 hb5.size
              have d4 := hR5.cells.2.2.2.2
              go_wp2
              go_roundw
              case rel => exact ⟨k + 1, (l.set k (op, (p : Int))), lnk, by omega, by go_num, HL2.out, hR5, hB5, hz5, HG.out⟩
              case measure => simp [intOf]; omega
          · have t3b : (takes op == 3) = false := by simpa using t3
            have hgo : placesN st.labels st.named st.lines st.l.length (st.l.length - (k + 1)) (k + 1) (l.set k (op, (p : Int))) = placesS st := by rw [HSTEP.out, HM.out]; unfold placeOne; rw [HNN.out]; simp only [HLB.out]; rw [if_neg (fun h9 => t3 h9.1)]
            have HG := Lib.hid hgo
            clear hgo
            refine wp_region_held_drew (S := (fun w' => w'.cell? ⟨rb, 0, none⟩ = some (.slice (some ⟨g, 0, none⟩) st.l.length cap) ∧ w'.cell? ⟨g, k*2, none⟩ = some (.int .i64 op) ∧ w'.cell? ⟨g, k*2+1, none⟩ = some (.int .i64 (p : Int)))) (by kernel_rfl) ⟨c0, x0, x1⟩ (fun hHeld => ?_)
            refine wpAnyH_take (i := 0) (oi := ⟨some 56, _, _, _, _, _⟩) (v := ?_) rfl (by kernel_rfl) (by kernel_rfl) (by kernel_rfl) (fun _ _ _ h => h) (Or.inl ⟨by rfl, ?_⟩) (by assumption) ?_
            rotate_left
            · (intro w hSw; (try dsimp only at hSw); go_simp; try (with_reducible rfl))
            try simp only [Act.put, List.setIfInBounds_toArray, List.set_cons_zero, List.set_cons_succ]
            refine wpAnyH_take (i := 1) (oi := ⟨some 57, _, _, _, _, _⟩) (v := ?_) rfl (by kernel_rfl) (by kernel_rfl) (by kernel_rfl) (fun _ _ _ h => h) (Or.inl ⟨by rfl, ?_⟩) (by assumption) ?_
            rotate_left
            · (intro w hSw; (try dsimp only at hSw); go_simp; try (with_reducible rfl))
            try simp only [Act.put, List.setIfInBounds_toArray, List.set_cons_zero, List.set_cons_succ]
            refine wpAnyH_take (i := 2) (oi := ⟨some 58, _, _, _, _, _⟩) (v := ?_) rfl (by kernel_rfl) (by kernel_rfl) (by kernel_rfl) (fun _ _ _ h => h) (Or.inl ⟨by rfl, ?_⟩) (by assumption) ?_
            rotate_left
            · (intro w hSw; (try dsimp only at hSw); go_simp; try (with_reducible rfl))
            try simp only [Act.put, List.setIfInBounds_toArray, List.set_cons_zero, List.set_cons_succ]
            refine wpAnyH_take (i := 3) (oi := ⟨some 59, _, _, _, _, _⟩) (v := ?_) rfl (by kernel_rfl) (by kernel_rfl) (by kernel_rfl) (fun _ _ _ h => h) (Or.inl ⟨by rfl, ?_⟩) (by assumption) ?_
            rotate_left
            · (intro w hSw; (try dsimp only at hSw); go_simp; try (with_reducible rfl))
            try simp only [Act.put, List.setIfInBounds_toArray, List.set_cons_zero, List.set_cons_succ]
            refine wpAnyH_take (i := 4) (oi := ⟨some 60, _, _, _, _, _⟩) (v := ?_) rfl (by kernel_rfl) (by kernel_rfl) (by kernel_rfl) (fun _ _ _ h => h) (Or.inl ⟨by rfl, ?_⟩) (by assumption) ?_
            rotate_left
            · (intro w hSw; (try dsimp only at hSw); go_simp; try (with_reducible rfl))
            try simp only [Act.put, List.setIfInBounds_toArray, List.set_cons_zero, List.set_cons_succ]
            refine wpAnyH_take (i := 5) (oi := ⟨some 61, _, _, _, _, _⟩) (v := ?_) rfl (by kernel_rfl) (by kernel_rfl) (by kernel_rfl) (fun _ _ _ h => h) (Or.inl ⟨by rfl, ?_⟩) (by assumption) ?_
            rotate_left
            · (intro w hSw; (try dsimp only at hSw); go_simp; try (with_reducible rfl))
            try simp only [Act.put, List.setIfInBounds_toArray, List.set_cons_zero, List.set_cons_succ]
            refine wpAnyH_take (i := 6) (oi := ⟨some 62, _, _, _, _, _⟩) (v := ?_) rfl (by kernel_rfl) (by kernel_rfl) (by kernel_rfl) (fun _ _ _ h => h) (Or.inl ⟨by rfl, ?_⟩) (by assumption) ?_
            rotate_left
            · (intro w hSw; (try dsimp only at hSw); go_simp; try (with_reducible rfl))
            try simp only [Act.put, List.setIfInBounds_toArray, List.set_cons_zero, List.set_cons_succ]
            refine wpAnyH_take (i := 7) (oi := ⟨some 63, _, _, _, _, _⟩) (v := ?_) rfl (by kernel_rfl) (by kernel_rfl) (by kernel_rfl) (fun _ _ _ h => h) (Or.inl ⟨by rfl, ?_⟩) (by assumption) ?_
            rotate_left
            · (intro w hSw; (try dsimp only at hSw); go_simp; try (with_reducible rfl))
            try simp only [Act.put, List.setIfInBounds_toArray, List.set_cons_zero, List.set_cons_succ]
            refine wpAnyH_ready (rs := [8]) (by kernel_rfl) (by simp) ?_
            refine AllReadyH.cons (o := ⟨some 64, _, _, _, _, _⟩) rfl (fun K hK => ?_) AllReadyH.nil
            go_simp
            go_at_call 81; refine (Takes_any _ _).mono ?_; rintro e w5 ⟨rfl, hb5⟩; have d0 := (hb5.cell (p := ⟨rb, 0, none⟩) hrb).trans c0; have d1 := (hb5.cell (p := ⟨g, k*2, none⟩) hgg).trans x0; have d2 := (hb5.cell (p := ⟨g, k*2+1, none⟩) hgg).trans x1
            try go_simp
            refine hK.out _ _ ⟨d0, d1, d2⟩ (fun hHeld => ?_)
            clear hK K
            try simp only [Act.put, List.setIfInBounds_toArray, List.set_cons_zero, List.set_cons_succ]
            refine wpAnyH_take (i := 9) (oi := ⟨some 65, _, _, _, _, _⟩) (v := ?_) rfl (by kernel_rfl) (by kernel_rfl) (by kernel_rfl) (fun _ _ _ h => h) (Or.inl ⟨by rfl, ?_⟩) (by assumption) ?_
            rotate_left
            · (intro w hSw; (try dsimp only at hSw); go_simp; try (with_reducible rfl))
            try simp only [Act.put, List.setIfInBounds_toArray, List.set_cons_zero, List.set_cons_succ]
            refine wpAnyH_take (i := 10) (oi := ⟨some 66, _, _, _, _, _⟩) (v := ?_) rfl (by kernel_rfl) (by kernel_rfl) (by kernel_rfl) (fun _ _ _ h => h) (Or.inl ⟨by rfl, ?_⟩) (by assumption) ?_
            rotate_left
            · (intro w hSw; (try dsimp only at hSw); go_simp; try (with_reducible rfl))
            try simp only [Act.put, List.setIfInBounds_toArray, List.set_cons_zero, List.set_cons_succ]
            refine wpAnyH_take (i := 11) (oi := ⟨some 67, _, _, _, _, _⟩) (v := undef) rfl (by kernel_rfl) (by kernel_rfl) (by kernel_rfl) (fun _ _ _ h => h) (Or.inr ⟨by rfl, rfl⟩) (by assumption) ?_
            try simp only [Act.put, List.setIfInBounds_toArray, List.set_cons_zero, List.set_cons_succ]
            refine wpAnyH_take (i := 12) (oi := ⟨some 68, _, _, _, _, _⟩) (v := undef) rfl (by kernel_rfl) (by kernel_rfl) (by kernel_rfl) (fun _ _ _ h => h) (Or.inr ⟨by rfl, rfl⟩) (by assumption) ?_
            try simp only [Act.put, List.setIfInBounds_toArray, List.set_cons_zero, List.set_cons_succ]
            refine wpAnyH_take (i := 13) (oi := ⟨some 69, _, _, _, _, _⟩) (v := undef) rfl (by kernel_rfl) (by kernel_rfl) (by kernel_rfl) (fun _ _ _ h => h) (Or.inr ⟨by rfl, rfl⟩) (by assumption) ?_
            try simp only [Act.put, List.setIfInBounds_toArray, List.set_cons_zero, List.set_cons_succ]
            refine wpAnyH_take (i := 14) (oi := ⟨some 70, _, _, _, _, _⟩) (v := undef) rfl (by kernel_rfl) (by kernel_rfl) (by kernel_rfl) (fun _ _ _ h => h) (Or.inr ⟨by rfl, rfl⟩) (by assumption) ?_
            try simp only [Act.put, List.setIfInBounds_toArray, List.set_cons_zero, List.set_cons_succ]
            refine wpAnyH_take (i := 15) (oi := ⟨some 71, _, _, _, _, _⟩) (v := undef) rfl (by kernel_rfl) (by kernel_rfl) (by kernel_rfl) (fun _ _ _ h => h) (Or.inr ⟨by rfl, rfl⟩) (by assumption) ?_
            try simp only [Act.put, List.setIfInBounds_toArray, List.set_cons_zero, List.set_cons_succ]
            refine wpAnyH_take (i := 16) (oi := ⟨some 72, _, _, _, _, _⟩) (v := undef) rfl (by kernel_rfl) (by kernel_rfl) (by kernel_rfl) (fun _ _ _ h => h) (Or.inr ⟨by rfl, rfl⟩) (by assumption) ?_
            try simp only [Act.put, List.setIfInBounds_toArray, List.set_cons_zero, List.set_cons_succ]
            refine wpAnyH_take (i := 17) (oi := ⟨some 73, _, _, _, _, _⟩) (v := undef) rfl (by kernel_rfl) (by kernel_rfl) (by kernel_rfl) (fun _ _ _ h => h) (Or.inr ⟨by rfl, rfl⟩) (by assumption) ?_
            try simp only [Act.put, List.setIfInBounds_toArray, List.set_cons_zero, List.set_cons_succ]
            refine wpAnyH_take (i := 18) (oi := ⟨some 74, _, _, _, _, _⟩) (v := undef) rfl (by kernel_rfl) (by kernel_rfl) (by kernel_rfl) (fun _ _ _ h => h) (Or.inr ⟨by rfl, rfl⟩) (by assumption) ?_
            try simp only [Act.put, List.setIfInBounds_toArray, List.set_cons_zero, List.set_cons_succ]
            refine wpAnyH_take (i := 19) (oi := ⟨some 75, _, _, _, _, _⟩) (v := undef) rfl (by kernel_rfl) (by kernel_rfl) (by kernel_rfl) (fun _ _ _ h => h) (Or.inr ⟨by rfl, rfl⟩) (by assumption) ?_
            try simp only [Act.put, List.setIfInBounds_toArray, List.set_cons_zero, List.set_cons_succ]
            refine wpAnyH_take (i := 20) (oi := ⟨some 76, _, _, _, _, _⟩) (v := undef) rfl (by kernel_rfl) (by kernel_rfl) (by kernel_rfl) (fun _ _ _ h => h) (Or.inr ⟨by rfl, rfl⟩) (by assumption) ?_
            try simp only [Act.put, List.setIfInBounds_toArray, List.set_cons_zero, List.set_cons_succ]
            refine wpAnyH_take (i := 21) (oi := ⟨some 77, _, _, _, _, _⟩) (v := undef) rfl (by kernel_rfl) (by kernel_rfl) (by kernel_rfl) (fun _ _ _ h => h) (Or.inr ⟨by rfl, rfl⟩) (by assumption) ?_
            try simp only [Act.put, List.setIfInBounds_toArray, List.set_cons_zero, List.set_cons_succ]
            refine wpAnyH_take (i := 22) (oi := ⟨some 78, _, _, _, _, _⟩) (v := undef) rfl (by kernel_rfl) (by kernel_rfl) (by kernel_rfl) (fun _ _ _ h => h) (Or.inr ⟨by rfl, rfl⟩) (by assumption) ?_
            try simp only [Act.put, List.setIfInBounds_toArray, List.set_cons_zero, List.set_cons_succ]
            refine wpAnyH_take (i := 23) (oi := ⟨some 79, _, _, _, _, _⟩) (v := undef) rfl (by kernel_rfl) (by kernel_rfl) (by kernel_rfl) (fun _ _ _ h => h) (Or.inr ⟨by rfl, rfl⟩) (by assumption) ?_
            try simp only [Act.put, List.setIfInBounds_toArray, List.set_cons_zero, List.set_cons_succ]
            refine wpAnyH_take (i := 24) (oi := ⟨some 80, _, _, _, _, _⟩) (v := undef) rfl (by kernel_rfl) (by kernel_rfl) (by kernel_rfl) (fun _ _ _ h => h) (Or.inr ⟨by rfl, rfl⟩) (by assumption) ?_
            try simp only [Act.put, List.setIfInBounds_toArray, List.set_cons_zero, List.set_cons_succ]
            refine wpAnyH_take (i := 25) (oi := ⟨some 81, _, _, _, _, _⟩) (v := ?_) rfl (by kernel_rfl) (by kernel_rfl) (by kernel_rfl) (fun _ _ _ h => h) (Or.inl ⟨by rfl, ?_⟩) (by assumption) ?_
            rotate_left
            · (intro w hSw; (try dsimp only at hSw); go_simp; try (with_reducible rfl))
            try simp only [Act.put, List.setIfInBounds_toArray, List.set_cons_zero, List.set_cons_succ]
            refine wpAnyH_done (by kernel_rfl) ?_ _
            have hR5 := hR2.below (w' := w5) ⟨hb5.os, hb5.tape, hb5.output, hb5.size, hb5.block⟩
            have hB5 := hB2.trans ((show Below W2.heap.size W2 w5 from ⟨hb5.os, hb5.tape, hb5.output, hb5.size, hb5.block⟩).mono (show B ≤ W2.heap.size by have := hR2.b1; omega))
            have hz5 : w.heap.size ≤ w5.heap.size := Nat.le_trans hz2 hb5.size
            have d4 := hR5.cells.2.2.2.2
            go_wp2
            go_roundw
            case rel => exact ⟨k + 1, (l.set k (op, (p : Int))), lnk, by omega, by go_num, HL2.out, hR5, hB5, hz5, HG.out⟩
            case measure => simp [intOf]; omega
    · obtain rfl : k = st.l.length := by omega
      have hfin : placesS st = .ok l := by rw [← HS.out, Nat.sub_self]; rfl
      have HP := Lib.hid hfin
      clear hfin
      go_wp2
      refine bodyPost_end (results_none rfl _ _ _) rfl ?_
      unfold PlacesDoes
      rw [HP.out]
      exact ⟨rfl, ⟨ln, hR⟩, hBW, hzW⟩
end
end Go.Proofs.YtoiokbdipcecnaaGreatDoor
