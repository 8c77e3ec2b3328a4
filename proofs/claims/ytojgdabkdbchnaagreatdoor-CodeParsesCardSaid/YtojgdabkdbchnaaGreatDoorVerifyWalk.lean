/-
  quash/code.Verify: a program's states, place by place. No condition.
-/
import Derived.Test.YtojgdabkdbchnaaGreatDoorVerifyOps
import Derived.Test.YtojgdabkdbchnaaGreatDoorCodeBehind
import Derived.Deep.LoopGhost
import Derived.Deep.RegionWith
import Derived.Deep.DeepCutAuto
import Derived.Deep.RegionHeld3
namespace Go.Proofs.YtojgdabkdbchnaaGreatDoor
open Go.RowKit Go.Maps Go.WideMaps
set_option maxRecDepth 100000

theorem infoInt : (Tryz.prog.info? 3).map (fun i => (i.zero, i.size, i.bytes)) = some (some (.int .i64 0), 1, 8) := by kernel_rfl
theorem infoErr : (Tryz.prog.info? 25).map (fun i => (i.zero, i.size, i.bytes)) = some (some (.int .i64 0), 1, 8) := by kernel_rfl
theorem makeInts (m : Nat) (h : m ≤ 100000) (w : World) : (Instr.makeSlice 55 (.int .i64 m) (.int .i64 m)).run Tryz.prog w = .ok (.slice (some ⟨w.heap.size, 0, none⟩) m m) (w.alloc (.cells (madeCells #[.int .i64 0] m) 3)) := by
  obtain ⟨i0, hi, hz0, hz1, hz2⟩ := info_parts infoInt
  have h := run_makeSlice (w := w) (P := Tryz.prog) 55 3 i0 (.int .i64 0) Tryz.underlying55 hi hz0 .i64 .i64 m m (by omega) (Int.le_refl _) (by rw [hz1]; simp; omega) (by rw [hz2]; omega) (by omega)
  rw [h, hz1]
  simp [Value.cells]
theorem makeErrs (m : Nat) (h : m ≤ 100000) (w : World) : (Instr.makeSlice 56 (.int .i64 m) (.int .i64 m)).run Tryz.prog w = .ok (.slice (some ⟨w.heap.size, 0, none⟩) m m) (w.alloc (.cells (madeCells #[.int .i64 0] m) 25)) := by
  obtain ⟨i0, hi, hz0, hz1, hz2⟩ := info_parts infoErr
  have h := run_makeSlice (w := w) (P := Tryz.prog) 56 25 i0 (.int .i64 0) Tryz.underlying56 hi hz0 .i64 .i64 m m (by omega) (Int.le_refl _) (by rw [hz1]; simp; omega) (by rw [hz2]; omega) (by omega)
  rw [h, hz1]
  simp [Value.cells]
theorem Check_any (ao : Option Addr) (c : Nat) (l : List (Int × Int)) (w : World) (hs : SeesP w ao l) (hn : l.length ≤ maxLen) :
    Calls Tryz.prog 18 #[.slice ao l.length c] w fun e w' => e = .returned (.tuple #[.int .i64 (checkL l).1, .int .i64 (checkL l).2]) ∧ Below w.heap.size w w' := by
  by_cases h : l.length < 1 ∨ 400 < l.length
  · have e : checkL l = (150, 0) := by unfold checkL; rw [if_pos h]
    rw [e]
    exact Check_long ao c l.length w h hn
  · have e : checkL l = checkFrom l.length 0 l := by unfold checkL; rw [if_neg h]
    rw [e]
    exact Check_some ao c l w hs (by omega) (by omega)
set_option maxHeartbeats 4000000 in
theorem Verify_bad (ao : Option Addr) (c : Nat) (l : List (Int × Int)) (w : World) (hs : SeesP w ao l) (hn : l.length ≤ maxLen) (h0 : (checkL l).1 ≠ 0) :
    Calls Tryz.prog 9 #[.slice ao l.length c] w fun e w' => e = .returned (.tuple #[.int .i64 (verifyL l).1, .int .i64 (verifyL l).2]) ∧ Below w.heap.size w w' := by
  have hv : verifyL l = checkL l := by unfold verifyL; rw [if_neg h0]
  rw [hv]
  have HC := Lib.hid (Check_any ao c l w hs hn)
  generalize checkL l = R at h0 HC
  obtain ⟨N, hN⟩ : ∃ N, N = l.length := ⟨_, rfl⟩
  rw [← hN]
  rw [← hN] at HC
  clear hN hs hv hn
  obtain ⟨r1, r2⟩ := R
  go_enter Tryz.func9, Tryz.ntmps9
  go_wp2_with (go_at_call 18; refine HC.out.mono ?_; rintro e w1 ⟨rfl, hb1⟩)
  go_ret2
  exact ⟨rfl, hb1⟩
theorem start_facts {w w1 w2 : World} (hb1 : Below w.heap.size w w1) (hg : ((w1.alloc (.cells #[.int .i64 0, .int .i64 0, .int .i64 (-1)] 53)).alloc (.map #[] 0)).grownBy w2 (some (w1.heap.size + 1))) :
    w2.heap[w1.heap.size]? = some (.cells #[.int .i64 0, .int .i64 0, .int .i64 (-1)] 53) ∧ Below w.heap.size w w2 ∧ w1.heap.size + 2 ≤ w2.heap.size ∧ w.heap.size ≤ w1.heap.size ∧ w1.heap.size < w2.heap.size ∧ w1.heap.size < w2.heap.size + 1 := by
  have hs := hg.size
  simp at hs
  have h1 := hb1.size
  refine ⟨(hg.block _ (by simp; omega) (by simp)).trans ?_, ?_, by omega, h1, by omega, by omega⟩
  · exact (Below.heap_alloc _ _ _ (by simp)).trans (heap_new _ _ _ rfl)
  · exact ((hb1.alloc h1 _).alloc (by simp; omega) _).grown hg (by simp; omega) (fun k e => by cases e; omega)
theorem start_mem {w w1 w2 : World} {N : Nat} {D : DataW Unit} (hb1 : Below w.heap.size w w1) (hg : ((w1.alloc (.cells #[.int .i64 0, .int .i64 0, .int .i64 (-1)] 53)).alloc (.map #[] 0)).grownBy w2 (some (w1.heap.size + 1)))
    (hown : w2.ownsMap (H := Unit) Tryz.prog 53 (plainElem Tryz.prog 3) (w1.heap.size + 1) 1 D) (hD : SeenMap N [(0, 0, -1)] D) :
    VMem w.heap.size w2.heap.size (w2.heap.size + 1) (w1.heap.size + 1) N 1 (vstart N) (.slice (some ⟨w2.heap.size + 2, 0, none⟩) 1 1) w
      (((w2.alloc (.cells (madeCells #[.int .i64 0] (N + 1)) 3)).alloc (.cells (madeCells #[.int .i64 0] (N + 1)) 25)).alloc (.cells #[.int .i64 0, .int .i64 0, .int .i64 (-1)] 53)) := by
  obtain ⟨_, hb2, hz2, hz1, _, _⟩ := start_facts hb1 hg
  have hl := hown.lt
  refine VMem.start rfl (((hb2.alloc (by omega) _).alloc (by simp; omega) _).alloc (by simp; omega) _) ⟨by omega, by omega, by omega, by omega⟩ ⟨D, ((hown.alloc _).alloc _).alloc _, hD⟩ ?_ ?_ ?_
  · exact (Below.heap_alloc _ _ _ (by simp; omega)).trans ((Below.heap_alloc _ _ _ (by simp)).trans (heap_new _ _ _ rfl))
  · exact (Below.heap_alloc _ _ _ (by simp)).trans (heap_new _ _ _ (by simp))
  · exact heap_new _ _ _ (by simp)
theorem made_map {w1 : World} (O : Obj) : ((w1.alloc O).alloc (.map #[] 0)).ownsMap (H := Unit) Tryz.prog 53 (plainElem Tryz.prog 3) (w1.heap.size + 1) 0 (.map []) := by
  have h := World.ownsMap_made (H := Unit) (w1.alloc O) Tryz.prog 53 (plainElem Tryz.prog 3)
  rwa [show (w1.alloc O).heap.size = w1.heap.size + 1 by simp] at h
theorem vrun_nil (l : List (Int × Int)) (F : Nat) {st : VS} (h : st.todo = []) : vrun l F st = st := by
  cases F with
  | zero => rfl
  | succ F => rw [vrun, h]; rfl
theorem vrun_snoc (l : List (Int × Int)) (F : Nat) {st : VS} {L : List VP} {p : VP} (h : st.todo = L ++ [p]) : vrun l (F + 1) st = vrun l F (vstep l p { st with todo := L }) := by
  rw [vrun, h, List.getLast?_append]
  simp
/-- what holds ahead of a round -/
def VRel (B gm gw mb N : Nat) (l : List (Int × Int)) (R : VS) (w : World) (F : Nat) (v : Value) (wr : World) : Prop :=
  ∃ (st : VS) (cnt : Nat), VMem B gm gw mb N cnt st v w wr ∧ vrun l F st = R ∧ VOk N st ∧ mu N st ≤ F ∧ cnt + 3 * F ≤ 3000000 ∧ ∀ (j : Nat) (z : Int), st.many[j]? = some z → 0 ≤ z ∧ z + (F : Int) ≤ 1000000
theorem bump_bd {m : List Int} {K F : Nat} {M : Int} (h : ∀ (j : Nat) (z : Int), m[j]? = some z → 0 ≤ z ∧ z + ((F + 1 : Nat) : Int) ≤ M) : ∀ (j : Nat) (z : Int), (bump m K)[j]? = some z → 0 ≤ z ∧ z + (F : Int) ≤ M := fun j z hz => by
  unfold bump at hz
  rw [List.getElem?_set] at hz
  by_cases e : K = j
  · subst e
    rw [if_pos rfl] at hz
    by_cases hlt : K < m.length
    · rw [if_pos hlt] at hz
      have := h K _ (List.getElem?_eq_getElem hlt)
      rw [List.getD_eq_getElem?_getD, List.getElem?_eq_getElem hlt] at hz
      simp at hz
      omega
    · rw [if_neg hlt] at hz; cases hz
  · rw [if_neg e] at hz
    have := h j z hz
    omega
theorem VRel.of {B gm gw mb N : Nat} {l : List (Int × Int)} {R s : VS} {w wr : World} {F cnt : Nat} {v : Value} {p : VP} (hN : N = l.length) (hl : ∀ (j : Nat) (x : Int × Int), l[j]? = some x → isOp x.1 = true ∧ mayB (takes x.1) x.2 l.length = true)
    (hM : VMem B gm gw mb N cnt (vstep l p s) v w wr) (hs : VOk N s) (hp : okP N p) (hmu : mu N s ≤ F) (hcnt : cnt + 3 * F ≤ 3000000) (hmany : ∀ (j : Nat) (z : Int), s.many[j]? = some z → 0 ≤ z ∧ z + ((F + 1 : Nat) : Int) ≤ 1000000) (hR : vrun l F (vstep l p s) = R) :
    VRel B gm gw mb N l R w F v wr := by
  subst hN
  obtain ⟨k1, k2, k3⟩ := vstep_ok hl hs hp
  exact ⟨_, cnt, hM, hR, k1, Nat.le_trans k2 hmu, hcnt, by rw [k3]; exact bump_bd hmany⟩
section
variable {l : List (Int × Int)} {K : Nat} {d bs op a : Int} {s : VS}
theorem vstep_end_bad (hK : K = l.length) (hb : 0 ≤ bs) : vstep l (K, d, bs) s = { s with many := bump s.many K, wrong := s.wrong.set K 156 } := by
  unfold vstep; simp only [Int.toNat_natCast]; rw [if_pos hK, if_pos hb]
theorem vstep_end_good (hK : K = l.length) (hb : ¬ 0 ≤ bs) : vstep l (K, d, bs) s = { s with many := bump s.many K } := by
  unfold vstep; simp only [Int.toNat_natCast]; rw [if_pos hK, if_neg hb]
theorem vstep_go (hx : l[K]? = some (op, a)) (he : amissS op d bs = 0) : vstep l (K, d, bs) s = addAll (behindS op a K d bs).2.1 (behindS op a K d bs).2.2 (behindS op a K d bs).1 { s with many := bump s.many K } := by
  have hK : ¬ K = l.length := by have := (List.getElem?_eq_some_iff.1 hx).1; omega
  unfold vstep; simp only [Int.toNat_natCast]; rw [if_neg hK, List.getD_eq_getElem?_getD, hx]; simp only [Option.getD_some]; rw [if_pos he]
theorem vstep_kept {x : Int} (hx : l[K]? = some (op, a)) (he : amissS op d bs ≠ 0) (hw : s.wrong[K]? = some x) (h : x = 155) : vstep l (K, d, bs) s = { s with many := bump s.many K } := by
  have hK : ¬ K = l.length := by have := (List.getElem?_eq_some_iff.1 hx).1; omega
  unfold vstep; simp only [Int.toNat_natCast]; rw [if_neg hK, List.getD_eq_getElem?_getD, hx]; simp only [Option.getD_some]; rw [if_neg he, List.getD_eq_getElem?_getD, hw]; simp only [Option.getD_some]; rw [if_pos h]
theorem vstep_wrong {x : Int} (hx : l[K]? = some (op, a)) (he : amissS op d bs ≠ 0) (hw : s.wrong[K]? = some x) (h : ¬ x = 155) : vstep l (K, d, bs) s = { s with many := bump s.many K, wrong := s.wrong.set K (amissS op d bs) } := by
  have hK : ¬ K = l.length := by have := (List.getElem?_eq_some_iff.1 hx).1; omega
  unfold vstep; simp only [Int.toNat_natCast]; rw [if_neg hK, List.getD_eq_getElem?_getD, hx]; simp only [Option.getD_some]; rw [if_neg he, List.getD_eq_getElem?_getD, hw]; simp only [Option.getD_some]; rw [if_neg h]
end
theorem below_plain {w5 X : World} (h : Below w5.drew.heap.size w5.drew X) : Below w5.heap.size w5 X := ⟨h.os, h.tape, h.output, h.size, h.block⟩
theorem below_pre {w5 X : World} {O : Obj} (h : Below (w5.alloc O).drew.heap.size (w5.alloc O).drew X) : Below w5.heap.size w5 X :=
  ((Below.refl w5.heap.size w5).alloc (Nat.le_refl _) O).trans (Below.mono (show Below (w5.alloc O).heap.size (w5.alloc O) X from ⟨h.os, h.tape, h.output, h.size, h.block⟩) (by simp))
theorem five_keep {w5 X : World} {fb b o : Nat} {v0 v1 v2 u0 u1 : Value} (hF : fb < w5.heap.size) (hX : b < w5.heap.size) (c0 : w5.cell? ⟨fb, 0, none⟩ = some v0) (c1 : w5.cell? ⟨fb, 1, none⟩ = some v1) (c2 : w5.cell? ⟨fb, 2, none⟩ = some v2)
    (z0 : w5.cell? ⟨b, o, none⟩ = some u0) (z1 : w5.cell? ⟨b, o + 1, none⟩ = some u1) (h : Below w5.heap.size w5 X) :
    X.cell? ⟨fb, 0, none⟩ = some v0 ∧ X.cell? ⟨fb, 1, none⟩ = some v1 ∧ X.cell? ⟨fb, 2, none⟩ = some v2 ∧ X.cell? ⟨b, o, none⟩ = some u0 ∧ X.cell? ⟨b, o + 1, none⟩ = some u1 :=
  ⟨(h.cell (p := ⟨fb, 0, none⟩) hF).trans c0, (h.cell (p := ⟨fb, 1, none⟩) hF).trans c1, (h.cell (p := ⟨fb, 2, none⟩) hF).trans c2, (h.cell (p := ⟨b, _, none⟩) hX).trans z0, (h.cell (p := ⟨b, _, none⟩) hX).trans z1⟩
theorem pre_cells {w5 X : World} {u0 u1 : Value} {t : TypeId} (h : Below (w5.alloc (.cells #[u0, u1] t)).drew.heap.size (w5.alloc (.cells #[u0, u1] t)).drew X) :
    X.cell? ⟨w5.heap.size, 0, none⟩ = some u0 ∧ X.cell? ⟨w5.heap.size, 1, none⟩ = some u1 ∧ X.frozen? ⟨w5.heap.size, 0, none⟩ = false ∧ X.frozen? ⟨w5.heap.size, 1, none⟩ = false ∧ X.heap[w5.heap.size]? = some (.cells #[u0, u1] t) := by
  have e : X.heap[w5.heap.size]? = some (.cells #[u0, u1] t) := (h.block _ (by show w5.heap.size < (w5.alloc _).heap.size; simp)).trans (heap_new w5 _ _ rfl)
  exact ⟨cell_of_row _ _ 0 _ _ _ e, cell_of_row _ _ 1 _ _ _ e, frozen_of_row _ _ 0 _ _ e, frozen_of_row _ _ 1 _ _ e, e⟩
theorem two_set {W : World} {p : Nat} {x0 x1 y0 y1 : Value} {t : TypeId} (h : W.heap[p]? = some (.cells #[x0, x1] t)) :
    ((W.setCell ⟨p, 0, none⟩ y0).setCell ⟨p, 1, none⟩ y1).heap[p]? = some (.cells #[y0, y1] t) :=
  heap_setCell_same _ p 1 _ _ y1 (heap_setCell_same W p 0 _ _ y0 h)
theorem two_other {W : World} {p g : Nat} {y0 y1 : Value} (h : g ≠ p) : ((W.setCell ⟨p, 0, none⟩ y0).setCell ⟨p, 1, none⟩ y1).heap[g]? = W.heap[g]? :=
  (heap_setCell_other _ _ _ _ h).trans (heap_setCell_other _ _ _ _ h)
/-- what holds ahead of a round of the inner loop -/
def IRel (B gm gw mb N cnt F : Nat) (d2 b2 : Int) (P : List Int) (Sf : VS) (gp g14 : Nat) (w : World) (v u : Value) (wx : World) : Prop :=
  ∃ (k : Nat) (st : VS) (cnt' : Nat), k ≤ P.length ∧ u = .int .i64 k ∧ VMem B gm gw mb N cnt' st v w wx ∧ addAll d2 b2 (P.drop k) st = Sf ∧ VOk N st ∧ mu N st ≤ F ∧ cnt' ≤ cnt + k
    ∧ wx.heap[g14]? = some (.cells #[.int .i64 d2, .int .i64 b2] 51) ∧ (P ≠ [] → wx.heap[gp]? = some (.cells (ints P) 3))
theorem behindS_len (op a k d b : Int) : (behindS op a k d b).1.length ≤ 2 := by
  unfold behindS
  simp only
  split
  · simp
  · split
    · simp
    · split
      · simp
      · split
        · simp
        · split
          · simp
          · split <;> simp
theorem grow_new {wx w7 : World} {O : Obj} {mb : Nat} (hg : (wx.alloc O).grownBy w7 (some mb)) (hmb : mb < wx.heap.size) : w7.heap[wx.heap.size]? = some O :=
  (hg.block _ (by simp) (by simp; omega)).trans (heap_new _ _ _ rfl)
theorem at_one {D : DataW Unit} {k : Lit} {x c : Int} (h : D.atKey k (.lit (.int .i64 0)) = .lit (.int .i64 x)) (h' : D.atKey k (.lit (.int .i64 0)) = .lit (.int .i64 c)) : c = x := by
  rw [h] at h'
  injection h' with h'
  injection h' with _ h'
  exact h'.symm
theorem cells3_at {W : World} {g : Nat} {p : VP} {t : TypeId} (h : W.heap[g]? = some (.cells #[.int .i64 p.1, .int .i64 p.2.1, .int .i64 p.2.2] t)) : ∀ j u, (cells3 p)[j]? = some u → W.cell? ⟨g, j, none⟩ = some u := fun j u hu => by
  have e := cell_of_row W g j _ _ _ h
  rw [e, ← hu]
  simp [cells3]
theorem VMem.other {B gm gw mb n cnt : Nat} {st : VS} {v : Value} {w0 wr : World} (h : VMem B gm gw mb n cnt st v w0 wr) {g : Nat} {cs : Array Value} {t : TypeId} (hg : wr.heap[g]? = some (.cells cs t)) (ht : t ≠ 53) :
    g ≠ mb ∧ ∀ x, v.ownBlock = some x → g ≠ x := by
  refine ⟨?_, fun x hx => ?_⟩
  · rintro rfl
    obtain ⟨D, hm, _⟩ := h.seen
    obtain ⟨es, c, hb⟩ := map_block hm
    rw [hg] at hb; cases hb
  · obtain ⟨cur, hc⟩ := own_block h.todo hx
    exact block_ne hg hc ht
theorem VMem.carry {B gm gw mb n cnt : Nat} {st : VS} {v : Value} {w0 wr w7 w8 : World} (h : VMem B gm gw mb n cnt st v w0 wr) {g : Nat} {cs : Array Value} {t : TypeId} {O O2 : Obj} (hg : wr.heap[g]? = some (.cells cs t)) (ht : t ≠ 53)
    (h7 : (wr.alloc O).grownBy w7 (some mb)) (h8 : (w7.alloc O2).grownBy w8 v.ownBlock) : w8.heap[g]? = some (.cells cs t) := by
  obtain ⟨h1, h2⟩ := h.other hg ht
  have e1 := (Below.heap_alloc wr O _ (lt_of_block hg)).trans hg
  have e2 := (h7.block _ (lt_of_block e1) (by simpa using h1)).trans e1
  have e3 := (Below.heap_alloc w7 O2 _ (lt_of_block e2)).trans e2
  exact (h8.block _ (lt_of_block e3) (fun e => h2 g e.symm rfl)).trans e3
theorem Todo.none_yet {w : World} {B : Nat} {v : Value} (h : Todo w B v []) : ∃ ao c, v = .slice ao 0 c := by
  obtain ⟨_, h | ⟨g, cap, cur, hv, _⟩⟩ := h
  · exact ⟨_, _, h.1⟩
  · exact ⟨_, _, hv⟩
set_option maxHeartbeats 16000000 in
theorem Verify_good (ao : Option Addr) (c : Nat) (l : List (Int × Int)) (w : World) (hs : SeesP w ao l) (h0 : (checkL l).1 = 0) :
    Calls Tryz.prog 9 #[.slice ao l.length c] w fun e w' => e = .returned (.tuple #[.int .i64 (verifyL l).1, .int .i64 (verifyL l).2]) ∧ Below w.heap.size w w' := by
  obtain ⟨hl1, hl2, hl3⟩ := checkL_ok h0
  have hv : verifyL l = finishFrom l.length (vend l).many (vend l).wrong (l.length + 1) 0 := by unfold verifyL; rw [if_pos h0]
  rw [hv]
  have HC := Lib.hid (Check_any ao c l w hs (by unfold maxLen; omega))
  generalize checkL l = R0 at h0 HC
  obtain ⟨r1, r2⟩ := R0
  obtain rfl : r1 = 0 := h0
  obtain ⟨b, o, hao, hcl⟩ := hs
  obtain rfl := hao (by intro e; subst e; simp at hl1)
  obtain ⟨R, hR⟩ : ∃ R, R = vend l := ⟨_, rfl⟩
  rw [← hR]
  have HR := Lib.hid (show vrun l (vfuel l.length) (vstart l.length) = R from hR.symm)
  have HL := Lib.hid hl3
  have HCL := Lib.hid hcl
  have HV := Lib.hid (vstart_ok l.length)
  clear hR hv hl3 hcl hao
  obtain ⟨N, hN⟩ : ∃ N, N = l.length := ⟨_, rfl⟩
  have HN := Lib.hid hN
  rw [← hN] at hl1 hl2 HC HR HV
  rw [← hN]
  clear hN
  have hmk := makeInts (N + 1) (by omega)
  have hme := makeErrs (N + 1) (by omega)
  rw [show ((N + 1 : Nat) : Int) = (N : Int) + 1 by omega] at hmk hme
  have hmm := @run_makeMap Tryz.prog
  have hk0 := keyOf_found hl2 (p := (0, 0, -1)) ⟨Int.le_refl _, by simp, Int.le_refl _, by decide, Int.le_refl _, by decide⟩
  go_enter Tryz.func9, Tryz.ntmps9
  go_wp2_with (first
    | (go_at_call 18; refine HC.out.mono ?_; rintro e w1 ⟨rfl, hb1⟩)
    | (refine wpList_insert_own (H := Unit) _ rfl _ _ _ 54 rfl 53 3 foundLaw Tryz.underlying54 _ (w1.heap.size + 1) 0 (.map []) rfl (by exact (made_map _)) (by unfold maxLen; omega) _ _ _ rfl rfl hk0 _ [] (plainElem_int Tryz.underlying3 (by decide)) ?_; intro w2 hown2 hgrow2; obtain ⟨hq, hb2, hz2, hz1, hz3, hz4⟩ := start_facts hb1 hgrow2; have q0 := cell_of_row _ _ 0 _ _ _ hq; have q1 := cell_of_row _ _ 1 _ _ _ hq; have q2 := cell_of_row _ _ 2 _ _ _ hq))
  have HST := Lib.hid (start_mem (N := N) hb1 hgrow2 hown2 (by exact SeenMap.put hl2 (SeenMap.nil N) ⟨Int.le_refl _, by simp, Int.le_refl _, by decide, Int.le_refl _, by decide⟩))
  clear hown2 hgrow2 hq q0 q1 q2 hb1 hb2 hmm hk0 hmk hme
  go_loopg [10] (vfuel N) (fun F v wr => VRel w.heap.size w2.heap.size (w2.heap.size + 1) (w1.heap.size + 1) N l R w F v wr)
  case atStart =>
    refine ⟨vstart N, 1, HST.out, HR.out, HV.out.1, HV.out.2, by unfold vfuel; omega, fun j z hz => ?_⟩
    have : z = 0 := by
      have := (List.getElem?_eq_some_iff.1 hz).2
      simp [vstart] at this
      exact this.symm
    subst this
    unfold vfuel; omega
  case round =>
    obtain ⟨st, cnt, hM, hR, hOk, hmu, hcnt, hmany⟩ := hrel
    rcases List.eq_nil_or_concat st.todo with hL | ⟨L, p, hL⟩
    · rw [vrun_nil _ _ hL] at hR
      subst hR
      have ht := hM.todo
      rw [hL] at ht
      obtain ⟨ao, c1, rfl⟩ := ht.none_yet
      have q1 := hOk.many
      have q2 := hOk.wrong
      have HM := Lib.hid (⟨hM, hOk, hmany⟩ : _ ∧ _ ∧ _)
      clear hM hOk hmany ht HST hmu hcnt
      obtain ⟨Y, hY⟩ : ∃ Y, finishFrom N st.many st.wrong (N + 1) 0 = Y := ⟨_, rfl⟩
      have HF := Lib.hid hY
      clear hY
      go_wp2
      go_loopw [134] (fun v wr' => ∃ k : Nat, k ≤ N + 1 ∧ v = .int .i64 k ∧ finishFrom N st.many st.wrong (N + 1 - k) k = Y ∧ wr' = wr) (fun v _ => N + 1 - (intOf v).toNat)
      case atStart => exact ⟨0, Nat.zero_le _, rfl, HF.out, rfl⟩
      case round =>
        obtain ⟨k, hk, rfl, hF, rfl⟩ := hrel
        by_cases hlt : k < N + 1
        · obtain ⟨hM, hOk, hmany⟩ := HM.out
          obtain ⟨m, hm⟩ : ∃ m, st.many[k]? = some m := ⟨_, List.getElem?_eq_getElem (by omega)⟩
          obtain ⟨e, he⟩ : ∃ e, st.wrong[k]? = some e := ⟨_, List.getElem?_eq_getElem (by omega)⟩
          obtain ⟨cm, _⟩ := hM.manyAt k hm
          obtain ⟨ce, _⟩ := hM.wrongAt k he
          have hv : verdict N st.many st.wrong k = if e = 0 ∧ 1 < m ∧ k < N then 157 else e := by
            unfold verdict
            rw [List.getD_eq_getElem?_getD, List.getD_eq_getElem?_getD, hm, he]
            rfl
          have hk0 : (0 : Int) ≤ (k : Int) := by omega
          have hk1 : (k : Int) < (N : Int) + 1 := by omega
          rw [show N + 1 - k = (N + 1 - (k + 1)) + 1 by omega, finishFrom, hv] at hF
          clear hM hOk hmany hm he hv
          by_cases g1 : e = 0
          · subst g1
            by_cases g2 : 1 < m
            · by_cases g3 : k < N
              · have HF2 := Lib.hid (show ((157, (k : Int)) : Int × Int) = Y by rw [← hF, if_neg (by simp [g2, g3])]; simp [g2, g3])
                clear hF
                go_wp2
                go_ret2
                rw [HF.out, ← HF2.out]
                exact ⟨rfl, HM.out.1.below⟩
              · have HF2 := Lib.hid (show finishFrom N st.many st.wrong (N + 1 - (k + 1)) (k + 1) = Y by rw [← hF, if_pos (by simp [g3])])
                clear hF
                go_wp2
                go_roundw
                case rel => exact ⟨k + 1, by omega, by go_num, HF2.out, by first | rfl | trivial⟩
                case measure => simp [intOf]; omega
            · have HF2 := Lib.hid (show finishFrom N st.many st.wrong (N + 1 - (k + 1)) (k + 1) = Y by rw [← hF, if_pos (by simp [g2])])
              clear hF
              go_wp2
              go_roundw
              case rel => exact ⟨k + 1, by omega, by go_num, HF2.out, by first | rfl | trivial⟩
              case measure => simp [intOf]; omega
          · have HF2 := Lib.hid (show ((e, (k : Int)) : Int × Int) = Y by rw [← hF, if_neg (by simp [g1])]; simp [g1])
            clear hF
            go_wp2
            go_ret2
            rw [HF.out, ← HF2.out]
            exact ⟨rfl, HM.out.1.below⟩
        · obtain rfl : k = N + 1 := by omega
          have HF2 := Lib.hid (show ((0, 0) : Int × Int) = Y by rw [← hF, Nat.sub_self]; rfl)
          clear hF
          go_wp2
          go_ret2
          rw [HF.out, ← HF2.out]
          exact ⟨rfl, HM.out.1.below⟩
    · rw [List.concat_eq_append] at hL
      have hmu1 : 1 ≤ gk := by
        have : st.todo.length = L.length + 1 := by rw [hL]; simp
        unfold mu at hmu; omega
      obtain ⟨F, rfl⟩ : ∃ F, gk = F + 1 := ⟨gk - 1, by omega⟩
      have hp := hOk.todo p (by rw [hL]; simp)
      rw [vrun_snoc _ _ hL] at hR
      have ht := hM.todo
      rw [hL] at ht
      obtain ⟨g, cap, rfl, c0, c1, c2, ht2, hcap1, hcap2, hglt, hgB⟩ := ht.last
      have hM2 : VMem w.heap.size w2.heap.size (w2.heap.size + 1) (w1.heap.size + 1) N cnt { st with todo := L } (.slice (some ⟨g, 0, none⟩) L.length cap) w wr := ⟨ht2, hM.seen, hM.many, hM.wrong, hM.below, hM.ge⟩
      have hOk2 : VOk N { st with todo := L } := ⟨fun q hq => hOk.todo q (by rw [hL]; simp [hq]), hOk.many, hOk.wrong⟩
      have hmu2 : mu N { st with todo := L } ≤ F := by
        have : st.todo.length = L.length + 1 := by rw [hL]; simp
        unfold mu at hmu ⊢; simp only; omega
      clear ht ht2 hM hOk hmu HST
      obtain ⟨pa, d, bs⟩ := p
      obtain ⟨p1, p2, p3, p4, p5, p6⟩ := hp
      simp only at p1 p2 p3 p4 p5 p6 c0 c1 c2
      obtain ⟨K, rfl⟩ : ∃ K : Nat, pa = K := ⟨pa.toNat, by omega⟩
      have hKN : K ≤ N := by omega
      obtain ⟨z, hz⟩ : ∃ z, st.many[K]? = some z := ⟨_, List.getElem?_eq_getElem (by have := hOk2.many; simp only at this; omega)⟩
      have hz01 := hmany K z hz
      obtain ⟨cz, fz⟩ := (hM2.keep (wr' := wr.alloc (.cells #[.int .i64 K, .int .i64 d, .int .i64 bs] 53)) ((Below.refl _ _).alloc (Nat.le_refl _) _)).manyAt K hz
      have hLb : L.length ≤ 1000000 := by unfold mu at hmu2; simp only at hmu2; omega
      have HM2 := Lib.hid (⟨hM2, hOk2, hmu2, hcnt, hmany, hR, hL, hz⟩ : _ ∧ _ ∧ _ ∧ _ ∧ _ ∧ _ ∧ _ ∧ _)
      clear hM2 hOk2 hmu2 hcnt hmany hR hL hz
      go_upto_region 13 with fail
      have HGEN : VMem w.heap.size w2.heap.size (w2.heap.size + 1) (w1.heap.size + 1) N cnt { todo := L, seen := st.seen, many := bump st.many K, wrong := st.wrong } (.slice (some ⟨g, 0, none⟩) L.length cap) w ((wr.alloc (.cells #[.int .i64 K, .int .i64 d, .int .i64 bs] 53)).setCell ⟨w2.heap.size, K, none⟩ (.int .i64 (z + 1)))
          ∧ ((wr.alloc (.cells #[.int .i64 K, .int .i64 d, .int .i64 bs] 53)).setCell ⟨w2.heap.size, K, none⟩ (.int .i64 (z + 1))).heap[wr.heap.size]? = some (.cells #[.int .i64 K, .int .i64 d, .int .i64 bs] 53) := by
        obtain ⟨hM, _, _, _, _, _, _, hz⟩ := HM2.out
        have hlt := lt_of_block hM.many
        have h := (hM.keep (wr' := wr.alloc (.cells #[.int .i64 K, .int .i64 d, .int .i64 bs] 53)) ((Below.refl _ _).alloc (Nat.le_refl _) _)).setMany K (z + 1)
        have e : bump st.many K = st.many.set K (z + 1) := by unfold bump; rw [List.getD_eq_getElem?_getD, hz]; rfl
        rw [e]
        exact ⟨h, (heap_setCell_other _ _ _ _ (show wr.heap.size ≠ w2.heap.size by omega)).trans (heap_new _ _ _ rfl)⟩
      refine wp_gen (fun W => VMem w.heap.size w2.heap.size (w2.heap.size + 1) (w1.heap.size + 1) N cnt { todo := L, seen := st.seen, many := bump st.many K, wrong := st.wrong } (.slice (some ⟨g, 0, none⟩) L.length cap) w W ∧ W.heap[wr.heap.size]? = some (.cells #[.int .i64 K, .int .i64 d, .int .i64 bs] 53)) HGEN ?_
      clear HGEN cz fz c0 c1 c2
      rintro W ⟨hMW, hfW⟩
      have c0 := cell_of_row _ _ 0 _ _ _ hfW
      have c1 := cell_of_row _ _ 1 _ _ _ hfW
      have c2 := cell_of_row _ _ 2 _ _ _ hfW
      obtain ⟨e, hwe⟩ : ∃ e, st.wrong[K]? = some e := ⟨_, List.getElem?_eq_getElem (by have := HM2.out.2.1.wrong; simp only at this; omega)⟩
      obtain ⟨ce, fe⟩ := hMW.wrongAt K hwe
      have HMW := Lib.hid hMW
      have HW := Lib.hid hwe
      have HFW := Lib.hid hfW
      clear hMW hwe hfW
      have hk0 : (0 : Int) ≤ (K : Int) := by omega
      have hk1 : (K : Int) < (N : Int) + 1 := by omega
      by_cases hend : K = N
      · obtain rfl := hend
        by_cases hbs : 0 ≤ bs
        · go_wp2
          go_roundg F
          case measure => omega
          case rel =>
            obtain ⟨hM, hOk, hmu, hcnt, hmany, hR, hL, hz⟩ := HM2.out
            refine VRel.of (cnt := cnt) HN.out HL.out ?_ hOk ⟨p1, p2, p3, p4, p5, p6⟩ hmu (by omega) hmany hR
            rw [vstep_end_bad HN.out (by omega)]
            exact HMW.out.setWrong K 156
        · go_wp2
          go_roundg F
          case measure => omega
          case rel =>
            obtain ⟨hM, hOk, hmu, hcnt, hmany, hR, hL, hz⟩ := HM2.out
            refine VRel.of (cnt := cnt) HN.out HL.out ?_ hOk ⟨p1, p2, p3, p4, p5, p6⟩ hmu (by omega) hmany hR
            rw [vstep_end_good HN.out (by omega)]
            exact HMW.out
      · have hKlt : K < N := by omega
        have hk2 : (K : Int) < (N : Int) := by omega
        obtain ⟨⟨op, a⟩, hx⟩ : ∃ x, l[K]? = some x := ⟨_, List.getElem?_eq_getElem (by rw [← HN.out]; exact hKlt)⟩
        obtain ⟨x0, x1⟩ := HCL.out K _ hx
        simp only at x0 x1
        have y0 := (HMW.out.below.cell (p := ⟨b, _, none⟩) (block_lt_of_cell x0)).trans x0
        have y1 := (HMW.out.below.cell (p := ⟨b, _, none⟩) (block_lt_of_cell x1)).trans x1
        have hXlt := block_lt_of_cell y0
        have hFlt := lt_of_block HFW.out
        simp only at hXlt
        have HX := Lib.hid hx
        obtain ⟨E, hE⟩ : ∃ E, E = amissS op d bs := ⟨_, rfl⟩
        have HAM := fun w' => Lib.hid (hE ▸ amiss_any op a d bs w' p3 p4)
        have HE := Lib.hid hE
        clear x0 x1 hx hE
        go_upto_region 16 with fail
        go_region_held3 (fun w' => w'.cell? ⟨wr.heap.size, 0, none⟩ = some (.int .i64 K) ∧ w'.cell? ⟨wr.heap.size, 1, none⟩ = some (.int .i64 d) ∧ w'.cell? ⟨wr.heap.size, 2, none⟩ = some (.int .i64 bs) ∧ w'.cell? ⟨b, o + K * 2, none⟩ = some (.int .i64 op) ∧ w'.cell? ⟨b, o + K * 2 + 1, none⟩ = some (.int .i64 a))
          (first | exact ⟨c0, c1, c2, y0, y1⟩ | exact ⟨(hb5.cell (p := ⟨wr.heap.size, 0, none⟩) hFlt).trans c0, (hb5.cell (p := ⟨wr.heap.size, 1, none⟩) hFlt).trans c1, (hb5.cell (p := ⟨wr.heap.size, 2, none⟩) hFlt).trans c2, (hb5.cell (p := ⟨b, _, none⟩) hXlt).trans y0, (hb5.cell (p := ⟨b, _, none⟩) hXlt).trans y1⟩)
          (first | (go_at_call 19; refine (HAM _).out.mono ?_; rintro e5 w5 ⟨rfl, hb5⟩))
        have hM5 := HMW.out.keep (show Below W.heap.size W w5 from ⟨hb5.os, hb5.tape, hb5.output, hb5.size, hb5.block⟩)
        have hF5 := (hb5.block _ hFlt).trans HFW.out
        have ce5 := (hM5.wrongAt K HW.out).1
        have fe5 := (hM5.wrongAt K HW.out).2
        have z0 := (hb5.cell (p := ⟨b, _, none⟩) hXlt).trans y0
        have z1 := (hb5.cell (p := ⟨b, _, none⟩) hXlt).trans y1
        clear c0 c1 c2 ce fe y0 y1 hXlt hFlt HMW HFW hb5 HAM
        have c0 := cell_of_row _ _ 0 _ _ _ hF5
        have c1 := cell_of_row _ _ 1 _ _ _ hF5
        have c2 := cell_of_row _ _ 2 _ _ _ hF5
        have HM5 := Lib.hid hM5
        have HF5 := Lib.hid hF5
        clear hM5 hF5
        by_cases hE0 : E = 0
        · subst hE0
          obtain ⟨P, d2, b2, hP⟩ : ∃ P d2 b2, behindS op a K d bs = (P, d2, b2) := ⟨_, _, _, rfl⟩
          have HBE := fun w' => Lib.hid (hP ▸ behind_any op a K d bs w' p3 p4 (by omega) (by omega))
          have HP := Lib.hid hP
          clear hP
          go_upto_region 20 with fail
          go_cut [13, 14] (fun u v wx => ∃ (ao : Option Addr) (g14 : Nat), u = .slice ao P.length P.length ∧ v = .pointer (some ⟨g14, 0, none⟩) ∧ wx.heap[g14]? = some (.cells #[.int .i64 d2, .int .i64 b2] 51) ∧ (P ≠ [] → ∃ gp, ao = some ⟨gp, 0, none⟩ ∧ wx.heap[gp]? = some (.cells (ints P) 3)) ∧ Below w5.heap.size w5 wx)
          case first =>
            have hXlt := block_lt_of_cell z0
            have hFlt := lt_of_block HF5.out
            simp only at hXlt
            go_region_held3 (fun w' => w'.cell? ⟨wr.heap.size, 0, none⟩ = some (.int .i64 K) ∧ w'.cell? ⟨wr.heap.size, 1, none⟩ = some (.int .i64 d) ∧ w'.cell? ⟨wr.heap.size, 2, none⟩ = some (.int .i64 bs) ∧ w'.cell? ⟨b, o + K * 2, none⟩ = some (.int .i64 op) ∧ w'.cell? ⟨b, o + K * 2 + 1, none⟩ = some (.int .i64 a))
              (first | go_keep | exact five_keep hFlt hXlt c0 c1 c2 z0 z1 (below_plain hb6) | exact five_keep hFlt hXlt c0 c1 c2 z0 z1 ((below_plain hb6).alloc hb6.size _) | exact five_keep hFlt hXlt c0 c1 c2 z0 z1 (below_pre hb6) | exact five_keep hFlt hXlt c0 c1 c2 z0 z1 (((below_pre hb6).setCell (p := ⟨w5.heap.size, 0, none⟩) (Nat.le_refl _) _).setCell (p := ⟨w5.heap.size, 1, none⟩) (Nat.le_refl _) _))
              (first | (go_at_call 20; refine (HBE _).out.mono ?_; rintro e6 w6 ⟨ao, rfl, hpl, hb6⟩; try (have kk := pre_cells hb6; obtain ⟨k0, k1, k2, k3, k4⟩ := kk)))
            · go_wp2_with fail
              go_meet
              have hb6' := below_plain hb6
              exact ⟨ao, w6.heap.size, rfl, rfl, heap_new _ _ _ rfl, fun h => (fun ⟨gp, e1, _, e3⟩ => ⟨gp, e1, (Below.heap_alloc _ _ _ (lt_of_block e3)).trans e3⟩) (hpl h), hb6'.alloc hb6'.size _⟩
            · go_wp2_with fail
              go_meet
              have hb6' := below_pre hb6
              exact ⟨ao, w5.heap.size, rfl, rfl, two_set k4, fun h => (fun ⟨gp, e1, e2, e3⟩ => ⟨gp, e1, (two_other (by simp at e2; omega)).trans e3⟩) (hpl h), (hb6'.setCell (p := ⟨w5.heap.size, 0, none⟩) (Nat.le_refl _) _).setCell (p := ⟨w5.heap.size, 1, none⟩) (Nat.le_refl _) _⟩
          case rest =>
            obtain ⟨ao6, g14, rfl, rfl, h14, hpl, hB6⟩ := hcut
            have hM6 := HM5.out.keep hB6
            obtain ⟨gp, hgp⟩ : ∃ gp, P ≠ [] → ao6 = some ⟨gp, 0, none⟩ ∧ wc.heap[gp]? = some (.cells (ints P) 3) := by
              by_cases h : P = []
              · exact ⟨0, fun h' => absurd h h'⟩
              · obtain ⟨gp, h1, h2⟩ := hpl h
                exact ⟨gp, fun _ => ⟨h1, h2⟩⟩
            obtain ⟨hM, hOk, hmu, hcnt, hmany, hR, hL, hz⟩ := HM2.out
            have hlen : P.length ≤ 2 := by have := behindS_len op a K d bs; rw [HP.out] at this; exact this
            have hokP : ∀ x ∈ P, okP N (x, d2, b2) := by
              have := behind_ok (n := N) (op := op) (a := a) (k := K) (d := d) (b := bs) ⟨p1, p2, p3, p4, p5, p6⟩ hk2 (by rw [HN.out]; exact (HL.out K _ HX.out).2) HE.out.symm
              rw [HP.out] at this
              exact this
            have hfin : vstep l (K, d, bs) { st with todo := L } = addAll d2 b2 P { todo := L, seen := st.seen, many := bump st.many K, wrong := st.wrong } := by rw [vstep_go HX.out HE.out.symm, HP.out]
            have hOk1 : VOk N { todo := L, seen := st.seen, many := bump st.many K, wrong := st.wrong } := ⟨hOk.todo, by rw [bump_length]; exact hOk.many, hOk.wrong⟩
            have hF : F ≤ 1000000 := by omega
            have HALL := Lib.hid (⟨hM6, hOk1, hmu, hfin, hokP, hgp, hcnt⟩ : _ ∧ _ ∧ _ ∧ _ ∧ _ ∧ _ ∧ _)
            have H14 := Lib.hid h14
            clear c0 c1 c2 ce5 fe5 z0 z1 hpl hM6 hM hOk hmu hcnt hmany hR hL hz hokP hfin hOk1 h14 hgp
            go_wp2
            go_loopw [10, 114] (fun v u wx => IRel w.heap.size w2.heap.size (w2.heap.size + 1) (w1.heap.size + 1) N cnt F d2 b2 P (vstep l (K, d, bs) { st with todo := L }) gp g14 w v u wx) (fun _ u _ => P.length - (intOf u).toNat)
            case atStart =>
              obtain ⟨hM6, hOk1, hmu, hfin, hokP, hgp, hcnt⟩ := HALL.out
              exact ⟨0, _, cnt, Nat.zero_le _, rfl, hM6, hfin.symm, hOk1, hmu, Nat.le_refl _, H14.out, fun h => (hgp h).2⟩
            case round =>
              obtain ⟨k, st', cnt', hk, rfl, hMx, hA, hOk', hmu', hcnt', hx14, hxp⟩ := hrel
              by_cases hlt : k < P.length
              · have hne : P ≠ [] := by intro h; rw [h] at hlt; simp at hlt
                obtain ⟨-, -, -, -, hokP, hgp, hcnt⟩ := HALL.out
                obtain ⟨rfl, -⟩ := hgp hne
                obtain ⟨x, hx⟩ : ∃ x, P[k]? = some x := ⟨_, List.getElem?_eq_getElem hlt⟩
                have hq : wr.cell? ⟨gp, k, none⟩ = some (.int .i64 x) := (cell_of_row _ _ k _ _ _ (hxp hne)).trans (ints_at _ _ hx)
                have hd0 := cell_of_row _ _ 0 _ _ _ hx14
                have hd1 := cell_of_row _ _ 1 _ _ _ hx14
                have hpx := hokP x (List.mem_of_getElem? hx)
                have hdr : P.drop k = x :: P.drop (k + 1) := by
                  rw [List.drop_eq_getElem_cons hlt]
                  congr 1
                  exact (List.getElem?_eq_some_iff.1 hx).2
                rw [hdr, addAll] at hA
                have hkey := keyOf_found hl2 hpx
                have hstep := addOne_ok hOk' hpx
                have hMy := hMx.keep (wr' := wr.alloc (.cells #[.int .i64 x, .int .i64 d2, .int .i64 b2] 53)) ((Below.refl _ _).alloc (Nat.le_refl _) _)
                obtain ⟨D, hown, hseen⟩ := hMy.seen
                have hi0 : (0 : Int) ≤ (k : Int) := by omega
                have hi1 : (k : Int) < (P.length : Int) := by omega
                have HY := Lib.hid (⟨hMy, hMx, hA, hOk', hmu', hcnt', hx14, hxp, hseen, hstep, hcnt⟩ : _ ∧ _ ∧ _ ∧ _ ∧ _ ∧ _ ∧ _ ∧ _ ∧ _ ∧ _ ∧ _)
                cases hc : st'.seen.contains (x, d2, b2) with
                | true =>
                  have hat0 : D.atKey (keyP (x, d2, b2)) (.lit (.int .i64 0)) = .lit (.int .i64 1) := by rw [hseen.at_ _ hpx, hc]; rfl
                  have HC1 := Lib.hid hc
                  clear hMy hMx hA hOk' hmu' hcnt' hx14 hxp hseen hstep hcnt hokP hgp hx hdr hc
                  go_wp2_with (first | (at_lookup; refine wpList_lookup_own_int (H := Unit) _ rfl _ _ 54 rfl 53 3 .i64 foundLaw Tryz.underlying54 Tryz.underlying3 (zeroInt _) (w1.heap.size + 1) cnt' D rfl hown _ _ rfl hkey ?_; intro c hat hwc; obtain rfl := at_one hat0 hat))
                  go_roundw
                  case rel =>
                    obtain ⟨hMy, hMx, hA, hOk', hmu', hcnt', hx14, hxp, hseen, hstep, hcnt⟩ := HY.out
                    have hs : addOne (x, d2, b2) st' = st' := by unfold addOne; rw [HC1.out]; rfl
                    rw [hs] at hA
                    exact ⟨k + 1, st', cnt', by omega, by go_num, hMy, hA, hOk', hmu', by omega, (Below.heap_alloc _ _ _ (lt_of_block hx14)).trans hx14, fun h => (Below.heap_alloc _ _ _ (lt_of_block (hxp h))).trans (hxp h)⟩
                  case measure => simp [intOf]; omega
                | false =>
                  have hat0 : D.atKey (keyP (x, d2, b2)) (.lit (.int .i64 0)) = .lit (.int .i64 0) := by rw [hseen.at_ _ hpx, hc]; rfl
                  have HC1 := Lib.hid hc
                  have hcb : cnt' < maxLen := by unfold maxLen; omega
                  have htl : st'.todo.length + 1 ≤ 3000000 := by unfold mu at hmu'; omega
                  have hmb : w1.heap.size + 1 < wr.heap.size := hMx.mapLt
                  clear hMy hMx hA hOk' hmu' hcnt' hx14 hxp hseen hstep hcnt hokP hgp hx hdr hc
                  go_wp2_with (first
                    | (at_lookup; refine wpList_lookup_own_int (H := Unit) _ rfl _ _ 54 rfl 53 3 .i64 foundLaw Tryz.underlying54 Tryz.underlying3 (zeroInt _) (w1.heap.size + 1) cnt' D rfl hown _ _ rfl hkey ?_; intro c hat hwc; obtain rfl := at_one hat0 hat)
                    | (at_mapUpdate; refine wpList_mapUpdate_own (H := Unit) _ rfl _ _ _ 54 rfl 53 3 foundLaw Tryz.underlying54 _ (w1.heap.size + 1) cnt' D rfl hown hcb _ _ _ rfl rfl hkey _ [] (plainElem_int Tryz.underlying3 (by decide)) ?_; intro w7 hown7 hgrow7; have hf7 := grow_new hgrow7 hmb; have m0 := cell_of_row _ _ 0 _ _ _ hf7; have m1 := cell_of_row _ _ 1 _ _ _ hf7; have m2 := cell_of_row _ _ 2 _ _ _ hf7; have hM7 := HY.out.1.mapPut hl2 hpx HY.out.2.2.2.2.2.2.2.2.1 hown7 hgrow7; have HM8 := Lib.hid (hM7.keep (wr' := w7.alloc (.cells #[.int .i64 x, .int .i64 d2, .int .i64 b2] 53)) ((Below.refl _ _).alloc (Nat.le_refl _) _)); clear hM7)
                    | (at_builtin; refine wpList_push (l := st'.todo) (by exact HM8.out.todo) (by exact HM8.out.lt) w7.heap.size (x, d2, b2) 1 (by exact cells3_at (heap_new _ _ _ rfl)) htl rfl _ _ rfl rfl rfl ?_; intro v8 w8 ht8 hgrow8))
                  go_roundw
                  case rel =>
                    obtain ⟨hMy, hMx, hA, hOk', hmu', hcnt', hx14, hxp, hseen, hstep, hcnt⟩ := HY.out
                    have hs : addOne (x, d2, b2) st' = { st' with todo := st'.todo ++ [(x, d2, b2)], seen := (x, d2, b2) :: st'.seen } := by unfold addOne; rw [HC1.out]; rfl
                    rw [hs] at hA hstep
                    exact ⟨k + 1, _, cnt' + 1, by omega, by go_num, HM8.out.push ht8 hgrow8, hA, hstep.1, Nat.le_trans hstep.2.1 hmu', by omega, hMx.carry hx14 (by decide) hgrow7 hgrow8, fun h => hMx.carry (hxp h) (by decide) hgrow7 hgrow8⟩
                  case measure => simp [intOf]; omega
              · obtain rfl : k = P.length := by omega
                rw [List.drop_eq_nil_of_le (Nat.le_refl _), addAll] at hA
                have HY := Lib.hid (⟨hMx, hA, hcnt'⟩ : _ ∧ _ ∧ _)
                clear hMx hA hOk' hmu' hcnt' hx14 hxp
                go_wp2
                go_roundg F
                case measure => omega
                case rel =>
                  obtain ⟨hMx, hA, hcnt'⟩ := HY.out
                  obtain ⟨hM, hOk, hmu, hcnt, hmany, hR, hL, hz⟩ := HM2.out
                  subst hA
                  exact VRel.of (cnt := cnt') HN.out HL.out hMx hOk ⟨p1, p2, p3, p4, p5, p6⟩ hmu (by omega) hmany hR
        · by_cases he : e = 155
          · subst he
            go_wp2
            go_roundg F
            case measure => omega
            case rel =>
              obtain ⟨hM, hOk, hmu, hcnt, hmany, hR, hL, hz⟩ := HM2.out
              refine VRel.of (cnt := cnt) HN.out HL.out ?_ hOk ⟨p1, p2, p3, p4, p5, p6⟩ hmu (by omega) hmany hR
              rw [vstep_kept HX.out (by rw [← HE.out]; exact hE0) (show ({ st with todo := L } : VS).wrong[K]? = _ from HW.out) rfl]
              exact HM5.out
          · go_wp2
            go_roundg F
            case measure => omega
            case rel =>
              obtain ⟨hM, hOk, hmu, hcnt, hmany, hR, hL, hz⟩ := HM2.out
              refine VRel.of (cnt := cnt) HN.out HL.out ?_ hOk ⟨p1, p2, p3, p4, p5, p6⟩ hmu (by omega) hmany hR
              rw [vstep_wrong HX.out (by rw [← HE.out]; exact hE0) (show ({ st with todo := L } : VS).wrong[K]? = _ from HW.out) he, ← HE.out]
              exact HM5.out.setWrong K E
theorem Verify_any (ao : Option Addr) (c : Nat) (l : List (Int × Int)) (w : World) (hs : SeesP w ao l) (hn : l.length ≤ maxLen) :
    Calls Tryz.prog 9 #[.slice ao l.length c] w fun e w' => e = .returned (.tuple #[.int .i64 (verifyL l).1, .int .i64 (verifyL l).2]) ∧ Below w.heap.size w w' := by
  by_cases h : (checkL l).1 = 0
  · exact Verify_good ao c l w hs h
  · exact Verify_bad ao c l w hs hn h
end Go.Proofs.YtojgdabkdbchnaaGreatDoor
