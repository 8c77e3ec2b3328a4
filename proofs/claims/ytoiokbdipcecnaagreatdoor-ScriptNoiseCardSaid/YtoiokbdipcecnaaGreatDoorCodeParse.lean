/-
  quash/code.Parse: for every text: what it answers. Condition: the library's variables (Env).
-/
import Derived.Test.YtoiokbdipcecnaaGreatDoorCodeRead
import Derived.Test.YtoiokbdipcecnaaGreatDoorCodePlaces
import Derived.Test.YtoiokbdipcecnaaGreatDoorCodeCatch
import Derived.Test.YtoiokbdipcecnaaGreatDoorCodeLines
import Derived.Test.YtoiokbdipcecnaaGreatDoorCodeTrim
import Derived.Tactics2
import Derived.Defers
import Derived.Recover
import Derived.Deep.DeepMust
namespace Go.Proofs.YtoiokbdipcecnaaGreatDoor
open Go.RowKit Go.Maps Go.WideMaps
set_option maxRecDepth 100000

structure RS.Fit (st : RS) : Prop where
  ok : st.Ok
  nm : ∀ k s, namAt st.named k = some s → s.length ≤ 65536
theorem namAt_cons {k j : Nat} {s : List UInt8} {r : List (Nat × List UInt8)} : namAt ((k, s) :: r) j = if k = j then some s else namAt r j := by
  unfold namAt
  rw [List.find?_cons]
  by_cases h : k = j
  · subst h; simp
  · have : (k == j) = false := by simpa using h
    simp [this, h]
theorem operandS_fit {st : RS} (h : st.Fit) {tk a : Int} {s : List UInt8} {nm : List (Nat × List UInt8)} (hs : operandS st tk s = some (a, nm)) : nm.length ≤ st.l.length + 1 ∧ ∀ k s, namAt nm k = some s → s.length ≤ 65536 := by
  have hb := h.ok.b
  unfold operandS at hs
  split at hs
  · rename_i hc
    injection hs with hs; injection hs with _ hs; subst hs
    refine ⟨by simp only [List.length_cons]; omega, fun k s2 hk => ?_⟩
    rw [namAt_cons] at hk
    split at hk
    · injection hk with hk; subst hk
      have := hc.2
      simp [isNameB] at this
      omega
    · exact h.nm k s2 hk
  · split at hs
    · cases hs
    · injection hs with hs; injection hs with _ hs; subst hs
      exact ⟨by omega, h.nm⟩
theorem readS_fit {st st' : RS} {line : Int} {l0 : List UInt8} (h : st.Fit) (hr : readS st line l0 = .ok st') : st'.Fit := by
  have ha := h.ok.a
  have hb := h.ok.b
  unfold readS at hr
  simp only at hr
  split at hr
  · injection hr with hr; subst hr; exact h
  split at hr
  · split at hr
    · cases hr
    split at hr
    · cases hr
    split at hr
    · cases hr
    injection hr with hr; subst hr
    exact ⟨⟨ha, hb⟩, h.nm⟩
  generalize (if Lib.indexAny (Lib.trimS l0 [32, 9]) [32, 9] < 0 then Lib.trimS l0 [32, 9] else _) = wd at hr
  generalize (if Lib.indexAny (Lib.trimS l0 [32, 9]) [32, 9] < 0 then [] else _) = rest at hr
  split at hr
  · cases hr
  split at hr
  · split at hr
    · cases hr
    split at hr
    · cases hr
    injection hr with hr; subst hr
    exact ⟨⟨by simp; omega, by simp; omega⟩, h.nm⟩
  split at hr
  · cases hr
  split at hr
  · cases hr
  · rename_i a nm hop
    have := operandS_fit h hop
    split at hr
    · cases hr
    injection hr with hr; subst hr
    exact ⟨⟨by simp; omega, by simp; omega⟩, this.2⟩

/-- the lines, one behind the other -/
def readAll : RS → Nat → List (List UInt8) → Except (Int × Int) RS
  | st, _, [] => .ok st
  | st, k, x :: r =>
    match readS st ((k + 1 : Nat) : Int) (Lib.cut x [59]).1 with
    | .error er => .error (er, ((k + 1 : Nat) : Int))
    | .ok st' => readAll st' (k + 1) r
/-- what a text comes to: an error and its line, or the instructions -/
def parseL (t : List UInt8) : Except (Int × Int) (List (Int × Int)) :=
  if 65536 < t.length then .error (150, 0) else
  match readAll ⟨[], [], [], []⟩ 0 (linesL 10 t) with
  | .error e => .error e
  | .ok st => match placesS st with
    | .error e => .error e
    | .ok l => if l.isEmpty then .error (150, 0) else .ok l
def ParseDoes (t : List UInt8) (w : World) (e : Ending) (w' : World) : Prop :=
  match parseL t with
  | .error (er, ln) => e = .returned (.tuple #[.slice none 0 0, .int .i64 ln, .int .i64 er]) ∧ Below w.heap.size w w'
  | .ok l => ∃ v, e = .returned (.tuple #[v, .int .i64 0, .int .i64 0]) ∧ w'.ownsRow w.heap.size 82 2 v l.length (instrCells l) ∧ Below w.heap.size w w'

theorem linesL_len (c : UInt8) : ∀ (t : List UInt8), (linesL c t).length ≤ t.length + 1 ∧ ∀ x ∈ linesL c t, x.length ≤ t.length ∧ ∀ b ∈ x, b ∈ t
  | [] => by simp [linesL]
  | b :: r => by
    obtain ⟨h1, h2⟩ := linesL_len c r
    unfold linesL
    split
    · refine ⟨by simpa using h1, fun x hx => ?_⟩
      rcases List.mem_cons.1 hx with rfl | hx
      · simp
      · have := h2 x hx
        exact ⟨by simp; omega, fun d hd => List.mem_cons_of_mem _ (this.2 d hd)⟩
    · split
      · rename_i h t he
        rw [he] at h1 h2
        refine ⟨by simp at h1 ⊢; omega, fun x hx => ?_⟩
        rcases List.mem_cons.1 hx with rfl | hx
        · have := h2 h (by simp)
          refine ⟨by simp; exact this.1, fun d hd => ?_⟩
          rcases List.mem_cons.1 hd with rfl | hd
          · simp
          · exact List.mem_cons_of_mem _ (this.2 d hd)
        · have := h2 x (by simp [hx])
          exact ⟨by simp; omega, fun d hd => List.mem_cons_of_mem _ (this.2 d hd)⟩
      · simp
theorem cut_sub (x : List UInt8) : (Lib.cut x [59]).1.length ≤ x.length ∧ ∀ b ∈ (Lib.cut x [59]).1, b ∈ x := by
  unfold Lib.cut
  split
  · exact ⟨by simp; omega, fun b hb => List.mem_of_mem_take hb⟩
  · exact ⟨Nat.le_refl _, fun b hb => hb⟩
theorem placesN_length {labels : List (List UInt8 × Nat)} {named : List (Nat × List UInt8)} {lines : List Int} {n : Nat} : ∀ {f k : Nat} {l l' : List (Int × Int)}, placesN labels named lines n f k l = .ok l' → l'.length = l.length
  | 0, _, _, _, h => by injection h with h; rw [h]
  | f + 1, k, l, l', h => by
    unfold placesN at h
    split at h
    · cases h
    · rw [placesN_length h, List.length_set]
theorem readAll_take {L : List (List UInt8)} {k : Nat} (h : k < L.length) (st : RS) : readAll st k (L.drop k) = match readS st ((k + 1 : Nat) : Int) (Lib.cut L[k] [59]).1 with
    | .error er => .error (er, ((k + 1 : Nat) : Int))
    | .ok st' => readAll st' (k + 1) (L.drop (k + 1)) := by
  rw [List.drop_eq_getElem_cons h]; rfl

theorem empty_fit : (⟨[], [], [], []⟩ : RS).Fit := ⟨⟨rfl, Nat.le_refl _⟩, fun k s h => by cases h⟩
theorem Keep.below_at {w w' : World} {rb lb nb g : Nat} {vl vls : Value} (h : Keep w w' rb lb nb vl vls) (_hR : True) {o : Obj} (ho : w.heap[g]? = some o) (hn : ¬ RdIn rb lb nb vl vls g) : w'.heap[g]? = some o := (h g (lt_of_block ho) hn).trans ho
/-- a block of strings is none of a reader's -/
theorem Rd.not_in {w : World} {B rb lb nb : Nat} {vl vls : Value} {st : RS} {line : Int} (h : Rd w B rb lb nb vl vls st line) {g : Nat} {xs : Array Value} (hg : w.heap[g]? = some (.cells xs 9)) : ¬ RdIn rb lb nb vl vls g := by
  rintro (rfl | rfl | rfl | hb | hb)
  · rw [h.blk] at hg; injection hg with hg; injection hg with _ hg; exact absurd hg (by decide)
  · obtain ⟨_, _, hm⟩ := map_block h.lab; rw [hm] at hg; cases hg
  · obtain ⟨_, _, hm⟩ := map_block h.nam; rw [hm] at hg; cases hg
  · obtain ⟨_, hm⟩ := own_block h.own hb; rw [hm] at hg; injection hg with hg; injection hg with _ hg; exact absurd hg (by decide)
  · obtain ⟨_, hm⟩ := own_block h.ownl hb; rw [hm] at hg; injection hg with hg; injection hg with _ hg; exact absurd hg (by decide)

theorem heap_new (W : World) (O : Obj) (g : Nat) (h : g = W.heap.size) : (W.alloc O).heap[g]? = some O := by subst h; exact (MapKept.heap_alloc W O).1
/-- the reader as Parse makes it, the lines beside it -/
theorem parse_start (W : World) (xs : Array Value) :
    Rd ((((W.alloc (.map #[] 0)).alloc (.map #[] 0)).alloc (.cells #[.slice none 0 0, .map (some W.heap.size), .map (some (W.heap.size+1)), .slice none 0 0, .int .i64 0] 158)).alloc (.cells xs 9)) W.heap.size (W.heap.size+1+1) W.heap.size (W.heap.size+1) (.slice none 0 0) (.slice none 0 0) ⟨[], [], [], []⟩ 0 ∧
    Below W.heap.size W ((((W.alloc (.map #[] 0)).alloc (.map #[] 0)).alloc (.cells #[.slice none 0 0, .map (some W.heap.size), .map (some (W.heap.size+1)), .slice none 0 0, .int .i64 0] 158)).alloc (.cells xs 9)) ∧
    ((((W.alloc (.map #[] 0)).alloc (.map #[] 0)).alloc (.cells #[.slice none 0 0, .map (some W.heap.size), .map (some (W.heap.size+1)), .slice none 0 0, .int .i64 0] 158)).alloc (.cells xs 9)).heap[W.heap.size+1+1+1]? = some (.cells xs 9) := by
  refine ⟨⟨?_, World.ownsRow_nil _ _ _ _, World.ownsRow_nil _ _ _ _, ?_, ?_, by omega, by omega, by omega, by omega, by simp, by simp, by simp, by simp, trivial⟩, ?_, ?_⟩
  · exact (Below.heap_alloc _ _ _ (by simp)).trans (heap_new _ _ _ (by simp))
  · exact (((World.ownsMap_made W _ _ _).alloc _).alloc _).alloc _
  · have h := (((World.ownsMap_made (H := Unit) (W.alloc (.map #[] 0)) Tryz.prog 3 (plainElem Tryz.prog 9)).alloc (.cells #[.slice none 0 0, .map (some W.heap.size), .map (some (W.heap.size+1)), .slice none 0 0, .int .i64 0] 158)).alloc (.cells xs 9))
    rwa [show (W.alloc (.map #[] 0)).heap.size = W.heap.size + 1 by simp] at h
  · refine ((((Below.refl _ _).alloc (Nat.le_refl _) _).alloc ?_ _).alloc ?_ _).alloc ?_ _ <;> simp <;> omega
  · exact heap_new _ _ _ (by simp)
/-- the end of Parse after a fault -/
theorem parse_ends_fault {w W0 W : World} (hW0 : W0 = ((w.alloc (Obj.cells #[Value.slice none 0 0] 45)).alloc (Obj.cells #[Value.int IntKind.i64 0] 3)).alloc (Obj.cells #[Value.int IntKind.i64 0] 30))
    (hB : Below (w.heap.size+1+1+1) W0 W) : W.heap[w.heap.size]? = some (.cells #[.slice none 0 0] 45) ∧ W.heap[w.heap.size+1]? = some (.cells #[.int .i64 0] 3) ∧ W.heap[w.heap.size+1+1]? = some (.cells #[.int .i64 0] 30) ∧ Below w.heap.size w W := by
  subst hW0
  refine ⟨(hB.block _ (by omega)).trans ?_, (hB.block _ (by omega)).trans ?_, (hB.block _ (by omega)).trans ?_, ?_⟩
  · exact (Below.heap_alloc _ _ _ (by simp; omega)).trans ((Below.heap_alloc _ _ _ (by simp)).trans (heap_new _ _ _ rfl))
  · exact (Below.heap_alloc _ _ _ (by simp)).trans (heap_new _ _ _ (by simp))
  · exact heap_new _ _ _ (by simp)
  · have h1 : Below w.heap.size w (((w.alloc (Obj.cells #[Value.slice none 0 0] 45)).alloc (Obj.cells #[Value.int IntKind.i64 0] 3)).alloc (Obj.cells #[Value.int IntKind.i64 0] 30)) := by
      refine (((Below.refl _ _).alloc (Nat.le_refl _) _).alloc ?_ _).alloc ?_ _ <;> simp <;> omega
    exact h1.trans (hB.mono (by omega))

theorem three_set0 {w : World} {p q r B : Nat} {x0 : Value} {x1 x2 y0 y1 y2 : Value} {t0 t1 t2 : TypeId} (c0 : w.heap[p]? = some (.cells #[x0] t0)) (c1 : w.heap[q]? = some (.cells #[x1] t1)) (c2 : w.heap[r]? = some (.cells #[x2] t2)) (n1 : p ≠ q) (n2 : p ≠ r) (n3 : q ≠ r) (b1 : B ≤ p) (b2 : B ≤ q) (b3 : B ≤ r) (W : World)
    (hW : W = (((w.setCell ⟨p, 0, none⟩ y0).setCell ⟨q, 0, none⟩ y1).setCell ⟨r, 0, none⟩ y2)) :
    W.heap[p]? = some (.cells #[y0] t0) ∧ W.heap[q]? = some (.cells #[y1] t1) ∧ W.heap[r]? = some (.cells #[y2] t2) ∧ Below B w W ∧ ∀ g, g ≠ p → g ≠ q → g ≠ r → W.heap[g]? = w.heap[g]? := by
  have k0 : (w.setCell ⟨p, 0, none⟩ y0).heap[p]? = some (.cells #[y0] t0) := by rw [heap_setCell_same w p 0 _ _ _ c0]; rfl
  have k1 : (w.setCell ⟨p, 0, none⟩ y0).heap[q]? = some (.cells #[x1] t1) := (heap_setCell_other _ _ _ _ (fun e => n1 e.symm)).trans c1
  have k2 : (w.setCell ⟨p, 0, none⟩ y0).heap[r]? = some (.cells #[x2] t2) := (heap_setCell_other _ _ _ _ (fun e => n2 e.symm)).trans c2
  have m0 := (heap_setCell_other (w.setCell ⟨p, 0, none⟩ y0) ⟨q, 0, none⟩ p y1 n1).trans k0
  have m1 : ((w.setCell ⟨p, 0, none⟩ y0).setCell ⟨q, 0, none⟩ y1).heap[q]? = some (.cells #[y1] t1) := by rw [heap_setCell_same _ q 0 _ _ _ k1]; rfl
  have m2 := (heap_setCell_other (w.setCell ⟨p, 0, none⟩ y0) ⟨q, 0, none⟩ r y1 (fun e => n3 e.symm)).trans k2
  have j0 := (heap_setCell_other ((w.setCell ⟨p, 0, none⟩ y0).setCell ⟨q, 0, none⟩ y1) ⟨r, 0, none⟩ p y2 n2).trans m0
  have j1 := (heap_setCell_other ((w.setCell ⟨p, 0, none⟩ y0).setCell ⟨q, 0, none⟩ y1) ⟨r, 0, none⟩ q y2 n3).trans m1
  have j2 : (((w.setCell ⟨p, 0, none⟩ y0).setCell ⟨q, 0, none⟩ y1).setCell ⟨r, 0, none⟩ y2).heap[r]? = some (.cells #[y2] t2) := by rw [heap_setCell_same _ r 0 _ _ _ m2]; rfl
  subst hW
  exact ⟨j0, j1, j2, (((Below.refl B w).setCell (p := ⟨p, 0, none⟩) b1 _).setCell (p := ⟨q, 0, none⟩) b2 _).setCell (p := ⟨r, 0, none⟩) b3 _, fun g h1 h2 h3 => (heap_setCell_other _ _ _ _ h3).trans ((heap_setCell_other _ _ _ _ h2).trans (heap_setCell_other _ _ _ _ h1))⟩
theorem own_lower {w : World} {base base' : Nat} {e : TypeId} {size n : Nat} {v : Value} {xs : List Value} (h : w.ownsRow base e size v n xs) (hb : base' ≤ base) : w.ownsRow base' e size v n xs := by
  obtain ⟨h1, h2⟩ := h
  refine ⟨h1, ?_⟩
  rcases h2 with h2 | ⟨g, cap, cur, hv, hg, r⟩
  · exact Or.inl h2
  · exact Or.inr ⟨g, cap, cur, hv, by omega, r⟩
theorem own_ge {w : World} {base : Nat} {e : TypeId} {size n : Nat} {v : Value} {xs : List Value} (h : w.ownsRow base e size v n xs) {g : Nat} (hg : v.ownBlock = some g) : base ≤ g := by
  rcases h.2 with ⟨hv, _⟩ | ⟨g', cap, cur, hv, hb, hh, _⟩
  · rw [hv] at hg; cases hg
  · rw [hv] at hg
    have e1 : g' = g := by simpa [Value.ownBlock] using hg
    subst e1
    exact hb
theorem places_none {w : World} {B rb lb nb : Nat} {vl vls : Value} {st : RS} {line : Int} (h : Rd w B rb lb nb vl vls st line) (h0 : st.l.length = 0) :
    Calls Tryz.prog 97 #[.pointer (some ⟨rb, 0, none⟩)] w (fun e w' => e = .returned (.tuple #[]) ∧ w' = w) := by
  obtain ⟨a, cap, rfl⟩ : ∃ a cap, vl = .slice a 0 cap := by
    have ho := h.own
    rw [h0] at ho
    rcases ho.2 with ⟨hv, _⟩ | ⟨g', cap, cur, hv, _⟩
    · exact ⟨_, _, hv⟩
    · exact ⟨_, _, hv⟩
  obtain ⟨c0, c1, c2, c3, c4⟩ := h.cells
  go_enter Tryz.func97, Tryz.ntmps97
  go_wp2
  refine wp_loop_rounds 1 ?_
  rw [rounds_succ]
  go_wp2
  exact bodyPost_end (results_none rfl _ _ _) rfl ⟨rfl, rfl⟩

theorem Parse_every (t : List UInt8) (w : World) (he : Env w) :
    Calls Tryz.prog 74 #[.string (S t)] w (ParseDoes t w) := by
  have hmf : ∀ (fn : Fn) (first cap : Array Value) (w : World), (Instr.makeFunc fn first cap).run Tryz.prog w = .ok (.func fn first cap) w := fun _ _ _ _ => rfl
  have hsz : ((S t).size : Int) = t.length := by rw [S_size]
  by_cases hbig : 65536 < t.length
  · have hp : parseL t = .error (150, 0) := by unfold parseL; rw [if_pos hbig]
    have HP := Lib.hid hp
    clear hp
    go_enter_defers Tryz.func74, Tryz.ntmps74
    go_wp2
    simp [bodyPostD, Leaves, results, Tryz.results74, go_sem]
    unfold ParseDoes
    rw [HP.out]
    exact ⟨rfl, (((Below.refl _ _).alloc (Nat.le_refl _) _).alloc (by simp) _).alloc (by simp; omega) _⟩
  · have hmm := @run_makeMap Tryz.prog
    obtain ⟨W0, hW0⟩ : ∃ W0, W0 = ((w.alloc (Obj.cells #[Value.slice none 0 0] 45)).alloc (Obj.cells #[Value.int IntKind.i64 0] 3)).alloc (Obj.cells #[Value.int IntKind.i64 0] 30) := ⟨_, rfl⟩
    have hW0s : W0.heap.size = w.heap.size + 1 + 1 + 1 := by rw [hW0]; simp
    have hE0 : Env W0 := by rw [hW0]; exact he.below ((((Below.refl _ _).alloc (Nat.le_refl _) _).alloc (by simp) _).alloc (by simp; omega) _)
    have hEn : ∀ W, Below (w.heap.size + 1 + 1 + 1) W0 W → Env W := fun W hb => hE0.below (by rw [hW0s]; exact hb)
    have hst := parse_start W0 ((linesL 10 t).map fun x => Value.string (S x)).toArray
    rw [hW0s] at hst
    have HW0 := Lib.hid hW0
    have heS : Env (((((((w.alloc (Obj.cells #[Value.slice none 0 0] 45)).alloc (Obj.cells #[Value.int IntKind.i64 0] 3)).alloc (Obj.cells #[Value.int IntKind.i64 0] 30)).alloc (Obj.map #[] 0)).alloc (Obj.map #[] 0)).alloc (Obj.cells #[Value.slice none 0 0, .map (some (w.heap.size+1+1+1)), .map (some (w.heap.size+1+1+1+1)), .slice none 0 0, .int .i64 0] 158))) := by
      refine he.below ?_
      refine ((((((Below.refl _ _).alloc (Nat.le_refl _) _).alloc ?_ _).alloc ?_ _).alloc ?_ _).alloc ?_ _).alloc ?_ _ <;> simp <;> omega
    have HE := Lib.hid heS
    have HEN := Lib.hid hEn
    have HST := Lib.hid hst
    clear heS hst hW0 hE0 hEn
    go_enter_defers Tryz.func74, Tryz.ntmps74
    go_wp2_with (first | (go_at_call 47; refine (Split_any t 10 _ (by omega) HE.out).mono ?_; rintro e w1 ⟨rfl, rfl⟩))
    clear HE
    obtain ⟨L, hL⟩ : ∃ L, L = linesL 10 t := ⟨_, rfl⟩
    rw [← hL] at HST
    rw [← hL]
    refine wp_gen (fun W => Rd W (w.heap.size+1+1+1) (w.heap.size+1+1+1+1+1) (w.heap.size+1+1+1) (w.heap.size+1+1+1+1) (.slice none 0 0) (.slice none 0 0) ⟨[], [], [], []⟩ 0 ∧ Below (w.heap.size+1+1+1) W0 W ∧ W.heap[w.heap.size+1+1+1+1+1+1]? = some (.cells (L.map fun x => Value.string (S x)).toArray 9)) (by have h := HST.out; rw [HW0.out] at h ⊢; exact h) ?_
    rintro W1 ⟨hRs, hBs, hss⟩
    clear hmm HST
    have hLL := linesL_len 10 t
    rw [← hL] at hLL
    have hLt : L.length ≤ 65537 := by omega
    have hpar : parseL t = match readAll ⟨[], [], [], []⟩ 0 L with
      | .error e => .error e
      | .ok st => (match placesS st with
        | .error e => .error e
        | .ok l => if l.isEmpty then .error (150, 0) else .ok l) := by unfold parseL; rw [if_neg hbig, hL]
    have HPAR := Lib.hid hpar
    have HLN := Lib.hid (fun x hx => hLL.2 x hx)
    clear hpar hLL hL
    go_loopw [19] (fun v wr => ∃ (k : Nat) (st : RS) (vl vls : Value) (ln : Int), k ≤ L.length ∧ v = .int .i64 k ∧ Rd wr (w.heap.size+1+1+1) (w.heap.size+1+1+1+1+1) (w.heap.size+1+1+1) (w.heap.size+1+1+1+1) vl vls st ln ∧ st.Fit ∧ Below (w.heap.size+1+1+1) W0 wr ∧
      wr.heap[w.heap.size+1+1+1+1+1+1]? = some (.cells (L.map fun x => Value.string (S x)).toArray 9) ∧ readAll ⟨[], [], [], []⟩ 0 L = readAll st k (L.drop k)) (fun v _ => L.length - (intOf v).toNat)
    case atStart =>
      exact ⟨0, ⟨[], [], [], []⟩, .slice none 0 0, .slice none 0 0, 0, Nat.zero_le _, rfl, hRs, empty_fit, hBs, hss, rfl⟩
    case round =>
      obtain ⟨k, st, vl, vls, ln, hk, rfl, hR, hF, hB, hstr, hsp⟩ := hrel
      have HS := Lib.hid hsp
      clear hsp hRs hBs hss
      by_cases hlt : k < L.length
      · have hlk : wr.cell? ⟨w.heap.size+1+1+1+1+1+1, k, none⟩ = some (.string (S L[k])) := by simp [World.cell?, hstr, hlt]
        obtain ⟨c0, c1, c2, c3, c4⟩ := hR.cells
        have f4 := hR.frozen 4
        have HSTR := Lib.hid hstr
        have HFIT := Lib.hid hF
        clear hstr
        go_upto_region 9 with fail
        refine wp_gen (fun W => Rd W (w.heap.size+1+1+1) (w.heap.size+1+1+1+1+1) (w.heap.size+1+1+1) (w.heap.size+1+1+1+1) vl vls st ((k + 1 : Nat) : Int) ∧ Below (w.heap.size+1+1+1) W0 W ∧ W.heap[w.heap.size+1+1+1+1+1+1]? = some (.cells (L.map fun x => Value.string (S x)).toArray 9)) ⟨?_, ?_, ?_⟩ ?_
        · rw [show ((k + 1 : Nat) : Int) = (k : Int) + 1 from by omega]
          exact hR.set_line _
        · exact hB.setCell (p := ⟨_, 4, none⟩) (by show w.heap.size+1+1+1 ≤ w.heap.size+1+1+1+1+1; omega) _
        · exact (heap_setCell_other _ _ _ _ (by show w.heap.size+1+1+1+1+1+1 ≠ w.heap.size+1+1+1+1+1; omega)).trans HSTR.out
        rintro W2 ⟨hR2, hB2, hs2⟩
        clear c0 c1 c2 c3 c4 f4 hR hB hlk HSTR
        have hlx := HLN.out L[k] (List.getElem_mem hlt)
        have hcs := cut_sub L[k]
        have hne := hR2.not_in hs2
        have hstep := readAll_take hlt st
        rw [HS.out.symm] at hstep
        have HSTEP := Lib.hid hstep
        clear hstep
        cases hrd : readS st ((k + 1 : Nat) : Int) (Lib.cut L[k] [59]).1 with
        | error er =>
          have hpe : parseL t = .error (er, ((k + 1 : Nat) : Int)) := by rw [HPAR.out, HSTEP.out, hrd]
          have HRD := Lib.hid hrd
          have HPE := Lib.hid hpe
          clear hrd hpe
          go_wp2_with (first
            | (go_at_call 48; refine (Cut_any (S L[k]) _ (by rw [S_size]; omega) (HEN.out _ hB2)).mono ?_; rintro e w3 ⟨u1, u2, rfl, hb3⟩)
            | (go_at_call 96; go_must (refine (read_any _ (Nat.le_trans hcs.1 (by omega)) ((HEN.out _ hB2).below hb3) HFIT.out.ok (hR2.below hb3)).mono ?_; rintro e w4 hd; unfold ReadDoes at hd; first | rw [S_data, HRD.out] at hd | rw [HRD.out] at hd; unfold fault at hd; obtain ⟨rfl, hb4, hz4⟩ := hd)))
          obtain ⟨q0, q1, q2, q3⟩ := parse_ends_fault HW0.out (hB2.trans ((hb3.mono (by have := lt_of_block hs2; omega)).trans hb4))
          refine leaves_cons (f := 95) (args := #[.pointer (some ⟨w.heap.size, 0, none⟩), .pointer (some ⟨w.heap.size + 1, 0, none⟩), .pointer (some ⟨w.heap.size + 1 + 1, 0, none⟩)]) (by simp) (by simp [go_sem]) ?_
          refine (catch_fault w.heap.size _ _ _ er _ _ 0 0 _ q0 q1 q2 (by omega) (by omega) (by omega) (Nat.le_refl _) (by omega) (by omega)).mono ?_
          rintro e u' w5 ⟨rfl, rfl, g0, g1, g2, g3⟩
          have r0 := cell_of_row _ _ 0 _ _ _ g0
          have r1 := cell_of_row _ _ 0 _ _ _ g1
          have r2 := cell_of_row _ _ 0 _ _ _ g2
          simp [Leaves, settle, results, Tryz.results74, go_sem, r0, r1, r2]
          unfold ParseDoes
          rw [HPE.out]
          exact ⟨rfl, q3.trans g3⟩
        | ok st' =>
          have hgo : readAll ⟨[], [], [], []⟩ 0 L = readAll st' (k + 1) (L.drop (k + 1)) := by rw [HSTEP.out, hrd]
          have hft := readS_fit HFIT.out hrd
          have HRD := Lib.hid hrd
          have HGO := Lib.hid hgo
          have HFT := Lib.hid hft
          clear hrd hgo hft
          go_wp2_with (first
            | (go_at_call 48; refine (Cut_any (S L[k]) _ (by rw [S_size]; omega) (HEN.out _ hB2)).mono ?_; rintro e w3 ⟨u1, u2, rfl, hb3⟩)
            | (go_at_call 96; refine (read_any _ (Nat.le_trans hcs.1 (by omega)) ((HEN.out _ hB2).below hb3) HFIT.out.ok (hR2.below hb3)).mono ?_; rintro e w4 hd; unfold ReadDoes at hd; first | rw [S_data, HRD.out] at hd | rw [HRD.out] at hd; obtain ⟨rfl, v1, v2, hR4, hb4, hz4, hk4⟩ := hd))
          go_roundw
          case rel =>
            refine ⟨k + 1, st', v1, v2, _, by omega, by go_num, hR4, HFT.out, ?_, ?_, HGO.out⟩
            · exact hB2.trans ((hb3.mono (by have := lt_of_block hs2; omega)).trans hb4)
            · exact (hk4 _ (by have := lt_of_block hs2; have := hb3.size; omega) hne).trans ((hb3.block _ (lt_of_block hs2)).trans hs2)
          case measure => simp [intOf]; omega
      · obtain rfl : k = L.length := by omega
        have hra : readAll ⟨[], [], [], []⟩ 0 L = .ok st := by rw [HS.out, List.drop_length]; rfl
        have hp2 := HPAR.out
        rw [hra] at hp2
        have HP2 := Lib.hid hp2
        have HFIT := Lib.hid hF
        clear hra hp2 hF
        cases hpl : placesS st with
        | error x =>
          obtain ⟨er, le⟩ := x
          have hpe : parseL t = .error (er, le) := by rw [HP2.out]; simp only [hpl]
          have hpos : 0 < st.l.length := by
            rcases Nat.eq_zero_or_pos st.l.length with h0 | h0
            · rw [placesS, h0] at hpl; cases hpl
            · exact h0
          have HPE := Lib.hid hpe
          have HPL := Lib.hid hpl
          clear hpl hpe
          go_wp2_with (first
            | (go_at_call 97; go_must (refine (places_any hR HFIT.out.ok.a hpos HFIT.out.nm).mono ?_; rintro e w4 hd; unfold PlacesDoes at hd; rw [HPL.out] at hd; unfold fault at hd; obtain ⟨rfl, hb4, hz4⟩ := hd)))
          obtain ⟨q0, q1, q2, q3⟩ := parse_ends_fault HW0.out (hB.trans hb4)
          refine leaves_cons (f := 95) (args := #[.pointer (some ⟨w.heap.size, 0, none⟩), .pointer (some ⟨w.heap.size + 1, 0, none⟩), .pointer (some ⟨w.heap.size + 1 + 1, 0, none⟩)]) (by simp) (by simp [go_sem]) ?_
          refine (catch_fault w.heap.size _ _ _ er _ _ 0 0 _ q0 q1 q2 (by omega) (by omega) (by omega) (Nat.le_refl _) (by omega) (by omega)).mono ?_
          rintro e u' w5 ⟨rfl, rfl, g0, g1, g2, g3⟩
          have r0 := cell_of_row _ _ 0 _ _ _ g0
          have r1 := cell_of_row _ _ 0 _ _ _ g1
          have r2 := cell_of_row _ _ 0 _ _ _ g2
          simp [Leaves, settle, results, Tryz.results74, go_sem, r0, r1, r2]
          unfold ParseDoes
          rw [HPE.out]
          exact ⟨rfl, q3.trans g3⟩
        | ok l =>
          have hll := placesN_length hpl
          by_cases hpos : 0 < st.l.length
          · have hpe : parseL t = .ok l := by
              rw [HP2.out]
              simp only [hpl]
              rw [if_neg]
              cases l with
              | nil => simp at hll; omega
              | cons => simp
            have HPE := Lib.hid hpe
            have HPL := Lib.hid hpl
            have HLL := Lib.hid hll
            clear hpl hpe hll
            obtain ⟨g, cap, rfl⟩ := Joins.ownsRow_form hR.own hpos
            go_upto_region 13 with (first
              | (go_at_call 97; go_must (refine (places_any hR HFIT.out.ok.a hpos HFIT.out.nm).mono ?_; rintro e w4 hd; unfold PlacesDoes at hd; rw [HPL.out] at hd; obtain ⟨rfl, ⟨le, hR4⟩, hb4, hz4⟩ := hd)))
            obtain ⟨c0, c1, c2, c3, c4⟩ := hR4.cells
            obtain ⟨q0, q1, q2, q3⟩ := parse_ends_fault HW0.out (hB.trans hb4)
            have d0 := cell_of_row _ _ 0 _ _ _ q0
            have d1 := cell_of_row _ _ 0 _ _ _ q1
            have d2 := cell_of_row _ _ 0 _ _ _ q2
            have e0 := frozen_of_row _ _ 0 _ _ q0
            have e1 := frozen_of_row _ _ 0 _ _ q1
            have e2 := frozen_of_row _ _ 0 _ _ q2
            go_wp2
            obtain ⟨W5, hW5⟩ : ∃ W5, W5 = (((w4.setCell ⟨w.heap.size, 0, none⟩ (.slice (some ⟨g, 0, none⟩) st.l.length cap)).setCell ⟨w.heap.size + 1, 0, none⟩ (.int .i64 0)).setCell ⟨w.heap.size + 1 + 1, 0, none⟩ (.int .i64 0)) := ⟨_, rfl⟩
            rw [← hW5]
            obtain ⟨g0, g1, g2, g3, g4⟩ := three_set0 q0 q1 q2 (by omega) (by omega) (by omega) (Nat.le_refl _) (by omega) (by omega) W5 hW5
            refine leaves_cons (f := 95) (args := #[.pointer (some ⟨w.heap.size, 0, none⟩), .pointer (some ⟨w.heap.size + 1, 0, none⟩), .pointer (some ⟨w.heap.size + 1 + 1, 0, none⟩)]) (by simp) (by simp [go_sem]) ?_
            refine (catch_idle _ _ _ _).mono ?_
            rintro e u' w5 ⟨rfl, rfl, rfl⟩
            have r0 := cell_of_row _ _ 0 _ _ _ g0
            have r1 := cell_of_row _ _ 0 _ _ _ g1
            have r2 := cell_of_row _ _ 0 _ _ _ g2
            simp [Leaves, settle, results, Tryz.results74, go_sem, r0, r1, r2]
            unfold ParseDoes
            rw [HPE.out]
            refine ⟨_, rfl, ?_, q3.trans g3⟩
            have ho := hR4.own
            have hge := own_ge ho rfl
            rw [show l.length = st.l.length from HLL.out]
            have ho2 := ownsRow_at (w' := w5) (own_lower ho (show w.heap.size ≤ _ by omega)) (fun x hx => g4 x (by have := own_ge ho hx; omega) (by have := own_ge ho hx; omega) (by have := own_ge ho hx; omega))
            rwa [show ({ st with l := l } : RS).l.length = st.l.length from HLL.out] at ho2
          · have h0 : st.l.length = 0 := by omega
            have hpe : parseL t = .error (150, 0) := by
              rw [HP2.out]
              simp only [hpl]
              rw [if_pos]
              rw [h0] at hll
              simpa using hll
            have HPE := Lib.hid hpe
            obtain ⟨a, cap, rfl⟩ : ∃ a cap, vl = .slice a 0 cap := by
              have ho := hR.own
              rw [h0] at ho
              rcases ho.2 with ⟨hv, _⟩ | ⟨g', cap, cur, hv, _⟩
              · exact ⟨_, _, hv⟩
              · exact ⟨_, _, hv⟩
            clear hpl hpe hll
            go_upto_region 13 with (first
              | (go_at_call 97; go_must (refine (places_none hR h0).mono ?_; rintro e w4 ⟨rfl, rfl⟩)))
            obtain ⟨c0, c1, c2, c3, c4⟩ := hR.cells
            obtain ⟨q0, q1, q2, q3⟩ := parse_ends_fault HW0.out hB
            have d0 := cell_of_row _ _ 0 _ _ _ q0
            have d1 := cell_of_row _ _ 0 _ _ _ q1
            have d2 := cell_of_row _ _ 0 _ _ _ q2
            have e0 := frozen_of_row _ _ 0 _ _ q0
            have e1 := frozen_of_row _ _ 0 _ _ q1
            have e2 := frozen_of_row _ _ 0 _ _ q2
            go_wp2
            obtain ⟨W5, hW5⟩ : ∃ W5, W5 = (((w4.setCell ⟨w.heap.size, 0, none⟩ (.slice none 0 0)).setCell ⟨w.heap.size + 1, 0, none⟩ (.int .i64 0)).setCell ⟨w.heap.size + 1 + 1, 0, none⟩ (.int .i64 150)) := ⟨_, rfl⟩
            rw [← hW5]
            obtain ⟨g0, g1, g2, g3, g4⟩ := three_set0 q0 q1 q2 (by omega) (by omega) (by omega) (Nat.le_refl _) (by omega) (by omega) W5 hW5
            refine leaves_cons (f := 95) (args := #[.pointer (some ⟨w.heap.size, 0, none⟩), .pointer (some ⟨w.heap.size + 1, 0, none⟩), .pointer (some ⟨w.heap.size + 1 + 1, 0, none⟩)]) (by simp) (by simp [go_sem]) ?_
            refine (catch_idle _ _ _ _).mono ?_
            rintro e u' w5 ⟨rfl, rfl, rfl⟩
            have r0 := cell_of_row _ _ 0 _ _ _ g0
            have r1 := cell_of_row _ _ 0 _ _ _ g1
            have r2 := cell_of_row _ _ 0 _ _ _ g2
            simp [Leaves, settle, results, Tryz.results74, go_sem, r0, r1, r2]
            unfold ParseDoes
            rw [HPE.out]
            exact ⟨rfl, q3.trans g3⟩
theorem Parse_any (t : List UInt8) (w : World) (_ha : Asc t) (he : Env w) :
    Calls Tryz.prog 74 #[.string (S t)] w (ParseDoes t w) := Parse_every t w he
end Go.Proofs.YtoiokbdipcecnaaGreatDoor
