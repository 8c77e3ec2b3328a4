/-
  (*reader).read, walked path by path: a line that is an instruction: one that is read. Condition: the reader's place in memory (Rd), the library's variables (Env), a line of at most 65536 bytes.
-/
import Derived.Test.YtoiokbdipcecnaaGreatDoorCodeRead3
import Derived.Deep.DeepCutAuto
namespace Go.Proofs.YtoiokbdipcecnaaGreatDoor
open Go.RowKit Go.Maps Go.WideMaps
set_option maxRecDepth 100000
section
variable {w : World} {B rb lb nb : Nat} {vl vls : Value} {st : RS} {line : Int}
theorem info82 : (Tryz.prog.info? 82).map (fun i => (i.zero, i.size, i.bytes)) = some (some (.agg #[.int .i64 0, .int .i64 0]), 2, 16) := by kernel_rfl
theorem info3 : (Tryz.prog.info? 3).map (fun i => (i.zero, i.size, i.bytes)) = some (some (.int .i64 0), 1, 8) := by kernel_rfl
theorem grow_keep {W w2 : World} {O : Obj} {row : Option Nat} (hg : (W.alloc O).drew.grownBy w2 row) (g : Nat) (h : g < W.heap.size) (hne : some g ≠ row) : w2.heap[g]? = W.heap[g]? :=
  (hg.block g (by show g < (W.alloc O).heap.size; simp; omega) hne).trans (Below.heap_alloc W O g h)
theorem own_base {w : World} {base : Nat} {e : TypeId} {size n : Nat} {v : Value} {xs : List Value} (h : w.ownsRow base e size v n xs) {g : Nat} (hg : some g = v.ownBlock) : base ≤ g := by
  rcases h.2 with ⟨hv, _⟩ | ⟨g', cap, cur, hv, hb, _⟩
  · rw [hv] at hg; cases hg
  · rw [hv] at hg
    have e1 : g = g' := by simpa [Value.ownBlock] using hg
    omega
theorem Rd.push1 {W w2 : World} {v' : Value} {x y : Int} (h : Rd W B rb lb nb vl vls st line) (hl : st.l.length < 400)
    (hown : w2.ownsRow B 82 2 v' (st.l.length + 1) (instrCells st.l ++ [.int .i64 x, .int .i64 y])) (hk : ∀ g, g < W.heap.size → some g ≠ vl.ownBlock → w2.heap[g]? = W.heap[g]?) :
    Rd (w2.setCell ⟨rb, 0, none⟩ v') B rb lb nb v' vls { st with l := st.l ++ [(x, y)] } line := by
  have ne : ∀ g o, W.heap[g]? = some o → (∀ cur : Array Value, o ≠ Obj.cells cur 82) → w2.heap[g]? = some o := fun g o ho hne => by
    rw [hk g (lt_of_block ho) (fun e => ?_)]
    · exact ho
    · obtain ⟨cur, hc⟩ := own_block h.own e.symm
      rw [ho] at hc; injection hc with hc
      exact hne _ hc
  have hrb := ne rb _ h.blk (fun cur e => by injection e with _ e2 _; exact absurd e2 (by decide))
  have off : ∀ g, g ≠ rb → (w2.setCell ⟨rb, 0, none⟩ v').heap[g]? = w2.heap[g]? := fun g hg => heap_setCell_other _ _ _ _ hg
  obtain ⟨e1, c1, m1⟩ := map_block h.lab
  obtain ⟨e2, c2, m2⟩ := map_block h.nam
  have k1 := ne lb _ m1 (fun cur e => by cases e)
  have k2 := ne nb _ m2 (fun cur e => by cases e)
  have r1 : lb ≠ rb := fun e => by rw [e, h.blk] at m1; cases m1
  have r2 : nb ≠ rb := fun e => by rw [e, h.blk] at m2; cases m2
  refine ⟨?_, ?_, ?_, ownsMap_at h.lab ((off _ r1).trans (k1.trans m1.symm)), ownsMap_at h.nam ((off _ r2).trans (k2.trans m2.symm)), h.ne, h.b1, h.b2, h.b3, by simp; omega, h.n2, h.n3, h.n4, h.ap⟩
  · rw [heap_setCell_same w2 rb 0 _ _ _ hrb]; rfl
  · have e : instrCells (st.l ++ [(x, y)]) = instrCells st.l ++ [.int .i64 x, .int .i64 y] := instrCells_snoc _ _
    show (w2.setCell _ _).ownsRow _ _ _ _ (st.l ++ [(x, y)]).length (instrCells (st.l ++ [(x, y)]))
    rw [e, List.length_append]
    refine ownsRow_at hown (fun g hg => off g (fun e => ?_))
    obtain ⟨cur, hc⟩ := own_block hown hg
    rw [e, hrb] at hc; injection hc with hc; injection hc with _ hc _; exact absurd hc (by decide)
  · refine ownsRow_at h.ownl (fun g hg => ?_)
    obtain ⟨cur, hc⟩ := own_block h.ownl hg
    have hc2 := ne g _ hc (fun cur e => by injection e with _ e2 _; exact absurd e2 (by decide))
    refine (off g (fun e => ?_)).trans (hc2.trans hc.symm)
    rw [e, h.blk] at hc; injection hc with hc; injection hc with _ hc _; exact absurd hc (by decide)
theorem Rd.push2 {W w2 : World} {v' : Value} {x : Int} (h : Rd W B rb lb nb vl vls st line) (hl : st.lines.length < 400)
    (hown : w2.ownsRow B 3 1 v' (st.lines.length + 1) (intCells st.lines ++ [.int .i64 x])) (hk : ∀ g, g < W.heap.size → some g ≠ vls.ownBlock → w2.heap[g]? = W.heap[g]?) :
    Rd (w2.setCell ⟨rb, 3, none⟩ v') B rb lb nb vl v' { st with lines := st.lines ++ [x] } line := by
  have ne : ∀ g o, W.heap[g]? = some o → (∀ cur : Array Value, o ≠ Obj.cells cur 3) → w2.heap[g]? = some o := fun g o ho hne => by
    rw [hk g (lt_of_block ho) (fun e => ?_)]
    · exact ho
    · obtain ⟨cur, hc⟩ := own_block h.ownl e.symm
      rw [ho] at hc; injection hc with hc
      exact hne _ hc
  have hrb := ne rb _ h.blk (fun cur e => by injection e with _ e2 _; exact absurd e2 (by decide))
  have off : ∀ g, g ≠ rb → (w2.setCell ⟨rb, 3, none⟩ v').heap[g]? = w2.heap[g]? := fun g hg => heap_setCell_other _ _ _ _ hg
  obtain ⟨e1, c1, m1⟩ := map_block h.lab
  obtain ⟨e2, c2, m2⟩ := map_block h.nam
  have k1 := ne lb _ m1 (fun cur e => by cases e)
  have k2 := ne nb _ m2 (fun cur e => by cases e)
  have r1 : lb ≠ rb := fun e => by rw [e, h.blk] at m1; cases m1
  have r2 : nb ≠ rb := fun e => by rw [e, h.blk] at m2; cases m2
  refine ⟨?_, ?_, ?_, ownsMap_at h.lab ((off _ r1).trans (k1.trans m1.symm)), ownsMap_at h.nam ((off _ r2).trans (k2.trans m2.symm)), h.ne, h.b1, h.b2, h.b3, h.n1, h.n2, h.n3, by simp; omega, h.ap⟩
  · rw [heap_setCell_same w2 rb 3 _ _ _ hrb]; rfl
  · refine ownsRow_at h.own (fun g hg => ?_)
    obtain ⟨cur, hc⟩ := own_block h.own hg
    have hc2 := ne g _ hc (fun cur e => by injection e with _ e2 _; exact absurd e2 (by decide))
    refine (off g (fun e => ?_)).trans (hc2.trans hc.symm)
    rw [e, h.blk] at hc; injection hc with hc; injection hc with _ hc _; exact absurd hc (by decide)
  · have e : intCells (st.lines ++ [x]) = intCells st.lines ++ [.int .i64 x] := by simp [intCells]
    show (w2.setCell _ _).ownsRow _ _ _ _ (st.lines ++ [x]).length (intCells (st.lines ++ [x]))
    rw [e, List.length_append]
    refine ownsRow_at hown (fun g hg => off g (fun e => ?_))
    obtain ⟨cur, hc⟩ := own_block hown hg
    rw [e, hrb] at hc; injection hc with hc; injection hc with _ hc _; exact absurd hc (by decide)
/-- the reader has gone on -/
def Pushed (w : World) (B rb lb nb : Nat) (vl vls : Value) (st' : RS) (line : Int) (e : Ending) (w' : World) : Prop :=
  e = .returned (.tuple #[]) ∧ ∃ v v', Rd w' B rb lb nb v v' st' line ∧ Below B w w' ∧ w.heap.size ≤ w'.heap.size ∧ Keep w w' rb lb nb vl vls
theorem int_one {x : Int} : ∀ u ∈ [Value.int .i64 x], u.oneCell' = true := by intro u hu; simp at hu; subst hu; rfl
theorem int_two {x y : Int} : ∀ u ∈ [Value.int .i64 x, Value.int .i64 y], u.oneCell' = true := by intro u hu; simp at hu; rcases hu with rfl | rfl <;> rfl
end
end Go.Proofs.YtoiokbdipcecnaaGreatDoor
