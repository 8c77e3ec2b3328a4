/-
  A LONE RUN CARRIED INTO COMPANY, THE RUN: what runs well alone on every tape runs well step by step, whoever moves the tape on in between ('Will': a tree of steps). No condition.
  And: A LONE RUN CARRIED INTO COMPANY, A GOROUTINE's STEP: frames that hold only code that is told by its form (moves of control; operations that yield a value, nothing, or enter a function of the set F): each step of theirs, in a world with holes, is the same step in the world itself. No condition.
  And: A LONE RUN CARRIED INTO COMPANY, THE OPERATIONS' SIDE: an operation that comes to no block of Z (no pointer that it can get hold of leads there) runs alike in two worlds that agree off Z, on tapes that tell the same; cells that are frozen in the one world (frost) are never written. No condition.
-/
import Derived.WalkKit
import Derived.WalkSpells
import Derived.WalkLawsBesides
import Derived.WideLaws
import Derived.Conc.Own4
import Derived.Conc.Listed
import Derived.KernelRfl
namespace Go.Proofs.Ytaiinkeendejdaa
open Go.RowKit

/-- of a value nothing is asked any more: in the lone world the blocks of Z are dead ('Dead'), so whoever comes to one of them halts there -/
inductive NoZ (Z : Nat → Bool) : Value → Prop
  | any (v) : NoZ Z v
abbrev OffB (_ : Nat → Bool) (_ : Nat) : Prop := True
section
variable {Z : Nat → Bool}
theorem NoZ.bool (b) : NoZ Z (.bool b) := .any _
theorem NoZ.int (k n) : NoZ Z (.int k n) := .any _
theorem NoZ.float (k n) : NoZ Z (.float k n) := .any _
theorem NoZ.complex (k n m) : NoZ Z (.complex k n m) := .any _
theorem NoZ.string (s) : NoZ Z (.string s) := .any _
theorem NoZ.nilp : NoZ Z (.pointer none) := .any _
theorem NoZ.pointer (a : Addr) (_ : OffB Z a.block) : NoZ Z (.pointer (some a)) := .any _
theorem NoZ.nils (n c) : NoZ Z (.slice none n c) := .any _
theorem NoZ.slice (a : Addr) (n c) (_ : OffB Z a.block) : NoZ Z (.slice (some a) n c) := .any _
theorem NoZ.nilm : NoZ Z (.map none) := .any _
theorem NoZ.map (r) (_ : OffB Z r) : NoZ Z (.map (some r)) := .any _
theorem NoZ.nilc : NoZ Z (.chan none) := .any _
theorem NoZ.chan (r) (_ : OffB Z r) : NoZ Z (.chan (some r)) := .any _
theorem NoZ.func (f : FuncId) (first c : Array Value) (_ : ∀ x ∈ first, NoZ Z x) (_ : ∀ x ∈ c, NoZ Z x) : NoZ Z (.func (.func f) first c) := .any _
theorem NoZ.nilFunc : NoZ Z .nilFunc := .any _
theorem NoZ.iface (t v) (_ : NoZ Z v) : NoZ Z (.iface t v) := .any _
theorem NoZ.nilIface : NoZ Z .nilIface := .any _
theorem NoZ.agg (c : Array Value) (_ : ∀ x ∈ c, NoZ Z x) : NoZ Z (.agg c) := .any _
theorem NoZ.tuple (c : Array Value) (_ : ∀ x ∈ c, NoZ Z x) : NoZ Z (.tuple c) := .any _
theorem NoZ.ptr {a : Addr} (_ : NoZ Z (.pointer (some a))) : OffB Z a.block := trivial
theorem NoZ.sl {a : Addr} {n c : Nat} (_ : NoZ Z (.slice (some a) n c)) : OffB Z a.block := trivial
theorem NoZ.mp {r : Nat} (_ : NoZ Z (.map (some r))) : OffB Z r := trivial
theorem NoZ.ch {r : Nat} (_ : NoZ Z (.chan (some r))) : OffB Z r := trivial
theorem NoZ.ag {c : Array Value} (_ : NoZ Z (.agg c)) : ∀ x ∈ c, NoZ Z x := fun _ _ => .any _
theorem NoZ.tu {c : Array Value} (_ : NoZ Z (.tuple c)) : ∀ x ∈ c, NoZ Z x := fun _ _ => .any _
theorem NoZ.fc {f : Fn} {a c : Array Value} (_ : NoZ Z (.func f a c)) : (∀ x ∈ a, NoZ Z x) ∧ ∀ x ∈ c, NoZ Z x := ⟨fun _ _ => .any _, fun _ _ => .any _⟩
theorem NoZ.ifc {t : TypeId} {v : Value} (_ : NoZ Z (.iface t v)) : NoZ Z v := .any _
theorem NoZ.cells {v : Value} (_ : NoZ Z v) : ∀ x ∈ v.cells, NoZ Z x := fun _ _ => .any _
end
/-- a variable that waits for its package, or memory seen as another type -/
def oddO : Obj → Bool
  | .pending .. | .view .. => true
  | _ => false
/-- (nothing is asked) -/
def ObjZ (_ : Nat → Bool) (_ : Obj) : Prop := True
/-- what a block is, as far as a dead one tells it: a row of what, or odd -/
def kindO : Option Obj → Option (Option TypeId)
  | some (.cells _ t _) => some (some t)
  | some (.pending ..) | some (.view ..) => some none
  | _ => none
/-- the odd block's stand-in: it looks at itself -/
def selfV (b : Nat) : Obj := .view ⟨b, 0, none⟩ 0
/-- in the first world the block stands dead: a row without cells, or a view of itself -/
def Dead (v w : World) (b : Nat) : Prop := (∃ t, v.heap[b]? = some (.cells #[] t (0, 0)) ∧ kindO w.heap[b]? = some (some t)) ∨ (v.heap[b]? = some (selfV b) ∧ kindO w.heap[b]? = some none)
/-- the two worlds agree off Z; of block b the first F b cells are frozen in the first world (frost), and none in the second -/
structure Sim (Z : Nat → Bool) (F : Nat → Nat) (v w : World) : Prop where
  size : v.heap.size = w.heap.size
  heap : ∀ b, Z b = false → F b = 0 → v.heap[b]? = w.heap[b]?
  ice : ∀ b, F b ≠ 0 → Z b = false ∧ ∃ c t, v.heap[b]? = some (.cells c t (0, F b)) ∧ w.heap[b]? = some (.cells c t (0, 0))
  os : v.os = w.os
  output : v.output = w.output
  low : ∀ b, Z b = true → b < w.heap.size
  dead : ∀ b, Z b = true → Dead v w b
/-- off Z: no variable waits, no view, nothing leads to Z -/
def Even (Z : Nat → Bool) (w : World) : Prop := ∀ (b : Nat) o, Z b = false → w.heap[b]? = some o → oddO o = false ∧ ObjZ Z o
/-- what ends a run, whatever -/
def Hard : Halt → Prop
  | .stuck _ => True
  | .unsupported (.initOrder _) => False
  | .unsupported _ => True
  | _ => False
/-- a new object that is not frozen -/
def warmO : Obj → Prop
  | .cells _ _ f => f = (0, 0)
  | _ => True
/-- an operation that comes to no block of Z, and yields what A says; d: whatever it yields, the run halts behind it -/
def SafeD (P : Program) (Z : Nat → Bool) {α : Type} : Sem α → Bool → (α → Prop) → Prop
  | .pure a, _, A => A a
  | .load m a k, d, A => m = .plain ∧ OffB Z a.block ∧ ∀ v, NoZ Z v → SafeD P Z (k v) d A
  | .store m a x k, d, A => m = .plain ∧ OffB Z a.block ∧ NoZ Z x ∧ SafeD P Z k d A
  | .new o k, d, A => (oddO o = false ∧ ObjZ Z o ∧ warmO o) ∧ ∀ r, OffB Z r → SafeD P Z (k r) d A
  | .shape r k, d, A => OffB Z r ∧ (∀ s, SafeD P Z (k s) d A) ∧ (d = false → ∀ t n, SafeD P Z (k (some (t, 0))) true (fun _ => False) ∨ k (some (t, 0)) = k (some (t, n)))
  | .freeze _ _ _, _, _ => False
  | .frozen a k, d, A => OffB Z a.block ∧ ∀ b, SafeD P Z (k b) true (if d then A else fun _ => False)
  | .getObj r k, d, A => OffB Z r ∧ (∀ o, oddO o = false → ObjZ Z o → SafeD P Z (k o) d A) ∧ ∀ a t, SafeD P Z (k (.view a t)) d A ∧ (d = false → SafeD P Z (k (.view a t)) true (fun _ => False) ∨ ∀ o, oddO o = true → k (.view a t) = k o)
  | .setObj _ _ _, _, _ => False
  | .choose _ k, d, A => ∀ n, SafeD P Z (k n) d A
  | .sys _ _, _, _ => False
  | .program k, d, A => SafeD P Z (k P) d A
  | .mark m k, d, A => m = .noRoom ∧ SafeD P Z k d A
  | .halt h, _, _ => Hard h ∨ ∃ v, h = .panic v
abbrev Safe (P : Program) (Z : Nat → Bool) {α : Type} (A : α → Prop) (s : Sem α) : Prop := SafeD P Z s false A
theorem SafeD.mono {P : Program} {Z : Nat → Bool} {α : Type} {s : Sem α} : ∀ {d : Bool} {A B : α → Prop}, SafeD P Z s d A → (∀ a, A a → B a) → SafeD P Z s d B := by
  induction s with
  | pure a => exact fun h hf => hf a h
  | load m a k ih => exact fun h hf => ⟨h.1, h.2.1, fun v hv => ih v (h.2.2 v hv) hf⟩
  | store m a x k ih => exact fun h hf => ⟨h.1, h.2.1, h.2.2.1, ih h.2.2.2 hf⟩
  | new o k ih => exact fun h hf => ⟨h.1, fun r hr => ih r (h.2 r hr) hf⟩
  | shape r k ih => exact fun h hf => ⟨h.1, fun s => ih s (h.2.1 s) hf, h.2.2⟩
  | freeze a n k ih => exact fun h hf => h
  | frozen a k ih => intro d A B h hf; exact ⟨h.1, fun b => ih b (h.2 b) fun a => by cases d <;> first | exact id | exact hf a⟩
  | getObj r k ih => exact fun h hf => ⟨h.1, fun o h1 h2 => ih o (h.2.1 o h1 h2) hf, fun a t => ⟨ih _ (h.2.2 a t).1 hf, (h.2.2 a t).2⟩⟩
  | setObj r o k ih => exact fun h hf => h
  | choose q k ih => exact fun h hf n => ih n (h n) hf
  | sys c k ih => exact fun h hf => h
  | program k ih => exact fun h hf => ih P h hf
  | mark m k ih => exact fun h hf => ⟨h.1, ih h.2 hf⟩
  | halt x => exact fun h hf => h
theorem SafeD.bind {P : Program} {Z : Nat → Bool} {α β : Type} {s : Sem α} {f : α → Sem β} : ∀ {d : Bool} {A : α → Prop} {B : β → Prop}, SafeD P Z s d A → (∀ a, A a → SafeD P Z (f a) d B) → SafeD P Z (s.bind f) d B := by
  induction s with
  | pure a => exact fun h hf => hf a h
  | load m a k ih => exact fun h hf => ⟨h.1, h.2.1, fun v hv => ih v (h.2.2 v hv) hf⟩
  | store m a x k ih => exact fun h hf => ⟨h.1, h.2.1, h.2.2.1, ih h.2.2.2 hf⟩
  | new o k ih => exact fun h hf => ⟨h.1, fun r hr => ih r (h.2 r hr) hf⟩
  | shape r k ih => exact fun h hf => ⟨h.1, fun s => ih s (h.2.1 s) hf, fun hd t n => (h.2.2 hd t n).imp (fun x => ih _ x fun _ hh => hh.elim) fun e => congrArg (·.bind f) e⟩
  | freeze a n k ih => exact fun h hf => h
  | frozen a k ih =>
    intro d A B h hf
    refine ⟨h.1, fun b => ih b (h.2 b) fun a ha => ?_⟩
    cases d with
    | false => exact ha.elim
    | true => exact hf a ha
  | getObj r k ih => exact fun h hf => ⟨h.1, fun o h1 h2 => ih o (h.2.1 o h1 h2) hf, fun a t => ⟨ih _ (h.2.2 a t).1 hf, fun hd => ((h.2.2 a t).2 hd).imp (fun x => ih _ x fun _ hh => hh.elim) fun e o ho => congrArg (·.bind f) (e o ho)⟩⟩
  | setObj r o k ih => exact fun h hf => h
  | choose q k ih => exact fun h hf n => ih n (h n) hf
  | sys c k ih => exact fun h hf => h
  | program k ih => exact fun h hf => ih P h hf
  | mark m k ih => exact fun h hf => ⟨h.1, ih h.2 hf⟩
  | halt x => exact fun h hf => h
/-- what halts, halts -/
theorem SafeD.never {P : Program} {Z : Nat → Bool} {α : Type} {B : α → Prop} {s : Sem α} : SafeD P Z s true (fun _ => False) → Safe P Z B s := by
  induction s with
  | pure a => exact fun h => h.elim
  | load m a k ih => exact fun h => ⟨h.1, h.2.1, fun v hv => ih v (h.2.2 v hv)⟩
  | store m a x k ih => exact fun h => ⟨h.1, h.2.1, h.2.2.1, ih h.2.2.2⟩
  | new o k ih => exact fun h => ⟨h.1, fun r hr => ih r (h.2 r hr)⟩
  | shape r k ih => exact fun h => ⟨h.1, fun s => ih s (h.2.1 s), fun _ t n => .inl (h.2.1 _)⟩
  | freeze a n k ih => exact fun h => h
  | frozen a k ih => exact fun h => ⟨h.1, fun b => h.2 b⟩
  | getObj r k ih => exact fun h => ⟨h.1, fun o h1 h2 => ih o (h.2.1 o h1 h2), fun a t => ⟨ih _ (h.2.2 a t).1, fun _ => .inl (h.2.2 a t).1⟩⟩
  | setObj r o k ih => exact fun h => h
  | choose q k ih => exact fun h n => ih n (h n)
  | sys c k ih => exact fun h => h
  | program k ih => exact fun h => ih P h
  | mark m k ih => exact fun h => ⟨h.1, ih h.2⟩
  | halt x => exact fun h => h
theorem SafeD.doom {P : Program} {Z : Nat → Bool} {α : Type} {A : α → Prop} {s : Sem α} : Safe P Z A s → SafeD P Z s true A := by
  induction s with
  | pure a => exact fun h => h
  | load m a k ih => exact fun h => ⟨h.1, h.2.1, fun v hv => ih v (h.2.2 v hv)⟩
  | store m a x k ih => exact fun h => ⟨h.1, h.2.1, h.2.2.1, ih h.2.2.2⟩
  | new o k ih => exact fun h => ⟨h.1, fun r hr => ih r (h.2 r hr)⟩
  | shape r k ih => exact fun h => ⟨h.1, fun s => ih s (h.2.1 s), fun e => by cases e⟩
  | freeze a n k ih => exact fun h => h
  | frozen a k ih => exact fun h => ⟨h.1, fun b => (h.2 b).mono fun a ha => ha.elim⟩
  | getObj r k ih => exact fun h => ⟨h.1, fun o h1 h2 => ih o (h.2.1 o h1 h2), fun a t => ⟨ih _ (h.2.2 a t).1, fun e => by cases e⟩⟩
  | setObj r o k ih => exact fun h => h
  | choose q k ih => exact fun h n => ih n (h n)
  | sys c k ih => exact fun h => h
  | program k ih => exact fun h => ih P h
  | mark m k ih => exact fun h => ⟨h.1, ih h.2⟩
  | halt x => exact fun h => h
/-- the world that a run leaves -/
def resW {α : Type} : Result α → World
  | .ok _ w | .halt _ w => w
/-- what an operation lists off the blocks of Z, below n: plain touches of cells, no write of what is frozen; looks at objects, the mark that memory may be short -/
def OffZ (Z : Nat → Bool) (I : Addr → Bool) (n : Nat) (e : Event) : Prop := (∃ a b, e = ⟨.cell a, b, false⟩ ∧ Z a.block = false ∧ (b = true → I a = false) ∧ a.block < n) ∨ (∃ r c, e = ⟨.obj r, false, c⟩ ∧ r < n) ∨ e = ⟨.mark .noRoom, false, true⟩
theorem OffZ.mono {Z : Nat → Bool} {I : Addr → Bool} {n n' : Nat} {e : Event} (h : OffZ Z I n e) (hn : n ≤ n') : OffZ Z I n' e := by
  rcases h with ⟨a, b, h1, h2, h3, h4⟩ | ⟨r, c, h1, h3⟩ | h
  · exact .inl ⟨a, b, h1, h2, h3, Nat.lt_of_lt_of_le h4 hn⟩
  · exact .inr (.inl ⟨r, c, h1, Nat.lt_of_lt_of_le h3 hn⟩)
  · exact .inr (.inr h)
def isCells : Obj → Bool
  | .cells .. => true
  | _ => false
/-- it yields, or halts -/
def Good1 {α : Type} (A : α → Prop) (r : Result α) : Prop := (∃ a v', A a ∧ r = .ok a v') ∨ ∃ x v', (Hard x ∨ ∃ y, x = .panic y) ∧ r = .halt x v'
/-- one run: m draws; the blocks of Z stand, and what is frozen, and whatever is no row of cells -/
structure Keeps (Z : Nat → Bool) (v : World) (m : Nat) (v' : World) : Prop where
  tape : v'.tape = v.tape
  drawn : v'.drawn = v.drawn + m
  z : ∀ b, Z b = true → v'.heap[b]? = v.heap[b]?
  size : v.heap.size ≤ v'.heap.size
  frozen : ∀ a, v'.frozen? a = v.frozen? a
  ice : ∀ a, v.frozen? a = true → v'.cell? a = v.cell? a
  obj : ∀ (b : Nat) o, v.heap[b]? = some o → isCells o = false → v'.heap[b]? = some o
  sys : v'.os = v.os ∧ v'.output = v.output
theorem Keeps.refl (Z : Nat → Bool) (v : World) : Keeps Z v 0 v := ⟨rfl, rfl, fun _ _ => rfl, Nat.le_refl _, fun _ => rfl, fun _ _ => rfl, fun _ _ h _ => h, rfl, rfl⟩
def Fits {α : Type} (Z : Nat → Bool) (F : Nat → Nat) (d : Bool) (A : α → Prop) (v w : World) (es : Array Event) (r r' : Result α × Array Event) : Prop :=
  ∃ m, Keeps Z v m (resW r.1) ∧ Even Z (resW r.1) ∧ Good1 A r.1 ∧ (∃ us, r.2 = es ++ us ∧ ∀ e ∈ us, OffZ Z v.frozen? (resW r.1).heap.size e) ∧
    (d = false → (∀ j q, j < m → w.tape (w.drawn + j) q = v.tape (v.drawn + j) q) → ∀ a v', r.1 = .ok a v' → ∃ w', r' = (.ok a w', r.2) ∧ w'.tape = w.tape ∧ w'.drawn = w.drawn + m ∧ (∀ b, Z b = true → w'.heap[b]? = w.heap[b]?) ∧ w.heap.size ≤ w'.heap.size ∧ Sim Z F v' w')
section
variable {Z : Nat → Bool} {F : Nat → Nat}
/-- a move of both worlds, ahead of the rest -/
theorem Fits.after {α : Type} {d : Bool} {A : α → Prop} {v w v1 w1 : World} {es us : Array Event} {r r' : Result α × Array Event} (h : Fits Z F d A v1 w1 (es ++ us) r r') (hu : ∀ e ∈ us, OffZ Z v.frozen? v1.heap.size e)
    (t1 : v1.tape = v.tape) (d1 : v1.drawn = v.drawn) (t2 : w1.tape = w.tape) (d2 : w1.drawn = w.drawn) (hz1 : ∀ b, Z b = true → v1.heap[b]? = v.heap[b]?) (hs1 : v.heap.size ≤ v1.heap.size) (hz : ∀ b, Z b = true → w1.heap[b]? = w.heap[b]?) (hs : w.heap.size ≤ w1.heap.size)
    (f1 : ∀ a, v1.frozen? a = v.frozen? a) (c1 : ∀ a, v.frozen? a = true → v1.cell? a = v.cell? a) (o1 : ∀ (b : Nat) o, v.heap[b]? = some o → isCells o = false → v1.heap[b]? = some o) (y1 : v1.os = v.os ∧ v1.output = v.output := by exact ⟨rfl, rfl⟩) : Fits Z F d A v w es r r' := by
  obtain ⟨m, k1, he, hsm, ⟨vs, a2, a3⟩, h3⟩ := h
  have ef : v1.frozen? = v.frozen? := funext f1
  refine ⟨m, ⟨k1.tape.trans t1, by rw [k1.drawn, d1], fun b hb => (k1.z b hb).trans (hz1 b hb), Nat.le_trans hs1 k1.size, fun a => (k1.frozen a).trans (f1 a), fun a ha => (k1.ice a ((f1 a).trans ha)).trans (c1 a ha), fun b o h1 h2 => k1.obj b o (o1 b o h1 h2) h2, k1.sys.1.trans y1.1, k1.sys.2.trans y1.2⟩, he, hsm, ⟨us ++ vs, by rw [a2, Array.append_assoc], fun e he => ?_⟩, fun hd ha a v' hr => ?_⟩
  · rcases Array.mem_append.1 he with he | he
    · exact (hu e he).mono k1.size
    · rw [← ef]; exact a3 e he
  · obtain ⟨w', b1, b2, b3, b4, b5, b6⟩ := h3 hd (by rw [t1, d1, t2, d2]; exact ha) a v' hr
    exact ⟨w', b1, b2.trans t2, by rw [b3, d2], fun b hb => (b4 b hb).trans (hz b hb), Nat.le_trans hs b5, b6⟩
theorem Sim.cell {v w : World} (h : Sim Z F v w) {a : Addr} (hz : Z a.block = false) : v.cell? a = w.cell? a := by
  unfold World.cell?
  by_cases hf : F a.block = 0
  · rw [h.heap _ hz hf]
  · obtain ⟨_, c, t, h1, h2⟩ := h.ice _ hf
    rw [h1, h2]
theorem Sim.shape {v w : World} (h : Sim Z F v w) {r : Nat} (hz : Z r = false) : v.shape? r = w.shape? r := by
  unfold World.shape?
  by_cases hf : F r = 0
  · rw [h.heap _ hz hf]
  · obtain ⟨_, c, t, h1, h2⟩ := h.ice _ hf
    rw [h1, h2]
theorem Sim.thaw {v w : World} (h : Sim Z F v w) {a : Addr} (hz : Z a.block = false) (hv : v.frozen? a = false) : w.frozen? a = false := by
  by_cases hf : F a.block = 0
  · unfold World.frozen? at hv ⊢
    rw [← h.heap _ hz hf]; exact hv
  · obtain ⟨_, c, t, h1, h2⟩ := h.ice _ hf
    unfold World.frozen?
    rw [h2]; simp
theorem Sim.setCell {v w : World} (h : Sim Z F v w) (a : Addr) (x : Value) : Sim Z F (v.setCell a x) (w.setCell a x) := by
  unfold World.setCell
  refine ⟨by simp only [Array.size_modify]; exact h.size, fun b hb hf => ?_, fun b hf => ?_, h.os, h.output, fun b hb => by simp only [Array.size_modify]; exact h.low b hb, fun b hb => ?_⟩
  · simp only [Array.getElem?_modify, h.heap b hb hf]
  · obtain ⟨h0, c, t, h1, h2⟩ := h.ice _ hf
    refine ⟨h0, ?_⟩
    simp only [Array.getElem?_modify, h1, h2]
    split
    · exact ⟨_, _, rfl, rfl⟩
    · exact ⟨_, _, rfl, rfl⟩
  · by_cases e : a.block = b
    · rcases h.dead b hb with ⟨t, h1, h2⟩ | ⟨h1, h2⟩
      · refine .inl ⟨t, ?_, ?_⟩
        · simp only [Array.getElem?_modify, if_pos e, h1, Option.map_some]
          simp
        · simp only [Array.getElem?_modify, if_pos e]
          cases e2 : w.heap[b]? with
          | none => rw [e2] at h2; cases h2
          | some o => rw [e2] at h2; cases o <;> first | exact h2 | cases h2
      · refine .inr ⟨?_, ?_⟩
        · simp only [Array.getElem?_modify, if_pos e, h1, Option.map_some]
          rfl
        · simp only [Array.getElem?_modify, if_pos e]
          cases e2 : w.heap[b]? with
          | none => rw [e2] at h2; cases h2
          | some o => rw [e2] at h2; cases o <;> first | exact h2 | cases h2
    · unfold Dead
      simp only [Array.getElem?_modify, if_neg e]
      exact h.dead b hb
theorem Sim.fresh {v w : World} (h : Sim Z F v w) : Z w.heap.size = false := by
  cases e : Z w.heap.size with
  | false => rfl
  | true => have := h.low _ e; omega
theorem Sim.iceLow {v w : World} (h : Sim Z F v w) {b : Nat} (hf : F b ≠ 0) : b < w.heap.size := by
  obtain ⟨_, c, t, h1, h2⟩ := h.ice _ hf
  exact (Array.getElem?_eq_some_iff.1 h2).1
theorem Sim.push {v w : World} (h : Sim Z F v w) (o : Obj) : Sim Z F { v with heap := v.heap.push o } { w with heap := w.heap.push o } :=
  ⟨by simp only [Array.size_push, h.size], fun b hb hf => by simp only [Array.getElem?_push, h.heap b hb hf, h.size], fun b hf => by
    have hl := h.iceLow hf
    obtain ⟨h0, c, t, h1, h2⟩ := h.ice _ hf
    refine ⟨h0, c, t, ?_, ?_⟩
    · simp only [Array.getElem?_push, h.size]; rw [if_neg (by omega)]; exact h1
    · simp only [Array.getElem?_push]; rw [if_neg (by omega)]; exact h2, h.os, h.output, fun b hb => by simp only [Array.size_push]; exact Nat.lt_succ_of_lt (h.low b hb), fun b hb => by
    have hl := h.low b hb
    unfold Dead
    simp only [Array.getElem?_push, h.size]
    rw [if_neg (by omega), if_neg (by omega)]
    exact h.dead b hb⟩
theorem Even.setCell {w : World} (he : Even Z w) (a : Addr) {v : Value} (_ : NoZ Z v) : Even Z (w.setCell a v) := fun b o hb h => by
  unfold World.setCell at h
  simp only [Array.getElem?_modify] at h
  split at h
  · cases e : w.heap[b]? with
    | none => rw [e] at h; cases h
    | some o' =>
      rw [e] at h
      simp only [Option.map_some, Option.some.injEq] at h
      obtain ⟨h1, h2⟩ := he b o' hb e
      subst h
      cases o' <;> first | exact ⟨h1, h2⟩ | exact ⟨rfl, trivial⟩
  · exact he b o hb h
theorem Even.push {w : World} (he : Even Z w) {o : Obj} (ho : oddO o = false ∧ ObjZ Z o) : Even Z { w with heap := w.heap.push o } := fun b x hb h => by
  simp only [Array.getElem?_push] at h
  split at h
  · injection h with h; subst h; exact ho
  · exact he b x hb h
theorem Even.cell {w : World} (_ : Even Z w) {a : Addr} (_ : OffB Z a.block) {x : Value} (_ : w.cell? a = some x) : NoZ Z x := .any _
/-- whatever odd block there is looks at itself -/
def Calm0 (v : World) : Prop := ∀ (b : Nat) o, v.heap[b]? = some o → oddO o = true → o = selfV b
theorem Sim.calm {v w : World} (h : Sim Z F v w) (he : Even Z v) : Calm0 v := fun b o ho hod => by
  cases hz : Z b with
  | false => rw [(he b o hz ho).1] at hod; cases hod
  | true =>
    rcases h.dead b hz with ⟨t, h1, _⟩ | ⟨h1, _⟩
    · rw [ho] at h1; injection h1 with h1; subst h1; cases hod
    · rw [ho] at h1; injection h1
theorem seen_self {P : Program} {w : World} {b : Nat} (h : w.heap[b]? = some (selfV b)) (k : Addr) (c : Bool) : ∃ e, w.seen P ⟨b, 0, none⟩ 0 k c = .error e := by
  unfold World.seen
  simp only [h, selfV]
  repeat' split
  all_goals first | exact ⟨_, rfl⟩ | skip
theorem Calm0.farLoad {w : World} (he : Calm0 w) (P : Program) {a : Addr} (b : Bool) : ∃ x, w.farLoad P a b = .error x ∧ Hard x := by
  unfold World.farLoad
  cases e : w.heap[a.block]? with
  | none => exact ⟨_, rfl, by unfold World.noCell; rw [e]; trivial⟩
  | some o =>
    cases ho : oddO o with
    | true =>
      obtain rfl := he _ o e ho
      obtain ⟨x, hx⟩ := seen_self (P := P) e a b
      have e2 : w.viewLoad P ⟨a.block, 0, none⟩ 0 a b = .error x := by unfold World.viewLoad; rw [hx]; rfl
      simp only [selfV, e2]
      exact ⟨_, rfl, trivial⟩
    | false => cases o <;> first | (cases ho; done) | exact ⟨_, rfl, by unfold World.noCell; rw [e]; trivial⟩
theorem Calm0.farStore {w : World} (he : Calm0 w) (P : Program) {a : Addr} (v : Value) (b : Bool) : ∃ x, w.farStore P a v b = .error x ∧ Hard x := by
  unfold World.farStore
  cases e : w.heap[a.block]? with
  | none => exact ⟨_, rfl, by unfold World.noCell; rw [e]; trivial⟩
  | some o =>
    cases ho : oddO o with
    | true =>
      obtain rfl := he _ o e ho
      obtain ⟨x, hx⟩ := seen_self (P := P) e a b
      have e2 : ∃ y, w.viewStore P ⟨a.block, 0, none⟩ 0 a v b = .error y := by
        unfold World.viewStore
        rw [hx]
        cases tight P P.depth 0 <;> exact ⟨_, rfl⟩
      obtain ⟨y, e2⟩ := e2
      simp only [selfV, e2]
      exact ⟨_, rfl, trivial⟩
    | false => cases o <;> first | (cases ho; done) | exact ⟨_, rfl, by unfold World.noCell; rw [e]; trivial⟩
/-- what has cells is not dead -/
theorem Sim.lively {v w : World} (h : Sim Z F v w) {a : Addr} {x : Value} (hx : v.cell? a = some x) : Z a.block = false := by
  cases hz : Z a.block with
  | false => rfl
  | true =>
    unfold World.cell? at hx
    rcases h.dead _ hz with ⟨t, h1, _⟩ | ⟨h1, _⟩
    · rw [h1] at hx; simp at hx
    · rw [h1] at hx; simp [selfV] at hx
/-- the lone world beside itself -/
theorem Sim.twice {v w : World} (h : Sim Z F v w) : Sim Z (fun _ => 0) v v := ⟨rfl, fun _ _ _ => rfl, fun _ hf => absurd rfl hf, rfl, rfl, fun b hb => by rw [h.size]; exact h.low b hb, fun b hb => by
  rcases h.dead b hb with ⟨t, h1, _⟩ | ⟨h1, _⟩
  · exact .inl ⟨t, h1, by rw [h1]; rfl⟩
  · exact .inr ⟨h1, by rw [h1]; rfl⟩⟩
theorem Fits.dead {α : Type} {d : Bool} {A : α → Prop} {v w w2 : World} {es : Array Event} {r r' r2 : Result α × Array Event} (h : Fits Z F true (fun _ => False) v w2 es r r2) : Fits Z F d A v w es r r' := by
  obtain ⟨m, k1, he, hg, hu, _⟩ := h
  rcases hg with ⟨_, _, hh, _⟩ | ⟨x, v', hx, e⟩
  · exact hh.elim
  · exact ⟨m, k1, he, .inr ⟨x, v', hx, e⟩, hu, fun _ _ a v2 e2 => by rw [e] at e2; cases e2⟩
theorem Fits.late {α : Type} {A : α → Prop} {v w w2 : World} {es : Array Event} {r r' r2 : Result α × Array Event} (h : Fits Z F true A v w2 es r r2) : Fits Z F true A v w es r r' := by
  obtain ⟨m, k1, he, hg, hu, _⟩ := h
  exact ⟨m, k1, he, hg, hu, fun hd => by cases hd⟩
theorem lt_of_cell {w : World} {a : Addr} {x : Value} (h : w.cell? a = some x) : a.block < w.heap.size := by
  unfold World.cell? at h
  cases e : w.heap[a.block]? with
  | none => rw [e] at h; cases h
  | some o => exact (Array.getElem?_eq_some_iff.1 e).1
theorem frozen_setCell (w : World) (a b : Addr) (x : Value) : (w.setCell a x).frozen? b = w.frozen? b := by
  unfold World.frozen? World.setCell
  simp only [Array.getElem?_modify]
  by_cases hb : a.block = b.block
  · rw [if_pos hb]
    cases e : w.heap[b.block]? with
    | none => rfl
    | some o => cases o <;> rfl
  · rw [if_neg hb]
theorem cell_setCell_ice (w : World) (a b : Addr) (x : Value) (ha : w.frozen? a = false) (hb : w.frozen? b = true) : (w.setCell a x).cell? b = w.cell? b := by
  unfold World.cell? World.setCell
  simp only [Array.getElem?_modify]
  by_cases eb : a.block = b.block
  · rw [if_pos eb]
    unfold World.frozen? at ha hb
    rw [eb] at ha
    cases e : w.heap[b.block]? with
    | none => rfl
    | some o =>
      rw [e] at ha hb
      cases o with
      | cells c t f =>
        simp only [Option.map_some] at ha hb ⊢
        split
        · rfl
        · by_cases hs : a.spot.isSome = true
          · rw [if_pos hs]
          · rw [if_neg hs]
            have hne : a.off ≠ b.off := fun h => by rw [h, hb] at ha; cases ha
            rw [Array.getElem?_setIfInBounds_ne hne]
      | _ => rfl
  · rw [if_neg eb]
theorem obj_setCell (w : World) (a : Addr) (x : Value) (b : Nat) (o : Obj) (h : w.heap[b]? = some o) (ho : isCells o = false) : (w.setCell a x).heap[b]? = some o := by
  unfold World.setCell
  simp only [Array.getElem?_modify, h]
  split
  · cases o <;> first | rfl | cases ho
  · rfl
theorem frozen_push (w : World) (o : Obj) (ho : warmO o) (a : Addr) : ({ w with heap := w.heap.push o } : World).frozen? a = w.frozen? a := by
  unfold World.frozen?
  simp only [Array.getElem?_push]
  by_cases e : a.block = w.heap.size
  · rw [if_pos e]
    have : w.heap[a.block]? = none := by rw [e]; simp
    rw [this]
    cases o <;> first | rfl | skip
    rename_i c t f
    have : f = (0, 0) := ho
    subst this
    simp
  · rw [if_neg e]
theorem cell_push (w : World) (o : Obj) (a : Addr) (h : w.frozen? a = true) : ({ w with heap := w.heap.push o } : World).cell? a = w.cell? a := by
  unfold World.frozen? at h
  unfold World.cell?
  simp only [Array.getElem?_push]
  by_cases e : a.block = w.heap.size
  · have : w.heap[a.block]? = none := by rw [e]; simp
    rw [this] at h
    cases h
  · rw [if_neg e]
theorem obj_push (w : World) (o : Obj) (b : Nat) (x : Obj) (h : w.heap[b]? = some x) : ({ w with heap := w.heap.push o } : World).heap[b]? = some x := by
  simp only [Array.getElem?_push]
  rw [if_neg]
  · exact h
  · intro e
    have := (Array.getElem?_eq_some_iff.1 h).1
    omega
theorem fits_halt {α : Type} {d : Bool} {A : α → Prop} {v w : World} {es : Array Event} {x : Halt} {r' : Result α × Array Event} (he : Even Z v) (hx : Hard x ∨ ∃ y, x = .panic y) : Fits Z F d A v w es ((.halt x v : Result α), es) r' :=
  ⟨0, .refl Z v, he, .inr ⟨x, v, hx, rfl⟩, ⟨#[], by simp, fun e h => by simp at h⟩, fun _ _ a v' e => by cases e⟩
/-- ████ A SAFE OPERATION, IN BOTH WORLDS ████ -/
theorem sim_run {P : Program} {α : Type} (s : Sem α) : ∀ (F : Nat → Nat) (d : Bool) (A : α → Prop), SafeD P Z s d A → ∀ (v w : World) (es : Array Event), Sim Z F v w → Even Z v → Fits Z F d A v w es (s.runT P v es) (s.runT P w es) := by
  induction s with
  | pure a => exact fun F d A h v w es hs he => ⟨0, .refl Z v, he, .inl ⟨a, v, h, rfl⟩, ⟨#[], by simp [Sem.runT], fun e h => by simp at h⟩, fun _ _ a' v' e => by
      injection e with e1 e2
      subst e1; subst e2
      exact ⟨w, rfl, rfl, rfl, fun _ _ => rfl, Nat.le_refl _, hs⟩⟩
  | load m a k ih =>
    intro F d A h v w es hs he
    obtain ⟨rfl, hzz, h⟩ := h
    cases hx : v.cell? a with
    | some x =>
      have hz := hs.lively hx
      have hw := hs.cell hz
      rw [hx] at hw
      simp only [Sem.runT, hx, ← hw]
      refine Fits.after (us := #[⟨.cell a, false, false⟩]) ?_ (fun e he => ?_) rfl rfl rfl rfl (fun _ _ => rfl) (Nat.le_refl _) (fun _ _ => rfl) (Nat.le_refl _) (fun _ => rfl) (fun _ _ => rfl) (fun _ _ h _ => h)
      · have e : (Mode.plain == Mode.atomic) = false := by decide
        rw [e, ← Array.push_eq_append]
        exact ih x F d A (h x (.any _)) v w _ hs he
      · simp only [List.mem_toArray, List.mem_singleton] at he
        exact .inl ⟨a, false, he, hz, (fun e => by cases e), lt_of_cell hx⟩
    | none =>
      obtain ⟨y, e1, e2⟩ := (hs.calm he).farLoad P (a := a) (Mode.plain == .atomic)
      simp only [Sem.runT, hx, e1]
      exact fits_halt he (.inl e2)
  | store m a x k ih =>
    intro F d A h v w es hs he
    obtain ⟨rfl, hzz, hxz, h⟩ := h
    have key : ∀ y : Value, NoZ Z y → (∀ z, y ≠ .agg z) → (∀ z, y ≠ .tuple z) → Fits Z F d A v w es ((Sem.store .plain a y k).runT P v es) ((Sem.store .plain a y k).runT P w es) := fun y hy h1 h2 => by
      have e : ∀ v : World, (Sem.store .plain a y k).runT P v es = match v.cell? a with
        | some _ => if v.frozen? a then (.halt (.unsupported (.unsafePointer "a write to bytes that a string shares")) v, es) else k.runT P (v.setCell a y) (es.push ⟨.cell a, true, Mode.plain == .atomic⟩)
        | none => match v.farStore P a y (Mode.plain == .atomic) with
          | .ok (w, touched) => k.runT P w (es ++ touched.toArray.map (⟨.cell ·, true, Mode.plain == .atomic⟩))
          | .error h => (.halt h v, es) := fun v => by
        cases y <;> first | rfl | exact absurd rfl (h1 _) | exact absurd rfl (h2 _)
      rw [e, e]
      cases hx : v.cell? a with
      | some u =>
        have hz := hs.lively hx
        have hw := hs.cell hz
        rw [hx] at hw
        simp only [← hw]
        cases hfz : v.frozen? a with
        | true => exact fits_halt he (.inl trivial)
        | false =>
          simp only [hs.thaw hz hfz, Bool.false_eq_true, if_false]
          have hne : ∀ u : World, ∀ b, Z b = true → (u.setCell a y).heap[b]? = u.heap[b]? := fun u b hb => by
            unfold World.setCell
            simp only [Array.getElem?_modify]
            rw [if_neg (fun e => by rw [e, hb] at hz; cases hz)]
          have hsz : ∀ u : World, u.heap.size ≤ (u.setCell a y).heap.size := fun u => by simp [World.setCell]
          refine Fits.after (us := #[⟨.cell a, true, false⟩]) ?_ (fun e he => ?_) (v1 := v.setCell a y) (w1 := w.setCell a y) rfl rfl rfl rfl (hne v) (hsz v) (hne w) (hsz w) (fun b => frozen_setCell v a b y) (fun b hb => cell_setCell_ice v a b y hfz hb) (fun b o h1 h2 => obj_setCell v a y b o h1 h2)
          · have e : (Mode.plain == Mode.atomic) = false := by decide
            rw [e, ← Array.push_eq_append]
            exact ih F d A h _ _ _ (hs.setCell a y) (he.setCell a hy)
          · simp only [List.mem_toArray, List.mem_singleton] at he
            exact .inl ⟨a, true, he, hz, fun _ => hfz, Nat.lt_of_lt_of_le (lt_of_cell hx) (hsz v)⟩
      | none =>
        obtain ⟨z, e1, e2⟩ := (hs.calm he).farStore P (a := a) y (Mode.plain == .atomic)
        simp only [e1]
        exact fits_halt he (.inl e2)
    cases x
    case agg => exact fits_halt he (.inl trivial)
    case tuple => exact fits_halt he (.inl trivial)
    all_goals exact key _ hxz (fun z e => by cases e) (fun z e => by cases e)
  | new o k ih =>
    intro F d A h v w es hs he
    simp only [Sem.runT]
    have hne : ∀ u : World, (∀ b, Z b = true → b < u.heap.size) → ∀ b, Z b = true → ({ u with heap := u.heap.push o } : World).heap[b]? = u.heap[b]? := fun u hu b hb => by
      simp only [Array.getElem?_push]
      rw [if_neg (by have := hu b hb; omega)]
    refine Fits.after (us := #[]) ?_ (fun e h => by simp at h) (v1 := { v with heap := v.heap.push o }) (w1 := { w with heap := w.heap.push o }) rfl rfl rfl rfl (hne v fun b hb => by rw [hs.size]; exact hs.low b hb) (by simp) (hne w hs.low) (by simp) (fun a => frozen_push v o h.1.2.2 a) (fun a ha => cell_push v o a ha) (fun b x h1 _ => obj_push v o b x h1)
    rw [Array.append_empty, hs.size]
    exact ih _ F d A (h.2 _ trivial) _ _ _ (hs.push o) (he.push ⟨h.1.1, h.1.2.1⟩)
  | shape r k ih =>
    intro F d A h v w es hs he
    have dead : ∀ t n, v.shape? r = some (t, 0) → w.shape? r = some (t, n) → Fits Z F d A v w es ((Sem.shape r k).runT P v es) ((Sem.shape r k).runT P w es) := fun t n h1 h2 => by
      simp only [Sem.runT, h1, h2]
      cases d with
      | true => exact (ih _ F true A (h.2.1 _) v w es hs he).late
      | false =>
        rcases h.2.2 rfl t n with hh | e
        · exact (ih _ F true _ hh v w es hs he).dead
        · rw [← e]; exact ih _ F false A (h.2.1 _) v w es hs he
    cases hz : Z r with
    | false =>
      simp only [Sem.runT, ← hs.shape hz]
      exact ih _ F d A (h.2.1 _) v w es hs he
    | true =>
      rcases hs.dead r hz with ⟨t, h1, h2⟩ | ⟨h1, h2⟩
      · cases e2 : w.heap[r]? with
        | none => rw [e2] at h2; cases h2
        | some o =>
          rw [e2] at h2
          cases o <;> first | (cases h2; done) | skip
          rename_i c t' f
          injection h2 with h2
          injection h2 with h2
          subst h2
          exact dead t' c.size (by unfold World.shape?; rw [h1]; rfl) (by unfold World.shape?; rw [e2])
      · have e1 : v.shape? r = none := by unfold World.shape?; rw [h1]; rfl
        have e2 : w.shape? r = none := by
          unfold World.shape?
          cases e2 : w.heap[r]? with
          | none => rfl
          | some o => rw [e2] at h2; cases o <;> first | rfl | cases h2
        simp only [Sem.runT, e1, e2]
        exact ih _ F d A (h.2.1 _) v w es hs he
  | freeze a n k ih => exact fun F d A h => h.elim
  | frozen a k ih =>
    intro F d A h v w es hs he
    obtain ⟨m, h1, h2, h3, h4, _⟩ := ih (v.frozen? a) (fun _ => 0) true _ (h.2 _) v v es hs.twice he
    simp only [Sem.runT]
    cases d with
    | false =>
      refine ⟨m, h1, h2, h3.imp (fun ⟨a, v', ha, e⟩ => ha.elim) id, h4, fun _ _ a v' e => ?_⟩
      rcases h3 with ⟨_, _, ha, _⟩ | ⟨x, v', _, e'⟩
      · exact ha.elim
      · rw [e'] at e; cases e
    | true => exact ⟨m, h1, h2, h3, h4, fun hd => by cases hd⟩
  | getObj r k ih =>
    intro F d A h v w es hs he
    cases hx : v.heap[r]? with
    | none =>
      simp only [Sem.runT, hx]
      exact fits_halt he (.inl trivial)
    | some o =>
      by_cases hc : ∃ c t f, o = .cells c t f
      · obtain ⟨c, t, f, rfl⟩ := hc
        simp only [Sem.runT, hx]
        exact fits_halt he (.inl trivial)
      · have e : ∀ (v : World) (o : Obj), (¬ ∃ c t f, o = .cells c t f) → v.heap[r]? = some o → (Sem.getObj r k).runT P v es = (k o).runT P v (es.push ⟨.obj r, false, o.isChan⟩) := fun v o hc hv => by
          simp only [Sem.runT, hv]
          cases o <;> first | rfl | exact absurd ⟨_, _, _, rfl⟩ hc
        have ev : ∀ (o : Obj) (e : Event), e ∈ #[(⟨.obj r, false, o.isChan⟩ : Event)] → OffZ Z v.frozen? v.heap.size e := fun o e he => by
          simp only [List.mem_toArray, List.mem_singleton] at he
          exact .inr (.inl ⟨r, _, he, (Array.getElem?_eq_some_iff.1 hx).1⟩)
        rw [e v o hc hx]
        cases hz : Z r with
        | false =>
          obtain ⟨o1, o2⟩ := he r o hz hx
          have hf : F r = 0 := by
            by_cases hf : F r = 0
            · exact hf
            · obtain ⟨_, c, t, h1, _⟩ := hs.ice r hf
              rw [hx] at h1
              exact absurd ⟨_, _, _, Option.some.inj h1⟩ hc
          have hw := hs.heap r hz hf
          rw [e w o hc (hw ▸ hx)]
          refine Fits.after (us := #[⟨.obj r, false, o.isChan⟩]) ?_ (ev o) rfl rfl rfl rfl (fun _ _ => rfl) (Nat.le_refl _) (fun _ _ => rfl) (Nat.le_refl _) (fun _ => rfl) (fun _ _ => rfl) (fun _ _ h _ => h)
          rw [← Array.push_eq_append]
          exact ih _ F d A (h.2.1 o o1 o2) _ _ _ hs he
        | true =>
          rcases hs.dead r hz with ⟨t, h1, h2⟩ | ⟨h1, h2⟩
          · rw [hx] at h1
            exact absurd ⟨_, _, _, Option.some.inj h1⟩ hc
          · rw [hx] at h1
            obtain rfl := Option.some.inj h1
            obtain ⟨g1, g2⟩ := h.2.2 ⟨r, 0, none⟩ 0
            refine Fits.after (us := #[⟨.obj r, false, (selfV r).isChan⟩]) ?_ (ev _) rfl rfl rfl rfl (fun _ _ => rfl) (Nat.le_refl _) (fun _ _ => rfl) (Nat.le_refl _) (fun _ => rfl) (fun _ _ => rfl) (fun _ _ h _ => h)
            rw [← Array.push_eq_append]
            cases d with
            | true => exact (ih _ F true A g1 v w _ hs he).late
            | false =>
              rcases g2 rfl with hh | eo
              · exact (ih _ F true _ hh v w _ hs he).dead
              · cases e2 : w.heap[r]? with
                | none => rw [e2] at h2; cases h2
                | some o' =>
                  rw [e2] at h2
                  have ho : oddO o' = true := by cases o' <;> first | rfl | cases h2
                  have hc' : ¬ ∃ c t f, o' = .cells c t f := fun ⟨_, _, _, hh⟩ => by subst hh; cases ho
                  have hch : (selfV r).isChan = o'.isChan := by cases o' <;> first | rfl | cases ho
                  rw [e w o' hc' e2, ← eo o' ho, ← hch]
                  exact ih _ F false A g1 v w _ hs he
  | setObj r o k ih => exact fun F d A h => h.elim
  | choose q k ih =>
    intro F d A h v w es hs he
    simp only [Sem.runT]
    by_cases hf : q.forced = true
    · simp only [hf, if_true]
      exact ih _ F d A (h 0) v w es hs he
    · have hf : q.forced = false := by simpa using hf
      simp only [hf, Bool.false_eq_true, if_false]
      obtain ⟨m, k1, h4, h5, h6, h3⟩ := ih (q.cut (v.tape v.drawn q)) F d A (h _) { v with drawn := v.drawn + 1 } { w with drawn := w.drawn + 1 } es ⟨hs.size, hs.heap, hs.ice, hs.os, hs.output, hs.low, hs.dead⟩ he
      refine ⟨m + 1, ⟨k1.tape, by rw [k1.drawn]; show v.drawn + 1 + m = _; omega, k1.z, k1.size, k1.frozen, k1.ice, k1.obj, k1.sys⟩, h4, h5, h6, fun hd ha => ?_⟩
      have e0 := ha 0 q (by omega)
      rw [Nat.add_zero, Nat.add_zero] at e0
      rw [e0]
      intro a v' e
      obtain ⟨w', b1, b2, b3, b4, b5, b6⟩ := h3 hd (fun j q hj => by
        have := ha (j + 1) q (by omega)
        simp only
        rw [show w.drawn + 1 + j = w.drawn + (j + 1) by omega, show v.drawn + 1 + j = v.drawn + (j + 1) by omega]
        exact this) a v' e
      exact ⟨w', b1, b2, by rw [b3]; show w.drawn + 1 + m = _; omega, b4, b5, b6⟩
  | sys c k ih => exact fun F d A h => h.elim
  | program k ih => intro F d A h v w es hs he; exact ih P F d A h v w es hs he
  | mark m k ih =>
    intro F d A h v w es hs he
    obtain ⟨rfl, h⟩ := h
    simp only [Sem.runT]
    refine Fits.after (us := #[⟨.mark .noRoom, false, true⟩]) ?_ (fun e he => ?_) rfl rfl rfl rfl (fun _ _ => rfl) (Nat.le_refl _) (fun _ _ => rfl) (Nat.le_refl _) (fun _ => rfl) (fun _ _ => rfl) (fun _ _ h _ => h)
    · rw [← Array.push_eq_append]
      exact ih F d A h v w _ hs he
    · simp only [List.mem_toArray, List.mem_singleton] at he
      exact .inr (.inr he)
  | halt h' =>
    intro F d A h v w es hs he
    exact fits_halt he h
end
/-! ### nothing leads to what is not made yet -/
/-- Z, and all blocks from n on -/
def ZT (Z : Nat → Bool) (n : Nat) : Nat → Bool := fun b => Z b || decide (n ≤ b)
theorem NoZ.mono {Z Z' : Nat → Bool} (_ : ∀ b, Z' b = true → Z b = true) {v : Value} (_ : NoZ Z v) : NoZ Z' v := .any _
theorem ObjZ.mono {Z Z' : Nat → Bool} (_ : ∀ b, Z' b = true → Z b = true) {o : Obj} (_ : ObjZ Z o) : ObjZ Z' o := trivial
theorem ZT_low {Z : Nat → Bool} {n b : Nat} (h : b < n) : ZT Z n b = Z b := by simp [ZT]; omega
theorem ZT_le {Z : Nat → Bool} {n n' : Nat} (h : n ≤ n') : ∀ b, ZT Z n' b = true → ZT Z n b = true := fun b hb => by
  simp only [ZT, Bool.or_eq_true, decide_eq_true_eq] at hb ⊢
  exact hb.imp id fun x => by omega
theorem ZT_of {Z : Nat → Bool} (n : Nat) : ∀ b, Z b = true → ZT Z n b = true := fun b hb => by simp [ZT, hb]
/-- fewer blocks that nothing leads to -/
theorem Even.fewer {Z Z' : Nat → Bool} {w : World} (he : Even Z w) (hz : ∀ b, Z' b = true → Z b = true) (hs : ∀ b, b < w.heap.size → Z b = true → Z' b = true) : Even Z' w := fun b o hb e => by
  have hlt := (Array.getElem?_eq_some_iff.1 e).1
  have : Z b = false := by
    cases ez : Z b with
    | false => rfl
    | true => rw [hs b hlt ez] at hb; cases hb
  obtain ⟨h1, h2⟩ := he b o this e
  exact ⟨h1, h2.mono hz⟩
theorem Even.tall {Z : Nat → Bool} {w : World} {n' : Nat} (he : Even (ZT Z w.heap.size) w) (h : w.heap.size ≤ n') : Even (ZT Z n') w :=
  he.fewer (ZT_le h) fun b hb e => by rw [ZT_low hb] at e; exact ZT_of n' b e
theorem Even.base {Z : Nat → Bool} {w : World} {n : Nat} (he : Even (ZT Z n) w) (h : w.heap.size ≤ n) : Even Z w :=
  he.fewer (ZT_of n) fun b hb e => by rw [ZT_low (by omega)] at e; exact e
theorem Calm0.setCell {w : World} (h : Calm0 w) (a : Addr) (x : Value) : Calm0 (w.setCell a x) := fun b o ho hod => by
  unfold World.setCell at ho
  simp only [Array.getElem?_modify] at ho
  split at ho
  · cases e : w.heap[b]? with
    | none => rw [e] at ho; cases ho
    | some o' =>
      rw [e] at ho
      simp only [Option.map_some, Option.some.injEq] at ho
      subst ho
      cases o' <;> first | exact h b _ e hod | cases hod
  · exact h b o ho hod
theorem Calm0.push {w : World} (h : Calm0 w) {o : Obj} (ho : oddO o = false) : Calm0 { w with heap := w.heap.push o } := fun b x hx hod => by
  simp only [Array.getElem?_push] at hx
  split at hx
  · injection hx with hx; subst hx; rw [ho] at hod; cases hod
  · exact h b x hx hod
/-- a safe operation makes nothing odd -/
theorem even_run {P : Program} {Z : Nat → Bool} {α : Type} (s : Sem α) : ∀ (d : Bool) (A : α → Prop), SafeD P Z s d A → ∀ (v : World) (es : Array Event), Calm0 v → Even Z v → Even Z (resW (s.runT P v es).1) ∧ ∀ a v', (s.runT P v es).1 = .ok a v' → A a := by
  have halt : ∀ {A : α → Prop} {v : World} {x : Halt}, Even Z v → Even Z (resW (.halt x v : Result α)) ∧ ∀ a v', (.halt x v : Result α) = .ok a v' → A a := fun he => ⟨he, fun a v' e => by cases e⟩
  induction s with
  | pure a => exact fun d A h v es hl he => ⟨he, fun a' v' e => by injection e with e1 _; subst e1; exact h⟩
  | load m a k ih =>
    intro d A h v es hl he
    obtain ⟨rfl, hz1, h⟩ := h
    cases hx : v.cell? a with
    | some x =>
      simp only [Sem.runT, hx]
      exact ih x d A (h x (.any _)) v _ hl he
    | none =>
      obtain ⟨y, e1, e2⟩ := hl.farLoad P (a := a) (Mode.plain == .atomic)
      simp only [Sem.runT, hx, e1]
      exact halt he
  | store m a x k ih =>
    intro d A h v es hl he
    obtain ⟨rfl, hz1, hxz, h⟩ := h
    have key : ∀ y : Value, (∀ z, y ≠ .agg z) → (∀ z, y ≠ .tuple z) → Even Z (resW ((Sem.store .plain a y k).runT P v es).1) ∧ ∀ a' v', ((Sem.store .plain a y k).runT P v es).1 = .ok a' v' → A a' := fun y h1 h2 => by
      have e : (Sem.store .plain a y k).runT P v es = match v.cell? a with
        | some _ => if v.frozen? a then (.halt (.unsupported (.unsafePointer "a write to bytes that a string shares")) v, es) else k.runT P (v.setCell a y) (es.push ⟨.cell a, true, Mode.plain == .atomic⟩)
        | none => match v.farStore P a y (Mode.plain == .atomic) with
          | .ok (w, touched) => k.runT P w (es ++ touched.toArray.map (⟨.cell ·, true, Mode.plain == .atomic⟩))
          | .error h => (.halt h v, es) := by
        cases y <;> first | rfl | exact absurd rfl (h1 _) | exact absurd rfl (h2 _)
      rw [e]
      cases hx : v.cell? a with
      | some u =>
        cases hfz : v.frozen? a with
        | true => simp only [if_true]; exact halt he
        | false =>
          simp only [Bool.false_eq_true, if_false]
          exact ih d A h _ _ (hl.setCell a y) (he.setCell a (.any _))
      | none =>
        obtain ⟨z, e1, e2⟩ := hl.farStore P (a := a) y (Mode.plain == .atomic)
        simp only [e1]
        exact halt he
    cases x
    case agg => exact halt he
    case tuple => exact halt he
    all_goals exact key _ (fun z e => by cases e) (fun z e => by cases e)
  | new o k ih =>
    intro d A h v es hl he
    simp only [Sem.runT]
    exact ih _ d A (h.2 _ trivial) _ es (hl.push h.1.1) (he.push ⟨h.1.1, h.1.2.1⟩)
  | shape r k ih =>
    intro d A h v es hl he
    simp only [Sem.runT]
    exact ih _ d A (h.2.1 _) v es hl he
  | freeze a n k ih => exact fun d A h => h.elim
  | frozen a k ih =>
    intro d A h v es hl he
    simp only [Sem.runT]
    obtain ⟨g1, g2⟩ := ih (v.frozen? a) true _ (h.2 _) v es hl he
    refine ⟨g1, fun a' v' e => ?_⟩
    have := g2 a' v' e
    cases d with
    | false => exact this.elim
    | true => exact this
  | getObj r k ih =>
    intro d A h v es hl he
    cases hx : v.heap[r]? with
    | none =>
      simp only [Sem.runT, hx]
      exact halt he
    | some o =>
      by_cases hc : ∃ c t f, o = .cells c t f
      · obtain ⟨c, t, f, rfl⟩ := hc
        simp only [Sem.runT, hx]
        exact halt he
      · have e : (Sem.getObj r k).runT P v es = (k o).runT P v (es.push ⟨.obj r, false, o.isChan⟩) := by
          simp only [Sem.runT, hx]
          cases o <;> first | rfl | exact absurd ⟨_, _, _, rfl⟩ hc
        rw [e]
        cases ho : oddO o with
        | false => exact ih o d A (h.2.1 o ho trivial) v _ hl he
        | true =>
          obtain rfl := hl r o hx ho
          exact ih _ d A (h.2.2 _ _).1 v _ hl he
  | setObj r o k ih => exact fun d A h => h.elim
  | choose q k ih =>
    intro d A h v es hl he
    simp only [Sem.runT]
    by_cases hf : q.forced = true
    · simp only [hf, if_true]
      exact ih _ d A (h 0) v es hl he
    · have hf : q.forced = false := by simpa using hf
      simp only [hf, Bool.false_eq_true, if_false]
      exact ih _ d A (h _) { v with drawn := v.drawn + 1 } es hl he
  | sys c k ih => exact fun d A h => h.elim
  | program k ih => intro d A h v es hl he; exact ih P d A h v es hl he
  | mark m k ih =>
    intro d A h v es hl he
    simp only [Sem.runT]
    exact ih d A h.2 v _ hl he
  | halt h' => exact fun d A h v es hl he => halt he
end Go.Proofs.Ytaiinkeendejdaa
namespace Go.Proofs.Ytaiinkeendejdaa
open Go.RowKit Go.Conc
set_option maxRecDepth 100000

/-- what an operation may come to -/
def NextZ (Z : Nat → Bool) (F : FuncId → Bool) : Next → Prop
  | .value v => NoZ Z v
  | .skip => True
  | .enter f args => F f = true ∧ ∀ x ∈ args, NoZ Z x
  | _ => False
/-- a constant that leads nowhere -/
def plainV : Value → Bool
  | .bool _ | .int .. | .float .. | .complex .. | .string _ | .nilFunc | .nilIface | .pointer none | .slice none .. | .map none | .chan none => true
  | _ => false
/-- M: the slots that are masked: they may hold whatever, and are not read -/
def okX (M : Nat → Bool) : Operand → Bool
  | .tmp i => !M i
  | .func _ => true
  | .const v => plainV v
  | .global _ => false
def SlotsOk (Z : Nat → Bool) (M : Nat → Bool) (t : Array Value) : Prop := ∀ (i : Nat) y, M i = false → t[i]? = some y → NoZ Z y
/-- an operation that is safe, whatever the frame -/
def OpOk (P : Program) (Z : Nat → Bool) (F : FuncId → Bool) (M : Nat → Bool) (o : Oper) : Prop := ∀ ρ : Operand → Value, (∀ x, okX M x = true → NoZ Z (ρ x)) → (∀ f, ρ (.func f) = .func (.func f) #[] #[]) → (∀ v, ρ (.const v) = v) → Safe P Z (NextZ Z F) (execOp ρ o)
theorem plainV_ok {Z : Nat → Bool} : ∀ {v : Value}, plainV v = true → NoZ Z v := fun {v} h => by
  exact .any _
theorem eval_ok {Z M : Nat → Bool} {t : Array Value} (ht : SlotsOk Z M t) : ∀ x, okX M x = true → NoZ Z (Act.eval ⟨t, []⟩ x)
  | .tmp i, hm => by
    show NoZ Z (t.getD i undef)
    rw [Array.getD_eq_getD_getElem?]
    cases e : t[i]? with
    | none => exact .tuple _ fun x hx => by simp at hx
    | some y => exact ht i y (by simpa [okX] using hm) e
  | .func f, _ => .func f _ _ (fun x hx => by simp at hx) (fun x hx => by simp at hx)
  | .const v, h => plainV_ok h
/-- code that is told by its form; W: which operations -/
def codeC (W : Oper → Bool) : Code → Bool
  | .skip | .exit _ | .ret => true
  | .region _ ops _ => ops.all W
  | .seq a b => codeC W a && codeC W b
  | .cond _ a b => codeC W a && codeC W b
  | .block _ b => codeC W b
  | .loop b => codeC W b
  | _ => false
def itemC (W : Oper → Bool) : Item → Bool
  | .code c => codeC W c
  | .inRegion ops _ => ops.all W
  | .inBlock _ => true
  | .inLoop b => codeC W b
  | _ => false
/-- a frame: its function, its slots, what it has to do -/
structure Cl where
  f : FuncId
  t : Array Value
  k : List Item
/-- l: what the frame has to do behind it, of which nothing is known -/
def Cl.fr (c : Cl) (l : List Item) : Frame := { fn := c.f, tmps := c.t, todo := c.k ++ l, defers := [], mode := .run, kind := .normal }
def Cl.rt (c : Cl) (l : List Item) : Frame := { fn := c.f, tmps := c.t, todo := c.k ++ l, defers := [], mode := .returning, kind := .normal }
def Cl.g (c : Cl) (r : Bool) (l : List Item) : Frame := if r then c.rt l else c.fr l
def tlOf : List Cl → List Item → List Item
  | [], tl => tl
  | _ :: _, _ => []
def calls : List Cl → List Item → List Frame
  | [], _ => []
  | d :: ds, tl => d.fr (tlOf ds tl) :: calls ds tl
/-- a stack of clean frames (c above mid), the lowest with a tail of whatever items, on whatever frames -/
def conf (c : Cl) (r : Bool) (mid : List Cl) (tl : List Item) (base : List Frame) : Goroutine := G (c.g r (tlOf mid tl)) (calls mid tl ++ base)
def Cl.Mid (c : Cl) : Prop := ∃ ops i rest k, c.k = .inRegion ops (i :: rest) :: k
structure Cl.Ok (P : Program) (Z : Nat → Bool) (M : FuncId → Nat → Bool) (W : FuncId → Oper → Bool) (c : Cl) : Prop where
  f : ∃ fn, P.funcs[c.f]? = some fn
  t : SlotsOk Z (M c.f) c.t
  k : ∀ x ∈ c.k, itemC (W c.f) x = true
/-- all but the lowest frame are of functions of F -/
def Up (F : FuncId → Bool) : Cl → List Cl → Prop
  | _, [] => True
  | c, d :: ds => F c.f = true ∧ Up F d ds
theorem Up.same {F : FuncId → Bool} {c c' : Cl} (e : c'.f = c.f) : ∀ {mid : List Cl}, Up F c mid → Up F c' mid
  | [], _ => trivial
  | _ :: _, h => ⟨by rw [e]; exact h.1, h.2⟩
def Mids (P : Program) (Z : Nat → Bool) (M : FuncId → Nat → Bool) (W : FuncId → Oper → Bool) (F : FuncId → Bool) (c : Cl) (mid : List Cl) : Prop := (∀ x ∈ mid, x.Ok P Z M W ∧ x.Mid) ∧ Up F c mid
theorem Mids.same {P : Program} {Z : Nat → Bool} {M : FuncId → Nat → Bool} {W : FuncId → Oper → Bool} {F : FuncId → Bool} {c c' : Cl} {mid : List Cl} (h : Mids P Z M W F c mid) (e : c'.f = c.f) : Mids P Z M W F c' mid := ⟨h.1, h.2.same e⟩
/-- what is asked of the functions of F -/
structure FunOk (P : Program) (Z : Nat → Bool) (M : FuncId → Nat → Bool) (W : FuncId → Oper → Bool) (F : FuncId → Bool) : Prop where
  fn : ∀ f, F f = true → ∃ fn c, P.funcs[f]? = some fn ∧ fn.body = some c ∧ codeC (W f) c = true ∧ ∀ t, SlotsOk Z (M f) t → Safe P Z (NoZ Z) (results fn t)
  op : ∀ f o, W f o = true → OpOk P Z F (M f) o
def FunAll (P : Program) (M : FuncId → Nat → Bool) (W : FuncId → Oper → Bool) (F : FuncId → Bool) : Prop := ∀ Z, FunOk P Z M W F
/-- a step, and what it is in whatever world that agrees off Z: m draws having been told alike -/
def StepTo (P : Program) (Z : Nat → Bool) (M : FuncId → Nat → Bool) (W : FuncId → Oper → Bool) (F : FuncId → Bool) (c : Cl) (r : Bool) (mid : List Cl) (v : World) (c' : Cl) (r' : Bool) (mid' : List Cl) : Prop :=
  ∃ v' es m, (∀ main base tl, stepG P main (conf c r mid tl base) v = .go (conf c' r' mid' tl base) v' es) ∧ Keeps Z v m v' ∧ Even (ZT Z v'.heap.size) v' ∧ c'.Ok P (ZT Z v'.heap.size) M W ∧ Mids P (ZT Z v'.heap.size) M W F c' mid' ∧
    ∀ F w, Sim Z F v w → (∀ j q, j < m → w.tape (w.drawn + j) q = v.tape (v.drawn + j) q) → ∃ w', (∀ main base tl, stepG P main (conf c r mid tl base) w = .go (conf c' r' mid' tl base) w' es) ∧ (∀ e ∈ es, OffZ Z v.frozen? w'.heap.size e) ∧ Sim Z F v' w' ∧
      w'.tape = w.tape ∧ w'.drawn = w.drawn + m ∧ (∀ b, Z b = true → w'.heap[b]? = w.heap[b]?) ∧ w.heap.size ≤ w'.heap.size
/-- a panic, or the end of the run (the lowest frame without a tail) -/
def StepBad (P : Program) (c : Cl) (r : Bool) (mid : List Cl) (v : World) : Prop :=
  (∃ chain v' es, ∀ main base, stepG P main (conf c r mid [] base) v = .go (G ((c.g r []).raise chain) (calls mid [] ++ base)) v' es) ∨ ∀ main base, ∃ o v' es, stepG P main (conf c r mid [] base) v = .ended o v' es
section
variable {P : Program} {Z : Nat → Bool} {M : FuncId → Nat → Bool} {W : FuncId → Oper → Bool} {F : FuncId → Bool}
theorem undef_ok : NoZ Z undef := .tuple _ fun x hx => by simp at hx
theorem step_ctl {c c' : Cl} {r r' : Bool} {mid mid' : List Cl} {v : World} (h : ∀ main base tl (u : World), stepG P main (conf c r mid tl base) u = .go (conf c' r' mid' tl base) u) (he : Even (ZT Z v.heap.size) v) (hc : c'.Ok P (ZT Z v.heap.size) M W) (hm : Mids P (ZT Z v.heap.size) M W F c' mid') : StepTo P Z M W F c r mid v c' r' mid' :=
  ⟨v, #[], 0, fun main base tl => h main base tl v, .refl Z v, he, hc, hm, fun _ w hs _ => ⟨w, fun main base tl => h main base tl w, fun e hx => by simp at hx, hs, rfl, rfl, fun _ _ => rfl, Nat.le_refl _⟩⟩
theorem exitTo_ok {W : Oper → Bool} {id : Nat} : ∀ {k k' : List Item}, exitTo id k = some k' → (∀ x ∈ k, itemC W x = true) → ∀ x ∈ k', itemC W x = true
  | [], _, h, _ => by simp [exitTo] at h
  | i :: k, k', h, hk => by
    have hk2 : ∀ x ∈ k, itemC W x = true := fun x hx => hk x (List.mem_cons_of_mem _ hx)
    cases i <;> simp only [exitTo] at h
    case inBlock =>
      split at h
      · injection h with h; subst h; exact hk2
      · exact exitTo_ok h hk2
    all_goals exact exitTo_ok h hk2
theorem exitTo_app {id : Nat} (l : List Item) : ∀ {k k' : List Item}, exitTo id k = some k' → exitTo id (k ++ l) = some (k' ++ l)
  | [], _, h => by simp [exitTo] at h
  | i :: k, k', h => by
    cases i <;> simp only [exitTo, List.cons_append] at h ⊢
    case inBlock =>
      split at h
      · rename_i e; injection h with h; subst h; simp [e]
      · rename_i e; simp only [e, Bool.false_eq_true, if_false]; exact exitTo_app l h
    all_goals exact exitTo_app l h
/-- what a value that comes back makes of a frame -/
def Cl.fin (c : Cl) (v : Value) : Cl :=
  match c.k with
  | .inRegion ops (i :: rest) :: k => { c with t := (match (ops[i]?).bind (·.dst) with | some d => c.t.setIfInBounds d v | none => c.t), k := .inRegion ops rest :: k }
  | _ => c
theorem Cl.fin_fr {c : Cl} (h : c.Mid) (l : List Item) (v : Value) : (c.fr l).finish v = (c.fin v).fr l := by
  obtain ⟨f, t, k⟩ := c
  obtain ⟨ops, i, rest, k', e⟩ := h
  simp only at e
  subst e
  rfl
theorem slots_of {Z M : Nat → Bool} {t : Array Value} (h : ∀ x ∈ t, NoZ Z x) : SlotsOk Z M t := fun _ _ _ hy => h _ (Array.mem_of_getElem? hy)
theorem slots_ok {Z M : Nat → Bool} {args : Array Value} {n : Nat} (h : ∀ x ∈ args, NoZ Z x) : SlotsOk Z M (args ++ Array.replicate n undef) := slots_of fun x hx => by
  rcases Array.mem_append.1 hx with hx | hx
  · exact h x hx
  · rw [Array.mem_replicate] at hx; rw [hx.2]; exact undef_ok
theorem SlotsOk.set {Z M : Nat → Bool} {t : Array Value} (h : SlotsOk Z M t) (d : Nat) {v : Value} (hv : NoZ Z v) : SlotsOk Z M (t.setIfInBounds d v) := fun i y hi hy => by
  by_cases e : d = i
  · subst e
    by_cases hlt : d < t.size
    · rw [Array.getElem?_setIfInBounds_self_of_lt hlt] at hy
      injection hy with hy; subst hy; exact hv
    · rw [Array.getElem?_eq_none (by simpa using hlt)] at hy; cases hy
  · rw [Array.getElem?_setIfInBounds_ne e] at hy
    exact h i y hi hy
theorem Cl.fin_f (c : Cl) (v : Value) : (c.fin v).f = c.f := by
  unfold Cl.fin
  split <;> rfl
theorem Cl.Ok.fin {c : Cl} (h : c.Ok P Z M W) {v : Value} (hv : NoZ Z v) : (c.fin v).Ok P Z M W := by
  obtain ⟨f, t, k⟩ := c
  unfold Cl.fin
  split
  · rename_i ops i rest k' e
    simp only at e
    subst e
    refine ⟨h.f, ?_, fun x hx => ?_⟩
    · show SlotsOk Z (M f) (match (ops[i]?).bind (·.dst) with | some d => t.setIfInBounds d v | none => t)
      split
      · exact h.t.set _ hv
      · exact h.t
    rcases List.mem_cons.1 hx with rfl | hx
    · exact h.k (.inRegion ops (i :: rest)) (by simp)
    · exact h.k x (by simp [hx])
  · exact h
theorem SlotsOk.mono {Z Z' M : Nat → Bool} (hz : ∀ b, Z' b = true → Z b = true) {t : Array Value} (h : SlotsOk Z M t) : SlotsOk Z' M t := fun i y hi hy => (h i y hi hy).mono hz
theorem Cl.Ok.mono {Z' : Nat → Bool} (hz : ∀ b, Z' b = true → Z b = true) {c : Cl} (h : c.Ok P Z M W) : c.Ok P Z' M W := ⟨h.f, h.t.mono hz, h.k⟩
theorem Mids.mono {Z' : Nat → Bool} (hz : ∀ b, Z' b = true → Z b = true) {c : Cl} {mid : List Cl} (h : Mids P Z M W F c mid) : Mids P Z' M W F c mid := ⟨fun x hx => ⟨(h.1 x hx).1.mono hz, (h.1 x hx).2⟩, h.2⟩
theorem safe_cases {α : Type} {A : (Nat → Bool) → α → Prop} (s : Sem α) {v : World} (hp : ∀ Z', (∀ b, Z' b = true → ZT Z v.heap.size b = true) → Safe P Z' (A Z') s) (he : Even (ZT Z v.heap.size) v) (hz : ∃ F w, Sim Z F v w) :
    (∃ a v' es m, s.runT P v #[] = (.ok a v', es) ∧ A (ZT Z v'.heap.size) a ∧ Keeps Z v m v' ∧ Even (ZT Z v'.heap.size) v' ∧ ∀ F w, Sim Z F v w → (∀ j q, j < m → w.tape (w.drawn + j) q = v.tape (v.drawn + j) q) → ∃ w', s.runT P w #[] = (.ok a w', es) ∧ (∀ e ∈ es, OffZ Z v.frozen? w'.heap.size e) ∧ Sim Z F v' w' ∧ w'.tape = w.tape ∧ w'.drawn = w.drawn + m ∧ (∀ b, Z b = true → w'.heap[b]? = w.heap[b]?) ∧ w.heap.size ≤ w'.heap.size) ∨
    (∃ x v' es, s.runT P v #[] = (.halt x v', es) ∧ (Hard x ∨ ∃ y, x = .panic y)) := by
  have hpZ := hp Z (ZT_of _)
  have heZ : Even Z v := he.base (Nat.le_refl _)
  obtain ⟨F0, w0, h0⟩ := hz
  have hlow : ∀ b, Z b = true → b < v.heap.size := fun b hb => by rw [h0.size]; exact h0.low b hb
  obtain ⟨m, k1, he1, hsm, _, _⟩ := sim_run s F0 false _ hpZ v w0 #[] h0 heZ
  cases hr : s.runT P v #[] with
  | mk r es =>
    rw [hr] at k1 he1 hsm
    rcases hsm with ⟨a, v', ha, e⟩ | ⟨x, v', hx, e⟩
    · simp only at e
      subst e
      have k1' : Keeps Z v m v' := k1
      obtain ⟨e1, e2⟩ := even_run (Z := ZT Z v'.heap.size) s false _ (hp (ZT Z v'.heap.size) (ZT_le k1'.size)) v #[] (h0.calm heZ) (he.tall k1'.size)
      rw [hr] at e1 e2
      refine .inl ⟨a, v', es, m, rfl, e2 a v' rfl, k1, e1, fun F w hs hag => ?_⟩
      obtain ⟨m2, k2, he2, hsm2, ⟨us, u1, u2⟩, h3⟩ := sim_run s F false _ hpZ v w #[] hs heZ
      rw [hr] at k2 he2 hsm2 h3 u1 u2
      have hm : m = m2 := by
        have h1 := k1.drawn
        have h2 := k2.drawn
        omega
      subst hm
      obtain ⟨w', e1, t1, d1, z1, s1, s3⟩ := h3 rfl hag a v' rfl
      simp only [Array.empty_append] at u1
      subst u1
      refine ⟨w', e1, fun e he => ?_, s3, t1, d1, z1, s1⟩
      have := u2 e he
      simp only [resW] at this
      rw [s3.size] at this
      exact this
    · simp only at e
      subst e
      exact .inr ⟨x, v', es, rfl, hx⟩
/-- a frame on its way out -/
theorem step_ret (H : FunAll P M W F) {c d : Cl} {ds : List Cl} {v : World} (hc : c.Ok P (ZT Z v.heap.size) M W) (hm : Mids P (ZT Z v.heap.size) M W F c (d :: ds)) (hz : ∃ F w, Sim Z F v w) (he : Even (ZT Z v.heap.size) v) :
    (∃ c', StepTo P Z M W F c true (d :: ds) v c' false ds) ∨ StepBad P c true (d :: ds) v := by
  have hF := hm.2.1
  have hd := (hm.1 d (by simp)).1
  have hdm := (hm.1 d (by simp)).2
  obtain ⟨fn, body, hf, hb, hcode, hres⟩ := (H Z).fn c.f hF
  have hres : ∀ Z', (∀ b, Z' b = true → ZT Z v.heap.size b = true) → Safe P Z' (NoZ Z') (results fn c.t) := fun Z' hz' => by
    obtain ⟨fn2, _, hf2, _, _, h2⟩ := (H Z').fn c.f hF
    rw [hf] at hf2
    obtain rfl := Option.some.inj hf2
    exact h2 c.t (hc.t.mono hz')
  have step : ∀ main base tl (u : World), stepG P main (conf c true (d :: ds) tl base) u = GStep.after (seen P c.f ((results fn c.t).runT P u #[]).2) (match ((results fn c.t).runT P u #[]).1 with
      | .ok v w => .go (G ((d.fr (tlOf ds tl)).finish v) (calls ds tl ++ base)) w
      | .halt (.stuck s) w => .ended (.stuck s ((c.rt []).pos P)) w
      | .halt _ w => .ended (.stuck "return: the result variables cannot be read" ((c.rt []).pos P)) w) := fun main base tl u => by
    obtain ⟨f, t, k⟩ := c
    simp only at hf
    simp only [conf, calls, tlOf, G, Cl.g, Cl.rt, if_true, stepG, unwind, hf, List.cons_append, doReturn]
    rcases (results fn t).runT P u #[] with ⟨r, es⟩
    cases r <;> rfl
  rcases safe_cases (A := fun Z' => NoZ Z') (results fn c.t) hres he hz with ⟨a, v', es, m, e, ha, k1, h1, h2⟩ | ⟨x, v', es, e, hx⟩
  · refine .inl ⟨d.fin a, v', seen P c.f es, m, fun main base tl => ?_, k1, h1, (hd.mono (ZT_le k1.size)).fin ha, ⟨fun x hx => ⟨(hm.1 x (by simp [hx])).1.mono (ZT_le k1.size), (hm.1 x (by simp [hx])).2⟩, hm.2.2.same (Cl.fin_f d a)⟩, fun F w hs ha => ?_⟩
    · rw [step main base tl v, e]
      simp only [GStep.after, Cl.fin_fr hdm]
      simp [conf, Cl.g]
    · obtain ⟨w', e', o1, o2, o3, o4, o5, o6⟩ := h2 F w hs ha
      refine ⟨w', fun main base tl => ?_, fun e hx => o1 e (mem_seen hx), o2, o3, o4, o5, o6⟩
      rw [step main base tl w, e']
      simp only [GStep.after, Cl.fin_fr hdm]
      simp [conf, Cl.g]
  · refine .inr (.inr fun main base => ?_)
    rw [step main base [] v, e]
    cases x <;> exact ⟨_, _, _, rfl⟩
/-- an operation of a clean frame -/
theorem step_oper (H : FunAll P M W F) {f : FuncId} {t : Array Value} {ops : Array Oper} {i : Nat} {rest : List Nat} {k : List Item} {v : World} (hc : (⟨f, t, .inRegion ops (i :: rest) :: k⟩ : Cl).Ok P (ZT Z v.heap.size) M W) {mid : List Cl} (hm : Mids P (ZT Z v.heap.size) M W F ⟨f, t, .inRegion ops (i :: rest) :: k⟩ mid) (hz : ∃ F w, Sim Z F v w) (he : Even (ZT Z v.heap.size) v)
    {o : Oper} (ho : ops[i]? = some o) (hw : Region.wanted o (yielded ops t) = true) :
    (∃ c' r' mid', StepTo P Z M W F ⟨f, t, .inRegion ops (i :: rest) :: k⟩ false mid v c' r' mid') ∨ StepBad P ⟨f, t, .inRegion ops (i :: rest) :: k⟩ false mid v := by
  have hWo : W f o = true := by
    have h1 := hc.k (.inRegion ops (i :: rest)) (by simp)
    simp only [itemC] at h1
    obtain ⟨hlt, rfl⟩ := Array.getElem?_eq_some_iff.1 ho
    exact Array.all_eq_true.1 h1 i hlt
  have hp : ∀ Z', (∀ b, Z' b = true → ZT Z v.heap.size b = true) → Safe P Z' (NextZ Z' F) (execOp (Act.eval ⟨t, []⟩) o) := fun Z' hz' => (H Z').op f o hWo (Act.eval ⟨t, []⟩) (eval_ok (hc.t.mono hz')) (fun _ => rfl) fun _ => rfl
  have hmid : (⟨f, t, .inRegion ops (i :: rest) :: k⟩ : Cl).Mid := ⟨ops, i, rest, k, rfl⟩
  have step : ∀ main base tl (u : World), stepG P main (conf (⟨f, t, .inRegion ops (i :: rest) :: k⟩ : Cl) false mid tl base) u = stepG.apply P true ((⟨f, t, .inRegion ops (i :: rest) :: k⟩ : Cl).fr (tlOf mid tl)) (calls mid tl ++ base) none (execOp (Act.eval ⟨t, []⟩) o) u := fun main base tl u =>
    stepG_oper (b := { fn := f, tmps := #[], todo := [], defers := [], mode := .run, kind := .normal }) (a := ⟨t, []⟩) (k := k ++ tlOf mid tl) ho hw
  have kind : ∀ l, (((⟨f, t, .inRegion ops (i :: rest) :: k⟩ : Cl).fr l).kind == CallKind.early) = false := fun l => rfl
  rcases safe_cases (A := fun Z' => NextZ Z' F) (execOp (Act.eval ⟨t, []⟩) o) hp he hz with ⟨n, v', es, m, e, hnk, k1, h1, h2⟩ | ⟨x, v', es, e, hx⟩
  · have fin : ∀ (u u' : World) (x : Value), (execOp (Act.eval ⟨t, []⟩) o).runT P u #[] = (.ok (.value x) u', es) ∨ ((execOp (Act.eval ⟨t, []⟩) o).runT P u #[] = (.ok .skip u', es) ∧ x = undef) → ∀ main base tl, stepG P main (conf (⟨f, t, .inRegion ops (i :: rest) :: k⟩ : Cl) false mid tl base) u = .go (conf ((⟨f, t, .inRegion ops (i :: rest) :: k⟩ : Cl).fin x) false mid tl base) u' (seen P f es) := fun u u' x hx main base tl => by
      rw [step main base tl u]
      have hfin := Cl.fin_fr hmid (tlOf mid tl) x
      rcases hx with hx | ⟨hx, rfl⟩
      all_goals
        unfold stepG.apply
        simp only [hx, kind, if_true, Bool.false_eq_true, if_false, GStep.after, hfin, conf, Cl.g, G, Array.append_empty]
        rfl
    cases n with
    | value x =>
      refine .inl ⟨(⟨f, t, .inRegion ops (i :: rest) :: k⟩ : Cl).fin x, false, mid, v', seen P f es, m, fin v v' x (.inl e), k1, h1, (hc.mono (ZT_le k1.size)).fin hnk, (hm.mono (ZT_le k1.size)).same (Cl.fin_f _ _), fun F w hs ha => ?_⟩
      obtain ⟨w', e', o1, o2⟩ := h2 F w hs ha
      exact ⟨w', fin w w' x (.inl e'), fun e hx => o1 e (mem_seen hx), o2⟩
    | skip =>
      refine .inl ⟨(⟨f, t, .inRegion ops (i :: rest) :: k⟩ : Cl).fin undef, false, mid, v', seen P f es, m, fin v v' undef (.inr ⟨e, rfl⟩), k1, h1, (hc.mono (ZT_le k1.size)).fin undef_ok, (hm.mono (ZT_le k1.size)).same (Cl.fin_f _ _), fun F w hs ha => ?_⟩
      obtain ⟨w', e', o1, o2⟩ := h2 F w hs ha
      exact ⟨w', fin w w' undef (.inr ⟨e', rfl⟩), fun e hx => o1 e (mem_seen hx), o2⟩
    | enter f' args =>
      obtain ⟨hF', hargs⟩ := hnk
      obtain ⟨fn, body, hf, hb, hcode, hres⟩ := (H Z).fn f' hF'
      have ent : ∀ u u' : World, (execOp (Act.eval ⟨t, []⟩) o).runT P u #[] = (.ok (.enter f' args) u', es) → ∀ main base tl, stepG P main (conf (⟨f, t, .inRegion ops (i :: rest) :: k⟩ : Cl) false mid tl base) u = .go (conf (⟨f', args ++ Array.replicate (fn.ntmps - args.size) undef, [.code body]⟩ : Cl) false (⟨f, t, .inRegion ops (i :: rest) :: k⟩ :: mid) tl base) u' (seen P f es) := fun u u' hx main base tl => by
        rw [step main base tl u]
        unfold stepG.apply
        simp only [hx, kind, if_true, Bool.false_eq_true, if_false, GStep.after, conf, calls, tlOf, Cl.g, G, Array.append_empty, Frame.enter, hf, hb, Option.map_some, Option.bind_some, Option.getD_some]
        rfl
      refine .inl ⟨_, false, ⟨f, t, .inRegion ops (i :: rest) :: k⟩ :: mid, v', seen P f es, m, ent v v' e, k1, h1, ⟨⟨fn, hf⟩, slots_ok hargs, fun x hx => ?_⟩, ⟨fun x hx => ?_, hF', hm.2⟩, fun F w hs ha => ?_⟩
      · rw [List.mem_singleton] at hx; subst hx; exact hcode
      · rcases List.mem_cons.1 hx with rfl | hx
        · exact ⟨hc.mono (ZT_le k1.size), hmid⟩
        · exact (hm.mono (ZT_le k1.size)).1 x hx
      · obtain ⟨w', e', o1, o2⟩ := h2 F w hs ha
        exact ⟨w', ent w w' e', fun e hx => o1 e (mem_seen hx), o2⟩
    | _ => exact hnk.elim
  · refine .inr ?_
    have key : ∀ main base, stepG P main (conf (⟨f, t, .inRegion ops (i :: rest) :: k⟩ : Cl) false mid [] base) v = stepG.apply P true ((⟨f, t, .inRegion ops (i :: rest) :: k⟩ : Cl).fr (tlOf mid [])) (calls mid [] ++ base) none (execOp (Act.eval ⟨t, []⟩) o) v := fun main base => step main base [] v
    have tl0 : tlOf mid [] = [] := by cases mid <;> rfl
    rcases hx with hx | ⟨y, rfl⟩
    · refine .inr fun main base => ?_
      rw [key main base]
      unfold stepG.apply
      cases x <;> simp only [Hard] at hx
      case stuck s =>
        simp only [e, if_true]
        exact ⟨_, _, _, rfl⟩
      case unsupported u =>
        cases u <;> simp only at hx
        all_goals
          simp only [e, if_true]
          exact ⟨_, _, _, rfl⟩
    · refine .inl ⟨[{ v := y, recovered := false }], v', seen P f es, fun main base => ?_⟩
      rw [key main base]
      unfold stepG.apply
      simp only [e, kind, if_true, Bool.false_eq_true, if_false, GStep.after, Cl.g, G, Array.append_empty, tl0]
      rfl
/-- where nothing is said: the lowest frame has done its items, or is on its way out -/
def Rests (c : Cl) (r : Bool) (mid : List Cl) : Prop := mid = [] ∧ (r = true ∨ c.k = [])
/-- ████ WHATEVER STEP OF A STACK OF CLEAN FRAMES ████ -/
theorem clean_step (H : FunAll P M W F) {c : Cl} {r : Bool} {mid : List Cl} {v : World} (hc : c.Ok P (ZT Z v.heap.size) M W) (hm : Mids P (ZT Z v.heap.size) M W F c mid) (hz : ∃ F w, Sim Z F v w) (he : Even (ZT Z v.heap.size) v) :
    Rests c r mid ∨ (∃ c' r' mid', StepTo P Z M W F c r mid v c' r' mid') ∨ StepBad P c r mid v := by
  cases r with
  | true =>
    cases mid with
    | nil => exact .inl ⟨rfl, .inl rfl⟩
    | cons d ds =>
      rcases step_ret H (ds := ds) hc hm hz he with ⟨c', h3⟩ | h
      · exact .inr (.inl ⟨c', false, ds, h3⟩)
      · exact .inr (.inr h)
  | false =>
    obtain ⟨f, t, k⟩ := c
    have go : ∀ (k' : List Item), (∀ x ∈ k', itemC (W f) x = true) → (∀ main base tl (u : World), stepG P main (conf ⟨f, t, k⟩ false mid tl base) u = .go (conf ⟨f, t, k'⟩ false mid tl base) u) →
        Rests ⟨f, t, k⟩ false mid ∨ (∃ c' r' mid', StepTo P Z M W F ⟨f, t, k⟩ false mid v c' r' mid') ∨ StepBad P ⟨f, t, k⟩ false mid v := fun k' hk' h =>
      .inr (.inl ⟨⟨f, t, k'⟩, false, mid, step_ctl h he ⟨hc.f, hc.t, hk'⟩ (hm.same (by rfl))⟩)
    cases k with
    | nil =>
      cases mid with
      | nil => exact .inl ⟨rfl, .inr rfl⟩
      | cons d ds => exact .inr (.inl ⟨⟨f, t, []⟩, true, d :: ds, step_ctl (fun main base tl u => rfl) he hc hm⟩)
    | cons i k =>
      have hk0 : ∀ x ∈ k, itemC (W f) x = true := fun x hx => hc.k x (by simp [hx])
      have hi := hc.k i (by simp)
      have two : ∀ {a : Item}, itemC (W f) a = true → ∀ x ∈ a :: k, itemC (W f) x = true := fun ha x hx => by
        rcases List.mem_cons.1 hx with rfl | hx
        · exact ha
        · exact hk0 x hx
      cases i with
      | code cd =>
        simp only [itemC] at hi
        cases cd with
        | skip => exact go k hk0 fun main base tl u => rfl
        | ret => exact .inr (.inl ⟨⟨f, t, .code .ret :: k⟩, true, mid, step_ctl (fun main base tl u => rfl) he hc hm⟩)
        | seq a b =>
          simp only [codeC, Bool.and_eq_true] at hi
          refine go (.code a :: .code b :: k) (fun x hx => ?_) fun main base tl u => rfl
          rcases List.mem_cons.1 hx with rfl | hx
          · exact hi.1
          · exact two (a := .code b) hi.2 x hx
        | cond o a b =>
          simp only [codeC, Bool.and_eq_true] at hi
          cases hv : Act.eval ⟨t, []⟩ o with
          | bool z =>
            refine go (.code (if z then a else b) :: k) (two (by cases z <;> simp [itemC, hi.1, hi.2])) fun main base tl u => ?_
            exact stepG_cond (b := { fn := f, tmps := #[], todo := [], defers := [], mode := .run, kind := .normal }) (a := ⟨t, []⟩) (t := z) hv
          | _ =>
            refine .inr (.inr (.inr fun main base => ?_))
            have key : stepG P main (conf ⟨f, t, .code (.cond o a b) :: k⟩ false mid [] base) v = (match Act.eval ⟨t, []⟩ o with
              | .bool z => .go { frame := { (⟨f, t, .code (.cond o a b) :: k⟩ : Cl).fr (tlOf mid []) with todo := .code (if z then a else b) :: (k ++ tlOf mid []) }, callers := calls mid [] ++ base, status := .running, dying := none } v
              | _ => .ended (.stuck "cond: bool expected" (((⟨f, t, .code (.cond o a b) :: k⟩ : Cl).fr (tlOf mid [])).pos P)) v) := rfl
            rw [key, hv]
            exact ⟨_, _, _, rfl⟩
        | block id b => exact go (.code b :: .inBlock id :: k) (fun x hx => by
            rcases List.mem_cons.1 hx with rfl | hx
            · exact hi
            · exact two (a := .inBlock id) rfl x hx) fun main base tl u => rfl
        | loop b => exact go (.code b :: .inLoop b :: k) (fun x hx => by
            rcases List.mem_cons.1 hx with rfl | hx
            · exact hi
            · exact two (a := .inLoop b) hi x hx) fun main base tl u => rfl
        | exit id =>
          cases hx : exitTo id k with
          | some k' =>
            refine go k' (exitTo_ok hx hk0) fun main base tl u => ?_
            simp only [conf, G, Cl.g, Cl.fr, stepG, stepG.exec, Bool.false_eq_true, if_false, List.cons_append, exitTo_app _ hx, Option.elim_some]
          | none =>
            refine .inr (.inr (.inr fun main base => ?_))
            have tl0 : tlOf mid [] = [] := by cases mid <;> rfl
            have key : stepG P main (conf ⟨f, t, .code (.exit id) :: k⟩ false mid [] base) v = .ended (.stuck "exit, goto: no such block or label" (((⟨f, t, .code (.exit id) :: k⟩ : Cl).fr []).pos P)) v := by
              simp only [conf, G, Cl.g, Cl.fr, stepG, stepG.exec, Bool.false_eq_true, if_false, tl0, List.append_nil, hx, Option.elim_none]
            exact ⟨_, _, _, key⟩
        | region id ops draw =>
          cases draw with
          | false => exact go (.inRegion ops (List.range ops.size) :: k) (two (a := .inRegion ops (List.range ops.size)) hi) fun main base tl u => rfl
          | true =>
            have key : ∀ main base tl (u : World), stepG P main (conf ⟨f, t, .code (.region id ops true) :: k⟩ false mid tl base) u =
                .go (conf ⟨f, t, .inRegion ops (Region.schedule (P.follows .mixedOrders) ops (u.tape u.drawn (.order f id))) :: k⟩ false mid tl base) { u with drawn := u.drawn + 1 } := fun main base tl u => by
              simp [conf, G, Cl.g, Cl.fr, stepG, stepG.exec, choose, Sem.run, Question.forced, Question.cut]
            refine .inr (.inl ⟨⟨f, t, .inRegion ops (Region.schedule (P.follows .mixedOrders) ops (v.tape v.drawn (.order f id))) :: k⟩, false, mid, { v with drawn := v.drawn + 1 }, #[], 1, fun main base tl => key main base tl v, ⟨rfl, rfl, fun _ _ => rfl, Nat.le_refl _, fun _ => rfl, fun _ _ => rfl, fun _ _ h _ => h, rfl, rfl⟩, he, ⟨hc.f, hc.t, two (a := .inRegion ops (Region.schedule (P.follows .mixedOrders) ops (v.tape v.drawn (.order f id)))) hi⟩, hm.same (by rfl), fun F w hs ha => ?_⟩)
            refine ⟨{ w with drawn := w.drawn + 1 }, fun main base tl => ?_, fun e hx => by simp at hx, ⟨hs.size, hs.heap, hs.ice, hs.os, hs.output, hs.low, hs.dead⟩, rfl, rfl, fun _ _ => rfl, Nat.le_refl _⟩
            have := ha 0 (.order f id) (by omega)
            simp only [Nat.add_zero] at this
            rw [key, this]
        | _ => simp [codeC] at hi
      | inRegion ops is =>
        simp only [itemC] at hi
        cases is with
        | nil => exact go k hk0 fun main base tl u => rfl
        | cons i rest =>
          have skip : (((ops[i]?).map (Region.wanted · (yielded ops t))).getD false) = false →
              Rests ⟨f, t, .inRegion ops (i :: rest) :: k⟩ false mid ∨ (∃ c' r' mid', StepTo P Z M W F ⟨f, t, .inRegion ops (i :: rest) :: k⟩ false mid v c' r' mid') ∨ StepBad P ⟨f, t, .inRegion ops (i :: rest) :: k⟩ false mid v := fun hn => by
            refine .inr (.inl ⟨(⟨f, t, .inRegion ops (i :: rest) :: k⟩ : Cl).fin undef, false, mid, step_ctl (fun main base tl u => ?_) he (hc.fin undef_ok) (hm.same (Cl.fin_f _ _))⟩)
            have hfin := Cl.fin_fr (c := ⟨f, t, .inRegion ops (i :: rest) :: k⟩) ⟨ops, i, rest, k, rfl⟩ (tlOf mid tl) undef
            simp only [conf, G, Cl.g, Bool.false_eq_true, if_false]
            rw [← hfin]
            simp only [Cl.fr, stepG, stepG.exec, List.cons_append, hn, Bool.false_eq_true, if_false]
          cases ho : ops[i]? with
          | none => exact skip (by simp [ho])
          | some o =>
            cases hw : Region.wanted o (yielded ops t) with
            | false => exact skip (by simp [ho, hw])
            | true => exact .inr (step_oper H hc hm hz he ho hw)
      | inBlock id => exact go k hk0 fun main base tl u => rfl
      | inLoop b => exact go (.code b :: .inLoop b :: k) (fun x hx => by
            rcases List.mem_cons.1 hx with rfl | hx
            · exact hi
            · exact two (a := .inLoop b) hi x hx) fun main base tl u => rfl
      | _ => simp [itemC] at hi
end
end Go.Proofs.Ytaiinkeendejdaa
namespace Go.Proofs.Ytaiinkeendejdaa
open Go.RowKit Go.Conc
set_option maxRecDepth 100000

abbrev Tp := Nat → Question → Nat
/-- the same memory on another tape -/
def onT (v : World) (T : Tp) (d : Nat) : World := { v with tape := T, drawn := d }
theorem Sim.onT {Z : Nat → Bool} {F : Nat → Nat} {v w : World} (h : Sim Z F v w) (T : Tp) (d : Nat) : Sim Z F (onT v T d) w := ⟨h.size, h.heap, h.ice, h.os, h.output, h.low, h.dead⟩
theorem Sim.self {Z : Nat → Bool} {F : Nat → Nat} {v w : World} (h : Sim Z F v w) (T T' : Tp) (d d' : Nat) : Sim Z (fun _ => 0) (Go.Proofs.Ytaiinkeendejdaa.onT v T d) (Go.Proofs.Ytaiinkeendejdaa.onT v T' d') :=
  ⟨rfl, fun _ _ _ => rfl, fun _ hf => absurd rfl hf, rfl, rfl, fun b hb => by show b < v.heap.size; rw [h.size]; exact h.low b hb, h.twice.dead⟩
/-- which cells are frosted -/
def iceF (F : Nat → Nat) (a : Addr) : Bool := decide (a.off < F a.block)
theorem Sim.iceV {Z : Nat → Bool} {F : Nat → Nat} {v w : World} (h : Sim Z F v w) {a : Addr} (ha : iceF F a = true) : v.frozen? a = true := by
  have ha : a.off < F a.block := by simpa [iceF] using ha
  obtain ⟨_, c, t, h1, _⟩ := h.ice a.block (by omega)
  unfold World.frozen?
  rw [h1]
  simp [ha]
theorem Sim.iceZ {Z : Nat → Bool} {F : Nat → Nat} {v w : World} (h : Sim Z F v w) {a : Addr} (ha : iceF F a = true) : Z a.block = false := by
  have ha : a.off < F a.block := by simpa [iceF] using ha
  exact (h.ice a.block (by omega)).1
theorem Sim.iceStands {Z : Nat → Bool} {F : Nat → Nat} {v w v' w' : World} {m : Nat} (h : Sim Z F v w) (k : Keeps Z v m v') (h' : Sim Z F v' w') {a : Addr} (ha : iceF F a = true) : w'.cell? a = w.cell? a := by
  rw [← h'.cell (h.iceZ ha), ← h.cell (h.iceZ ha)]
  exact k.ice a (h.iceV ha)
theorem Sim.objStands {Z : Nat → Bool} {F : Nat → Nat} {v w v' w' : World} {m : Nat} (h : Sim Z F v w) (k : Keeps Z v m v') (h' : Sim Z F v' w') (hz : ∀ b, Z b = true → w'.heap[b]? = w.heap[b]?) {b : Nat} {o : Obj} (hb : w.heap[b]? = some o) (ho : isCells o = false) : w'.heap[b]? = some o := by
  cases e : Z b with
  | true => rw [hz b e]; exact hb
  | false =>
    have hf : F b = 0 := by
      by_cases hf : F b = 0
      · exact hf
      · obtain ⟨_, c, t, _, h2⟩ := h.ice b hf
        rw [hb] at h2
        injection h2 with h2
        subst h2
        cases ho
    rw [← h'.heap b e hf]
    exact k.obj b o (by rw [h.heap b e hf]; exact hb) ho
theorem Even.sim {Z : Nat → Bool} {F : Nat → Nat} {v w : World} (h : Sim Z F v w) (he : Even Z v) : Even Z w := fun b o hb e => by
  by_cases hf : F b = 0
  · exact he b o hb (by rw [h.heap b hb hf]; exact e)
  · obtain ⟨_, c, t, h1, h2⟩ := h.ice b hf
    rw [e] at h2
    injection h2 with h2
    subst h2
    exact ⟨rfl, trivial⟩
theorem Even.simT {Z : Nat → Bool} {F : Nat → Nat} {v w : World} {n : Nat} (h : Sim Z F v w) (he : Even (ZT Z n) v) : Even (ZT Z n) w := fun b o hb e => by
  have hb' : Z b = false := by
    cases ez : Z b with
    | false => rfl
    | true => rw [ZT_of n b ez] at hb; cases hb
  by_cases hf : F b = 0
  · exact he b o hb (by rw [h.heap b hb' hf]; exact e)
  · obtain ⟨_, c, t, h1, h2⟩ := h.ice b hf
    rw [e] at h2
    injection h2 with h2
    subst h2
    exact ⟨rfl, trivial⟩
theorem Even.simV {Z : Nat → Bool} {F : Nat → Nat} {v w : World} {n : Nat} (h : Sim Z F v w) (he : Even (ZT Z n) w) : Even (ZT Z n) v := fun b o hb e => by
  have hb' : Z b = false := by
    cases ez : Z b with
    | false => rfl
    | true => rw [ZT_of n b ez] at hb; cases hb
  by_cases hf : F b = 0
  · exact he b o hb (by rw [← h.heap b hb' hf]; exact e)
  · obtain ⟨_, c, t, h1, h2⟩ := h.ice b hf
    rw [e] at h1
    injection h1 with h1
    subst h1
    exact ⟨rfl, trivial⟩
/-- a place of a run -/
structure Cfg where
  c : Cl
  r : Bool
  mid : List Cl
  v : World
/-- what a lone step is for the others -/
structure Lone (Z : Nat → Bool) (F : Nat → Nat) (w w' : World) (es : Array Event) : Prop where
  evs : ∀ e ∈ es, OffZ Z (iceF F) w'.heap.size e
  tape : w'.tape = w.tape
  drawn : w.drawn ≤ w'.drawn
  z : ∀ b, Z b = true → w'.heap[b]? = w.heap[b]?
  size : w.heap.size ≤ w'.heap.size
  ice : ∀ a, iceF F a = true → w'.cell? a = w.cell? a
  obj : ∀ (b : Nat) o, w.heap[b]? = some o → isCells o = false → w'.heap[b]? = some o
  even : Even (ZT Z w'.heap.size) w'
  warm : ∀ b, F b ≠ 0 → ∃ c t, w'.heap[b]? = some (.cells c t (0, 0))
  sys : w'.os = w.os ∧ w'.output = w.output
/-- a step of it in the real world; b: the lowest frame's items are all that it has to do -/
structure WStep (b : Bool) (P : Program) (Z : Nat → Bool) (F : Nat → Nat) (x : Cfg) (w : World) (y : Cfg) (w' : World) (es : Array Event) : Prop where
  step : ∀ main base tl, (b = true → tl = []) → stepG P main (conf x.c x.r x.mid tl base) w = .go (conf y.c y.r y.mid tl base) w' es
  sim : Sim Z F y.v w'
  lone : Lone Z F w w' es
/-- IT COMES TO A STOP, in whatever company that leaves all but the blocks of Z alone, on whatever tape -/
def Will (b : Bool) (P : Program) (Z : Nat → Bool) (F : Nat → Nat) (Stop : Cl → Bool → World → Prop) (x : Cfg) : Prop :=
  ∀ X : Cfg → Prop, (∀ c r v, Stop c r v → X ⟨c, r, [], v⟩) → (∀ x, (∀ w, Sim Z F x.v w → ∃ y w' es, WStep b P Z F x w y w' es ∧ X y) → X x) → X x
section
variable {b : Bool} {P : Program} {Z : Nat → Bool} {I : Nat → Nat} {M : FuncId → Nat → Bool} {W : FuncId → Oper → Bool} {F : FuncId → Bool} {Stop : Cl → Bool → World → Prop}
theorem Will.stop {c : Cl} {r : Bool} {v : World} (h : Stop c r v) : Will b P Z I Stop ⟨c, r, [], v⟩ := fun _ h1 _ => h1 c r v h
theorem Will.step {x : Cfg} (h : ∀ w, Sim Z I x.v w → ∃ y w' es, WStep b P Z I x w y w' es ∧ Will b P Z I Stop y) : Will b P Z I Stop x := fun X h1 h2 =>
  h2 x fun w hw => let ⟨y, w', es, hs, hy⟩ := h w hw; ⟨y, w', es, hs, hy X h1 h2⟩
structure Val (P : Program) (M : FuncId → Nat → Bool) (W : FuncId → Oper → Bool) (F : FuncId → Bool) (Z : Nat → Bool) (x : Cfg) : Prop where
  c : x.c.Ok P (ZT Z x.v.heap.size) M W
  mid : Mids P (ZT Z x.v.heap.size) M W F x.c x.mid
  even : Even (ZT Z x.v.heap.size) x.v
  sim : ∃ I w, Sim Z I x.v w
/-- a lone step that uses m draws -/
def Adv (P : Program) (x : Cfg) (T : Tp) (d : Nat) (y : Cfg) (m : Nat) : Prop :=
  ∀ T' D, (∀ j q, j < m → T' (D + j) q = T (d + j) q) → ∃ es, ∀ base, stepG P true (conf x.c x.r x.mid [] base) (onT x.v T' D) = .go (conf y.c y.r y.mid [] base) (onT y.v T' (D + m)) es
def Rest1 (b : Bool) (x : Cfg) : Prop := x.mid = [] ∧ (x.r = true ∨ (b = false ∧ x.c.k = []))
def Term (b : Bool) (P : Program) (x : Cfg) (T : Tp) (d : Nat) : Prop :=
  Rest1 b x ∨ ∀ T' D, (∀ i q, T' (D + i) q = T (d + i) q) → StepBad P x.c x.r x.mid (onT x.v T' D)
theorem next_node (H : FunAll P M W F) {x : Cfg} (hv : Val P M W F Z x) (hn : ¬ Will b P Z I Stop x) :
    ∃ T d, Term b P x T d ∨ ∃ y m, Val P M W F Z y ∧ ¬ Will b P Z I Stop y ∧ Adv P x T d y m := by
  have hall : ¬ ∀ w, Sim Z I x.v w → ∃ y w' es, WStep b P Z I x w y w' es ∧ Will b P Z I Stop y := fun h => hn (Will.step h)
  obtain ⟨w, hall⟩ := Classical.not_forall.1 hall
  obtain ⟨hs, hno⟩ := Classical.not_imp.1 hall
  have hno : ∀ y w' es, WStep b P Z I x w y w' es → ¬ Will b P Z I Stop y := fun y w' es h1 h2 => hno ⟨y, w', es, h1, h2⟩
  have warm : ∀ {v u : World}, Sim Z I v u → ∀ b, I b ≠ 0 → ∃ c t, u.heap[b]? = some (.cells c t (0, 0)) := fun h b hb => by
    obtain ⟨_, c, t, _, h2⟩ := h.ice b hb
    exact ⟨c, t, h2⟩
  refine ⟨w.tape, w.drawn, ?_⟩
  by_cases hb : ∀ T' D, (∀ i q, T' (D + i) q = w.tape (w.drawn + i) q) → StepBad P x.c x.r x.mid (onT x.v T' D)
  · exact .inl (.inr hb)
  obtain ⟨T', hb⟩ := Classical.not_forall.1 hb
  obtain ⟨D, hb⟩ := Classical.not_forall.1 hb
  obtain ⟨hag, hb⟩ := Classical.not_imp.1 hb
  rcases clean_step H hv.c hv.mid (v := onT x.v T' D) ⟨I, w, hs.onT _ _⟩ hv.even with ⟨hm, hr⟩ | ⟨c', r', mid', v', es, m, g1, kp, e1, h1, h2, hw⟩ | hbad
  · by_cases hr1 : x.r = true
    · exact .inl (.inl ⟨hm, .inl hr1⟩)
    have hr0 : x.r = false := by simpa using hr1
    have hk := hr.resolve_left hr1
    cases b with
    | false => exact .inl (.inl ⟨hm, .inr ⟨rfl, hk⟩⟩)
    | true =>
      have hst : ∀ main base (u : World), stepG P main (conf x.c x.r x.mid [] base) u = .go (conf x.c true [] [] base) u #[] := fun main base u => by
        obtain ⟨⟨f, t, k⟩, r, mid, v⟩ := x
        simp only at hk hm hr0
        subst hk; subst hm; subst hr0
        rfl
      refine .inr ⟨⟨x.c, true, [], x.v⟩, 0, ⟨hv.c, ⟨fun d hd => (by cases hd), trivial⟩, hv.even, hv.sim⟩, hno _ w #[] ⟨fun main base tl htl => ?_, hs, fun e he => by simp at he, rfl, Nat.le_refl _, fun _ _ => rfl, Nat.le_refl _, fun _ _ => rfl, fun _ _ h _ => h, (hs.size ▸ hv.even.simT hs), warm hs, rfl, rfl⟩, fun T'' D'' _ => ⟨#[], fun base => ?_⟩⟩
      · rw [htl rfl]; exact hst main base w
      · exact hst true base _
  · have ha : ∀ j q, j < m → w.tape (w.drawn + j) q = (onT x.v T' D).tape ((onT x.v T' D).drawn + j) q := fun j q _ => (hag j q).symm
    obtain ⟨w', k1, k2, k3, k4, k5, k6, k7⟩ := hw I w (hs.onT _ _) ha
    refine .inr ⟨⟨c', r', mid', v'⟩, m, ⟨h1, h2, e1, I, w', k3⟩, hno _ w' es ⟨fun main base tl _ => k1 main base tl, k3, fun e he => ?_, k4, by omega, k6, k7, fun a ha => (hs.onT T' D).iceStands kp k3 ha, fun b o hb ho => (hs.onT T' D).objStands kp k3 k6 hb ho, (k3.size ▸ e1.simT k3), warm k3, k3.os.symm.trans (kp.sys.1.trans hs.os), k3.output.symm.trans (kp.sys.2.trans hs.output)⟩, fun T'' D'' hag2 => ?_⟩
    · rcases k2 e he with ⟨a, wr, h1, h2, h3, h4⟩ | h
      · refine .inl ⟨a, wr, h1, h2, fun hwr => ?_, h4⟩
        cases hi : iceF I a with
        | false => rfl
        | true =>
          have := h3 hwr
          rw [(hs.onT T' D).iceV hi] at this; cases this
      · exact .inr h
    · obtain ⟨w2, l1, l2, l3, l4, l5, l6, l7⟩ := hw (fun _ => 0) (onT x.v T'' D'') (hs.self _ _ _ _) (fun j q hj => (hag2 j q hj).trans (hag j q).symm)
      have e : w2 = onT v' T'' (D'' + m) := by
        have e1 : v'.heap = w2.heap := by
          apply Array.ext_getElem?
          intro i
          cases hi : Z i with
          | false => exact l3.heap i hi rfl
          | true => exact (kp.z i hi).trans (l6 i hi).symm
        obtain ⟨h, tp, dr, os, out⟩ := w2
        have e2 := l3.os
        have e3 := l3.output
        simp only [onT] at l4 l5 e1 e2 e3 ⊢
        subst l4; subst l5
        rw [e1, e2, e3]
      exact ⟨es, fun base => by rw [← e]; exact l1 true base []⟩
  · exact absurd hbad hb
end
/-! ### a tape out of pieces -/
def psum (μ : Nat → Nat) : Nat → Nat
  | 0 => 0
  | i + 1 => psum μ i + μ i
theorem psum_mono (μ : Nat → Nat) {i j : Nat} (h : i ≤ j) : psum μ i ≤ psum μ j := by
  induction h with
  | refl => exact Nat.le_refl _
  | step _ ih => exact Nat.le_trans ih (Nat.le_add_right _ _)
theorem tape_glue (s : Nat → Tp × Nat) (μ : Nat → Nat) : ∃ T : Tp, ∀ i j q, j < μ i → T (psum μ i + j) q = (s i).1 ((s i).2 + j) q := by
  classical
  refine ⟨fun n q => if h : ∃ i, psum μ i ≤ n ∧ n < psum μ (i + 1) then (s h.choose).1 ((s h.choose).2 + (n - psum μ h.choose)) q else 0, fun i j q hj => ?_⟩
  have h : ∃ i', psum μ i' ≤ psum μ i + j ∧ psum μ i + j < psum μ (i' + 1) := ⟨i, by omega, by show _ < psum μ i + μ i; omega⟩
  have e : h.choose = i := by
    obtain ⟨h1, h2⟩ := h.choose_spec
    rcases Nat.lt_trichotomy h.choose i with hlt | he | hgt
    · have := psum_mono μ (show h.choose + 1 ≤ i from hlt)
      omega
    · exact he
    · have := psum_mono μ (show i + 1 ≤ h.choose from hgt)
      have e2 : psum μ (i + 1) = psum μ i + μ i := rfl
      omega
  simp only [dif_pos h, e]
  rw [show psum μ i + j - psum μ i = j by omega]
theorem exists_seq {α : Type} {I : α → Prop} {R : α → Nat → α → Prop} {a : α} (h0 : I a) (hs : ∀ a, I a → ∃ b m, I b ∧ R a m b) :
    ∃ (s : Nat → α) (μ : Nat → Nat), s 0 = a ∧ ∀ i, I (s i) ∧ R (s i) (μ i) (s (i + 1)) := by
  classical
  let f : { a // I a } → { a // I a } := fun a => ⟨(hs a.1 a.2).choose, (hs a.1 a.2).choose_spec.choose_spec.1⟩
  let s : Nat → { a // I a } := fun i => Nat.rec ⟨a, h0⟩ (fun _ x => f x) i
  exact ⟨fun i => (s i).1, fun i => (hs (s i).1 (s i).2).choose_spec.choose, rfl, fun i => ⟨(s i).2, (hs (s i).1 (s i).2).choose_spec.choose_spec.2⟩⟩
/-! ### a frame that ends every run that comes to it -/
def door (P : Program) : Frame := { fn := P.funcs.size, tmps := #[], todo := [.call { target := .nil, args := #[] } false "fmt's door" #[]], defers := [], mode := .run, kind := .normal }
theorem door_raise (P : Program) (chain : List PanicEntry) (w : World) : ∃ o w', step P (lone ((door P).raise chain) [] w) = .ended o w' := by
  refine ⟨_, _, step_lone_ended (o := .unsupported (.noEntry "a panic or Goexit out of a method that fmt calls behind a cut's door") (((door P).raise chain).pos P)) (w' := w) ?_⟩
  have hc : ((door P).raise chain).catches P = true := by
    have e : P.funcs[P.funcs.size]? = none := by simp
    have hs : ("fmt's door".startsWith "fmt's door") = true := by kernel_rfl
    simp only [Frame.catches, Frame.raise, door, e, hs]
  simp only [stepG, Frame.raise, door] at hc ⊢
  simp only [unwind, hc, if_true]
  rfl
theorem door_finish (P : Program) (v : Value) (w : World) : ∃ o w', step P (lone ((door P).finish v) [] w) = .ended o w' := by
  have hx : Extern.next "fmt's door" = none := by
    have : (Extern.next "fmt's door").isNone = true := by kernel_rfl
    exact Option.isNone_iff_eq_none.1 this
  refine ⟨_, _, step_lone_ended (o := .stuck ("no extern row " ++ "fmt's door") (((door P).finish v).pos P)) (w' := w) ?_⟩
  simp only [stepG, Frame.finish, door, stepG.exec, hx, Option.elim_none]
  rfl
theorem runN_ended {P : Program} {m : Machine} {o : Outcome} {w : World} (h : step P m = .ended o w) : ∀ n m', n ≠ 0 → runN P n m ≠ .next m'
  | 0, _, hn => absurd rfl hn
  | n + 1, m', _ => by simp [runN, h]
theorem lone_inj {fr fr' : Frame} {cs cs' : List Frame} {w w' : World} (h : lone fr cs w = lone fr' cs' w') : fr = fr' ∧ cs = cs' ∧ w = w' := by
  unfold lone at h
  injection h with h1 h2
  have h3 : (#[({ frame := fr, callers := cs, status := .running, dying := none } : Goroutine)] : Array Goroutine)[0]? = (#[({ frame := fr', callers := cs', status := .running, dying := none } : Goroutine)] : Array Goroutine)[0]? := by rw [h2]
  simp only [List.getElem?_toArray, List.getElem?_cons_zero, Option.some.injEq, Goroutine.mk.injEq] at h3
  exact ⟨h3.1, h3.2.1, h1⟩
theorem runN_from {P : Program} {n j : Nat} {m m1 : Machine} (hj : j ≤ n) (h : runN P j m = .next m1) : runN P n m = runN P (n - j) m1 := by
  have e : n = j + (n - j) := by omega
  rw [e, runN_add, h]
  simp
section
variable {P : Program} {Q : Frame → World → Prop}
theorem panic_on : ∀ (mid : List Cl) (fr : Frame) (chain : List PanicEntry) (u : World), fr.mode = .panicking chain → fr.defers = [] → (∃ fn, P.funcs[fr.fn]? = some fn) → (∀ d ∈ mid, ∃ fn, P.funcs[d.f]? = some fn) → ∀ n fr' w', runN P n (lone fr (calls mid [] ++ [door P]) u) = .next (lone fr' [door P] w') → fr'.mode = .panicking chain
  | mid, fr, chain, u, hm, hd, ⟨fn, hf⟩, hmid, 0, fr', w', h => by
    simp only [runN] at h
    injection h with h
    rw [← (lone_inj h).1]; exact hm
  | mid, fr, chain, u, hm, hd, ⟨fn, hf⟩, hmid, n + 1, fr', w', h => by
    have hc : fr.catches P = false := by simp [Frame.catches, hf]
    cases mid with
    | nil =>
      have hst : step P (lone fr (calls [] [] ++ [door P]) u) = .next (lone ((door P).raise chain) [] u) := by
        refine step_lone_go ?_
        simp [stepG, hm, unwind, hd, hc, calls]
      simp only [runN, hst] at h
      cases n with
      | zero =>
        simp only [runN] at h
        injection h with h
        cases (lone_inj h).2.1
      | succ n =>
        obtain ⟨o, u', e⟩ := door_raise P chain u
        exact absurd h (runN_ended e _ _ (by omega))
    | cons d ds =>
      have hst : step P (lone fr (calls (d :: ds) [] ++ [door P]) u) = .next (lone ((d.fr (tlOf ds [])).raise chain) (calls ds [] ++ [door P]) u) := by
        refine step_lone_go ?_
        simp [stepG, hm, unwind, hd, hc, calls]
      simp only [runN, hst] at h
      exact panic_on ds ((d.fr (tlOf ds [])).raise chain) chain u rfl rfl (hmid d (by simp)) (fun x hx => hmid x (by simp [hx])) n fr' w' h
/-- the lone machine at a place -/
def Cfg.m (P : Program) (x : Cfg) (T : Tp) (d : Nat) : Machine := lone (x.c.g x.r (tlOf x.mid [])) (calls x.mid [] ++ [door P]) (onT x.v T d)
theorem Adv.step {x y : Cfg} {T : Tp} {d m : Nat} (h : Adv P x T d y m) {T' : Tp} {D : Nat} (ha : ∀ j q, j < m → T' (D + j) q = T (d + j) q) : step P (x.m P T' D) = .next (y.m P T' (D + m)) := by
  obtain ⟨es, he⟩ := h T' D ha
  refine step_lone_go ?_
  have := he [door P]
  simp only [conf, G] at this
  rw [this]
  rfl
/-- behind a place where nothing goes on the run comes to no stop -/
theorem term_dead {Z : Nat → Bool} {M : FuncId → Nat → Bool} {W : FuncId → Oper → Bool} {F : FuncId → Bool} {b : Bool} (hQ : ∀ fr w, Q fr w → fr.mode = if b then .returning else .run) {x : Cfg} (hv : Val P M W F Z x) {T : Tp} {d : Nat} (ht : Rest1 b x ∨ StepBad P x.c x.r x.mid (onT x.v T d)) :
    ∀ n fr w', n ≠ 0 → runN P n (x.m P T d) = .next (lone fr [door P] w') → ¬ Q fr w' := by
  have ret : ∀ (c : Cl) (u : World), c.Ok P (ZT Z x.v.heap.size) M W → ∀ n fr w', n ≠ 0 → runN P n (lone (c.rt []) [door P] u) = .next (lone fr [door P] w') → False := fun c u hc n fr w' hn h => by
    obtain ⟨fn, hf⟩ := hc.f
    cases n with
    | zero => exact hn rfl
    | succ n =>
      cases hr : (results fn c.t).run P u with
      | ok a u' =>
        have hst : step P (lone (c.rt []) [door P] u) = .next (lone ((door P).finish a) [] u') := by
          refine step_lone_go ?_
          simp [stepG, Cl.rt, unwind, hf, doReturn, hr]
        simp only [runN, hst] at h
        cases n with
        | zero =>
          simp only [runN] at h
          injection h with h
          cases (lone_inj h).2.1
        | succ n =>
          obtain ⟨o, u2, e⟩ := door_finish P a u'
          exact absurd h (runN_ended e _ _ (by omega))
      | halt a u' =>
        have hst : ∃ o, step P (lone (c.rt []) [door P] u) = .ended o u' := by
          cases a <;> exact ⟨_, step_lone_ended (by simp [stepG, Cl.rt, unwind, hf, hr] <;> rfl)⟩
        obtain ⟨o, hst⟩ := hst
        exact absurd h (runN_ended hst _ _ (by omega))
  intro n fr w' hn h hq
  have hmode := hQ fr w' hq
  obtain ⟨c, r, mid, v⟩ := x
  rcases ht with ⟨hm, hr⟩ | hbad
  · simp only at hm hr
    subst hm
    cases r with
    | true => exact ret c _ hv.c n fr w' hn h
    | false =>
      obtain ⟨hb0, hk⟩ := hr.resolve_left (by simp)
      subst hb0
      have hst : step P (Cfg.m P ⟨c, false, [], v⟩ T d) = .next (lone (c.rt []) [door P] (onT v T d)) := by
        refine step_lone_go ?_
        obtain ⟨f, t, k⟩ := c
        simp only at hk
        subst hk
        rfl
      cases n with
      | zero => exact hn rfl
      | succ n =>
        simp only [runN, hst] at h
        cases n with
        | zero =>
          simp only [runN] at h
          injection h with h
          rw [← (lone_inj h).1] at hmode
          simp [Cl.rt] at hmode
        | succ n => exact ret c _ hv.c _ fr w' (by omega) h
  · cases n with
    | zero => exact hn rfl
    | succ n =>
      rcases hbad with ⟨chain, v', es, hb⟩ | hb
      · have hst : step P (Cfg.m P ⟨c, r, mid, v⟩ T d) = .next (lone ((c.g r []).raise chain) (calls mid [] ++ [door P]) v') := by
          refine step_lone_go ?_
          have := hb true [door P]
          simp only [conf, G] at this
          simp only
          rw [this]
          rfl
        simp only [runN, hst] at h
        have hcf : ∀ d : Cl, d.Ok P (ZT Z v.heap.size) M W → ∃ fn, P.funcs[d.f]? = some fn := fun d hc => by
          exact hc.f
        have := panic_on mid ((c.g r []).raise chain) chain v' (by cases r <;> rfl) (by cases r <;> rfl) (by cases r <;> exact hcf c hv.c) (fun d hd => hcf d (hv.mid.1 d hd).1) n fr w' h
        rw [this] at hmode
        cases b <;> simp at hmode
      · obtain ⟨o, v', es, hb⟩ := hb true [door P]
        have hst : step P (Cfg.m P ⟨c, r, mid, v⟩ T d) = .ended o v' := by
          refine step_lone_ended ?_
          simp only [conf, G] at hb
          simp only
          rw [hb]
          rfl
        exact absurd h (runN_ended hst _ _ (by omega))
theorem least {p : Nat → Prop} (h : ∃ j, p j) : ∃ j, p j ∧ ∀ i, i < j → ¬ p i := by
  obtain ⟨j, hj⟩ := h
  induction j using Nat.strongRecOn with
  | ind j ih =>
    by_cases h : ∃ i, i < j ∧ p i
    · obtain ⟨i, hi, hp⟩ := h
      exact ih i hi hp
    · exact ⟨j, hj, fun i hi hp => h ⟨i, hi, hp⟩⟩
structure Nd where
  x : Cfg
  T : Tp
  d : Nat
  dead : Bool
/-- ████ WHAT RUNS WELL ALONE ON EVERY TAPE ████ -/
theorem will_of_runs {Z : Nat → Bool} {I : Nat → Nat} {M : FuncId → Nat → Bool} {W : FuncId → Oper → Bool} {F : FuncId → Bool} {b : Bool} (H : FunAll P M W F) (hQ : ∀ fr w, Q fr w → fr.mode = if b then .returning else .run) {x : Cfg} (hv : Val P M W F Z x)
    (hrun : ∀ T, ∃ n fr w', runN P n (x.m P T 0) = .next (lone fr [door P] w') ∧ Q fr w') : Will b P Z I (fun c r v => Val P M W F Z ⟨c, r, [], v⟩ ∧ ∃ T d, Q (c.g r []) (onT v T d)) x := by
  classical
  by_cases hn : Will b P Z I (fun c r v => Val P M W F Z ⟨c, r, [], v⟩ ∧ ∃ T d, Q (c.g r []) (onT v T d)) x
  · exact hn
  exfalso
  let I : Nd → Prop := fun n => n.dead = true ∨ (Val P M W F Z n.x ∧ ¬ Will b P Z I (fun c r v => Val P M W F Z ⟨c, r, [], v⟩ ∧ ∃ T d, Q (c.g r []) (onT v T d)) n.x ∧ (Term b P n.x n.T n.d ∨ ∃ y m, Val P M W F Z y ∧ ¬ Will b P Z I (fun c r v => Val P M W F Z ⟨c, r, [], v⟩ ∧ ∃ T d, Q (c.g r []) (onT v T d)) y ∧ Adv P n.x n.T n.d y m))
  let R : Nd → Nat → Nd → Prop := fun n m n' => ((n.dead = true ∨ Term b P n.x n.T n.d) ∧ m = 1 ∧ n'.T = n.T ∧ n'.d = n.d + 1 ∧ n'.dead = true) ∨ (n.dead = false ∧ ¬ Term b P n.x n.T n.d ∧ n'.dead = false ∧ Adv P n.x n.T n.d n'.x m)
  have hstep : ∀ n, I n → ∃ n' m, I n' ∧ R n m n' := fun n hI => by
    by_cases ht : n.dead = true ∨ Term b P n.x n.T n.d
    · exact ⟨⟨n.x, n.T, n.d + 1, true⟩, 1, .inl rfl, .inl ⟨ht, rfl, rfl, rfl, rfl⟩⟩
    · have ht := not_or.1 ht
      obtain ⟨_, _, h3⟩ := hI.resolve_left ht.1
      obtain ⟨y, m, h4, h5, h6⟩ := h3.resolve_left ht.2
      obtain ⟨T, d, h7⟩ := next_node H h4 h5
      exact ⟨⟨y, T, d, false⟩, m, .inr ⟨h4, h5, h7⟩, .inr ⟨by simpa using ht.1, ht.2, rfl, h6⟩⟩
  obtain ⟨T0, d0, h0⟩ := next_node H hv hn
  obtain ⟨s, μ, hs0, hs⟩ := exists_seq (a := (⟨x, T0, d0, false⟩ : Nd)) (I := I) (R := R) (.inr ⟨hv, hn, h0⟩) hstep
  obtain ⟨T, hT⟩ := tape_glue (fun i => ((s i).T, (s i).d)) μ
  obtain ⟨n, fr, w', hr, hq⟩ := hrun T
  -- alive
  have alive : ∀ i, (∀ j, j < i → ¬ ((s j).dead = true ∨ Term b P (s j).x (s j).T (s j).d)) → (s i).dead = false ∧ runN P i (x.m P T 0) = .next ((s i).x.m P T (psum μ i)) := by
    intro i
    induction i with
    | zero => intro _; rw [hs0]; exact ⟨rfl, rfl⟩
    | succ i ih =>
      intro hj
      obtain ⟨_, h2⟩ := ih fun j hlt => hj j (by omega)
      rcases (hs i).2 with ⟨h3, _⟩ | ⟨_, _, h5, h6⟩
      · exact absurd h3 (hj i (by omega))
      · refine ⟨h5, ?_⟩
        rw [runN_add, h2]
        have := h6.step (T' := T) (D := psum μ i) (fun j q hlt => hT i j q hlt)
        simp only [runN, this]
        rfl
  have here : ∀ i, (s i).dead = false → (s i).x.m P T (psum μ i) = lone fr [door P] w' → False := fun i hd he => by
    obtain ⟨hval, h2, _⟩ := (hs i).1.resolve_left (by simp [hd])
    refine h2 ?_
    generalize hx : (s i).x = y at he hval ⊢
    obtain ⟨c, r, mid, v⟩ := y
    obtain ⟨e1, e2, e3⟩ := lone_inj he
    simp only at e1 e2 e3
    have hm : mid = [] := by
      cases mid with
      | nil => rfl
      | cons d ds =>
        have := congrArg List.length e2
        simp [calls] at this
    subst hm
    refine Will.stop ⟨hval, T, psum μ i, ?_⟩
    rw [← e1, ← e3] at hq
    exact hq
  by_cases hex : ∃ j, j ≤ n ∧ ((s j).dead = true ∨ Term b P (s j).x (s j).T (s j).d)
  · -- the first place where nothing goes on
    have hfirst : ∃ j, (j ≤ n ∧ ((s j).dead = true ∨ Term b P (s j).x (s j).T (s j).d)) ∧ ∀ i, i < j → ¬ ((s i).dead = true ∨ Term b P (s i).x (s i).T (s i).d) := by
      obtain ⟨j, h1, h2⟩ := least hex
      exact ⟨j, h1, fun i hi h => h2 i hi ⟨by omega, h⟩⟩
    obtain ⟨j, ⟨hj, hdt⟩, hmin⟩ := hfirst
    obtain ⟨hd, hrj⟩ := alive j hmin
    have ht := hdt.resolve_left (by simp [hd])
    have hon : ∀ k, (s (j + 1 + k)).dead = true ∧ (s (j + 1 + k)).T = (s j).T ∧ (s (j + 1 + k)).d = (s j).d + 1 + k ∧ psum μ (j + 1 + k) = psum μ j + 1 + k := by
      intro k
      induction k with
      | zero =>
        rcases (hs j).2 with ⟨_, h2, h3, h4, h5⟩ | ⟨_, h2, _⟩
        · exact ⟨h5, h3, h4, by show psum μ j + μ j = _; omega⟩
        · exact absurd ht h2
      | succ k ih =>
        obtain ⟨i1, i2, i3, i4⟩ := ih
        rcases (hs (j + 1 + k)).2 with ⟨_, h2, h3, h4, h5⟩ | ⟨h2, _⟩
        · exact ⟨h5, h3.trans i2, by rw [show j + 1 + (k + 1) = j + 1 + k + 1 by omega, h4, i3]; omega, by
            show psum μ (j + 1 + k) + μ (j + 1 + k) = _
            rw [i4, h2]; omega⟩
        · rw [i1] at h2; cases h2
    have htape : ∀ i q, T (psum μ j + i) q = (s j).T ((s j).d + i) q := fun i q => by
      cases i with
      | zero =>
        rcases (hs j).2 with ⟨_, h2, _⟩ | ⟨_, h2, _⟩
        · exact hT j 0 q (by omega)
        · exact absurd ht h2
      | succ i =>
        obtain ⟨i1, i2, i3, i4⟩ := hon i
        have hμ : μ (j + 1 + i) = 1 := by
          rcases (hs (j + 1 + i)).2 with ⟨_, h2, _⟩ | ⟨h2, _⟩
          · exact h2
          · rw [i1] at h2; cases h2
        have := hT (j + 1 + i) 0 q (by omega)
        simp only [i2, i3, i4, Nat.add_zero] at this
        rw [show psum μ j + (i + 1) = psum μ j + 1 + i by omega, this]
        congr 1
        omega
    have hrest := runN_from hj hrj
    rw [hr] at hrest
    by_cases hk : n - j = 0
    · rw [hk] at hrest
      simp only [runN] at hrest
      injection hrest with hrest
      exact here j hd hrest.symm
    · obtain ⟨hvj, _⟩ := (hs j).1.resolve_left (by simp [hd])
      exact term_dead hQ hvj (T := T) (d := psum μ j) (ht.imp id fun h => h T (psum μ j) htape) _ _ _ hk hrest.symm hq
  · obtain ⟨hd, hrn⟩ := alive n fun j hj h => hex ⟨j, by omega, h⟩
    rw [hr] at hrn
    injection hrn with hrn
    exact here n hd hrn.symm
/-! ### from the library's words -/
variable {Z : Nat → Bool} {I : Nat → Nat} {M : FuncId → Nat → Bool} {W : FuncId → Oper → Bool} {F : FuncId → Bool}
def RetQ (P : Program) (f : FuncId) (R : Value → World → Prop) (fr : Frame) (w : World) : Prop :=
  fr.mode = .returning ∧ fr.fn = f ∧ ∃ fn a, P.funcs[f]? = some fn ∧ (results fn fr.tmps).run P w = .ok a w ∧ R a w
def startT (fn : Func) (args : Array Value) : Array Value := args ++ Array.replicate (fn.ntmps - args.size) undef
theorem startT_ok {fn : Func} {args : Array Value} (h : ∀ x ∈ args, NoZ Z x) : ∀ x ∈ startT fn args, NoZ Z x := fun x hx => by
  rcases Array.mem_append.1 hx with hx | hx
  · exact h x hx
  · rw [Array.mem_replicate] at hx; rw [hx.2]; exact undef_ok
/-- ████ A CALL's CONTRACT ON EVERY TAPE ████ -/
theorem will_of_calls (H : FunAll P M W F) {f : FuncId} {fn : Func} {body : Code} {args : Array Value} {v : World} {R : Value → World → Prop} (hF : F f = true) (hf : P.funcs[f]? = some fn) (hb : fn.body = some body)
    (hargs : ∀ x ∈ args, NoZ (ZT Z v.heap.size) x) (he : Even (ZT Z v.heap.size) v) (hz : ∃ I w, Sim Z I v w) (hc : ∀ T, Calls P f args (onT v T 0) fun e v' => ∃ a, e = .returned a ∧ R a v') :
    Will true P Z I (fun c r v => Val P M W F Z ⟨c, r, [], v⟩ ∧ ∃ T d, RetQ P f R (c.g r []) (onT v T d)) ⟨⟨f, startT fn args, [.code body]⟩, false, [], v⟩ := by
  have hok : (⟨f, startT fn args, [.code body]⟩ : Cl).Ok P (ZT Z v.heap.size) M W := by
    obtain ⟨fn2, b2, h1, h2, h3, _⟩ := (H Z).fn f hF
    rw [hf] at h1
    injection h1 with h1
    subst h1
    rw [hb] at h2
    injection h2 with h2
    subst h2
    exact ⟨⟨fn, hf⟩, slots_of (startT_ok hargs), fun x hx => by rw [List.mem_singleton] at hx; subst hx; exact h3⟩
  refine will_of_runs H (fun fr w h => h.1) ⟨hok, ⟨fun d hd => (by cases hd), trivial⟩, he, hz⟩ fun T => ?_
  obtain ⟨e, w', fr, ⟨a, rfl, hR⟩, ⟨n, hn⟩, hfn, hm, hd, hk, fn2, hf2, hr⟩ := hc T [door P]
  have hent : Frame.enter P f args .normal = (⟨f, startT fn args, [.code body]⟩ : Cl).g false [] := by
    simp [Frame.enter, hf, hb, Cl.g, Cl.fr, startT]
  rw [hent] at hn
  exact ⟨n, fr, w', hn, hm, hfn, fn2, a, hfn ▸ hf2, hr, hR⟩
def baseF (f : FuncId) : Frame := { fn := f, tmps := #[], todo := [], defers := [], mode := .run, kind := .normal }
/-- ████ PIECES OF CODE: items that run out ████ -/
theorem will_of_items (H : FunAll P M W F) {f : FuncId} {t : Array Value} {k : List Item} {v : World} {R : Act → World → Prop} (hok : (⟨f, t, k⟩ : Cl).Ok P (ZT Z v.heap.size) M W) (he : Even (ZT Z v.heap.size) v) (hz : ∃ I w, Sim Z I v w)
    (hc : ∀ T, ∃ a' w', R a' w' ∧ Steps P (lone ((baseF f).at ⟨t, []⟩ k) [door P] (onT v T 0)) (lone ((baseF f).at a' []) [door P] w')) :
    Will false P Z I (fun c r v => r = false ∧ c.k = [] ∧ c.f = f ∧ Val P M W F Z ⟨c, r, [], v⟩ ∧ ∃ T d, R ⟨c.t, []⟩ (onT v T d)) ⟨⟨f, t, k⟩, false, [], v⟩ := by
  have hq : ∀ x, Will false P Z I (fun c r v => Val P M W F Z ⟨c, r, [], v⟩ ∧ ∃ T d, (fun fr w => fr.mode = .run ∧ fr.fn = f ∧ fr.todo = [] ∧ R ⟨fr.tmps, fr.defers⟩ w) (c.g r []) (onT v T d)) x → Will false P Z I (fun c r v => r = false ∧ c.k = [] ∧ c.f = f ∧ Val P M W F Z ⟨c, r, [], v⟩ ∧ ∃ T d, R ⟨c.t, []⟩ (onT v T d)) x := fun x h X h1 h2 =>
    h X (fun c r v ⟨hv, T, d, e1, e0, e2, e3⟩ => by
      cases r with
      | true => cases e1
      | false =>
        refine h1 c false v ⟨rfl, ?_, e0, hv, T, d, e3⟩
        have : c.k ++ [] = [] := e2
        simpa using this) h2
  refine hq _ (will_of_runs (b := false) (Q := fun fr w => fr.mode = .run ∧ fr.fn = f ∧ fr.todo = [] ∧ R ⟨fr.tmps, fr.defers⟩ w) (x := ⟨⟨f, t, k⟩, false, [], v⟩) H (fun fr w h => h.1) ⟨hok, ⟨fun d hd => (by cases hd), trivial⟩, he, hz⟩ fun T => ?_)
  obtain ⟨a', w', hR, n, hn⟩ := hc T
  refine ⟨n, (baseF f).at a' [], w', ?_, rfl, rfl, rfl, hR⟩
  have e : (⟨f, t, k⟩ : Cl).g false [] = (baseF f).at ⟨t, []⟩ k := by simp [Cl.g, Cl.fr, Frame.at, baseF]
  simp only [Cfg.m, tlOf, calls, List.nil_append, e]
  exact hn
/-- .. that return -/
theorem will_of_rets (H : FunAll P M W F) {f : FuncId} {t : Array Value} {k : List Item} {v : World} {R : Act → World → Prop} (hok : (⟨f, t, k⟩ : Cl).Ok P (ZT Z v.heap.size) M W) (he : Even (ZT Z v.heap.size) v) (hz : ∃ I w, Sim Z I v w)
    (hc : ∀ T, ∃ a' w', R a' w' ∧ ∃ todo, Steps P (lone ((baseF f).at ⟨t, []⟩ k) [door P] (onT v T 0)) (lone { (baseF f).at a' todo with mode := .returning } [door P] w')) :
    Will true P Z I (fun c r v => r = true ∧ c.f = f ∧ Val P M W F Z ⟨c, r, [], v⟩ ∧ ∃ T d, R ⟨c.t, []⟩ (onT v T d)) ⟨⟨f, t, k⟩, false, [], v⟩ := by
  have hq : ∀ x, Will true P Z I (fun c r v => Val P M W F Z ⟨c, r, [], v⟩ ∧ ∃ T d, (fun fr w => fr.mode = .returning ∧ fr.fn = f ∧ R ⟨fr.tmps, fr.defers⟩ w) (c.g r []) (onT v T d)) x → Will true P Z I (fun c r v => r = true ∧ c.f = f ∧ Val P M W F Z ⟨c, r, [], v⟩ ∧ ∃ T d, R ⟨c.t, []⟩ (onT v T d)) x := fun x h X h1 h2 =>
    h X (fun c r v ⟨hv, T, d, e1, e2, e3⟩ => by
      cases r with
      | false => cases e1
      | true => exact h1 c true v ⟨rfl, e2, hv, T, d, e3⟩) h2
  refine hq _ (will_of_runs (b := true) (Q := fun fr w => fr.mode = .returning ∧ fr.fn = f ∧ R ⟨fr.tmps, fr.defers⟩ w) (x := ⟨⟨f, t, k⟩, false, [], v⟩) H (fun fr w h => h.1) ⟨hok, ⟨fun d hd => (by cases hd), trivial⟩, he, hz⟩ fun T => ?_)
  obtain ⟨a', w', hR, todo, n, hn⟩ := hc T
  refine ⟨n, { (baseF f).at a' todo with mode := .returning }, w', ?_, rfl, rfl, hR⟩
  have e : (⟨f, t, k⟩ : Cl).g false [] = (baseF f).at ⟨t, []⟩ k := by simp [Cl.g, Cl.fr, Frame.at, baseF]
  simp only [Cfg.m, tlOf, calls, List.nil_append, e]
  exact hn
end
end Go.Proofs.Ytaiinkeendejdaa
