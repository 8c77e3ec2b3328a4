/-
  A LONE RUN CARRIED INTO COMPANY: which functions of a program are safe, told by their form. No condition.
  And: A LONE RUN CARRIED INTO COMPANY, OPERATION BY OPERATION, last: make, append, len, min, calls; which operations are safe, told by their form. No condition.
  And: A LONE RUN CARRIED INTO COMPANY, OPERATION BY OPERATION, on: arithmetic, slices, append; and which operations of a program are safe, told by their form. No condition.
  And: A LONE RUN CARRIED INTO COMPANY, OPERATION BY OPERATION: which operations are safe. No condition.
-/
import Derived.Test.YtaiinkeendejdaaLiftWill
namespace Go.Proofs.Ytaiinkeendejdaa
open Go.RowKit Go.Conc
set_option maxRecDepth 100000
section
variable {P : Program} {Z : Nat → Bool} {α β : Type} {A : α → Prop} {B : β → Prop}
abbrev Tr {α : Type} : α → Prop := fun _ => True
theorem safe_bind {s : Sem α} {f : α → Sem β} (h : Safe P Z A s) (hf : ∀ a, A a → Safe P Z B (f a)) : Safe P Z B (s >>= f) := SafeD.bind h hf
theorem safe_pure {a : α} (h : A a) : Safe P Z A (pure a) := h
theorem safe_stuck {s : String} : Safe P Z A (stuck s) := .inl trivial
theorem safe_noEntry {s : String} : Safe P Z A (unsupported (.noEntry s)) := Or.inl trivial
theorem safe_prog {f : Program → Sem β} (h : Safe P Z B (f P)) : Safe P Z B (program >>= f) := h
theorem safe_panicV {v : Value} : Safe P Z A (goPanic v) := .inr ⟨v, rfl⟩
theorem safe_choose (q : Question) : Safe P Z Tr (choose q) := fun _ => trivial
def okErr : RuntimeError → Bool
  | .bounds .. | .error _ | .plain _ | .nilDeref => true
  | _ => false
theorem safe_rtp {e : RuntimeError} (h : okErr e = true) : Safe P Z A (runtimePanic e) := by
  unfold runtimePanic
  refine safe_prog ?_
  cases e <;> first | exact safe_panicV | cases h
theorem safe_bounds {k : IntKind} {x y : Int} {c : BoundsCode} : Safe P Z A (boundsPanic k x y c) := by
  unfold boundsPanic
  dsimp only
  split
  · refine safe_bind (A := Tr) (fun _ => trivial) fun a _ => ?_
    exact safe_rtp rfl
  · refine safe_bind (A := Tr) trivial fun a _ => ?_
    exact safe_rtp rfl
theorem safe_typeInfo (t : TypeId) : Safe P Z (fun i => P.info? t = some i) (typeInfo t) := by
  unfold typeInfo
  refine safe_prog ?_
  split
  · rename_i i h; exact safe_pure h
  · exact safe_stuck
theorem safe_underlying (t : TypeId) : Safe P Z (fun d => P.underlying t = some d) (underlying t) := by
  unfold underlying
  refine safe_prog ?_
  split
  · rename_i i h; exact safe_pure h
  · exact safe_stuck
theorem safe_sizeOf (t : TypeId) : Safe P Z Tr (sizeOf t) := by
  unfold sizeOf
  exact safe_bind (safe_typeInfo t) fun a _ => safe_pure trivial
theorem safe_isAgg (t : TypeId) : Safe P Z Tr (isAgg t) := by
  unfold isAgg
  refine safe_bind (safe_underlying t) fun a _ => ?_
  split <;> exact safe_pure trivial
/-- the zero value leads nowhere -/
def zeroOk (P : Program) (t : TypeId) : Bool :=
  match P.info? t with
  | some i => (match i.zero with
    | some (.agg cs) => cs.all plainV
    | some v => plainV v
    | none => true)
  | none => true
theorem safe_zero {t : TypeId} (h : zeroOk P t = true) : Safe P Z (NoZ Z) (zeroValue t) := by
  unfold zeroValue
  refine safe_bind (safe_typeInfo t) fun i hi => ?_
  unfold zeroOk at h
  rw [hi] at h
  simp only at h
  cases e : i.zero with
  | none => exact .inl trivial
  | some v =>
    rw [e] at h
    refine safe_pure ?_
    cases v <;> first | exact plainV_ok h | skip
    case agg cs =>
      simp only [Array.all_eq_true_iff_forall_mem] at h
      exact .agg _ fun x hx => plainV_ok (h x hx)
theorem add_block' (a : Addr) (n : Nat) : (a.add n).block = a.block := by unfold Addr.add; split <;> rfl
theorem safe_loadFrom {a : Addr} (ha : OffB Z a.block) : ∀ (n i : Nat) (acc : Array Value), (∀ x ∈ acc, NoZ Z x) → Safe P Z (fun cs => ∀ x ∈ cs, NoZ Z x) (loadCellsFrom a i n acc)
  | 0, _, _, h => safe_pure h
  | n + 1, i, acc, h => by
    unfold loadCellsFrom
    refine ⟨rfl, by rw [add_block']; exact ha, fun v hv => ?_⟩
    refine safe_loadFrom ha n (i + 1) (acc.push v) fun x hx => ?_
    rcases Array.mem_push.1 hx with hx | rfl
    · exact h x hx
    · exact hv
theorem safe_loadCells {a : Addr} (ha : OffB Z a.block) (n : Nat) : Safe P Z (fun cs => ∀ x ∈ cs, NoZ Z x) (loadCells a n) := safe_loadFrom ha n 0 #[] fun x hx => by simp at hx
theorem safe_storeCells {a : Addr} (ha : OffB Z a.block) : ∀ (vs : List Value) (i : Nat), (∀ x ∈ vs, NoZ Z x) → Safe P Z Tr (storeCells a vs i)
  | [], _, _ => safe_pure trivial
  | v :: vs, i, h => by
    unfold storeCells
    exact ⟨rfl, by rw [add_block']; exact ha, h v (by simp), safe_storeCells ha vs (i + 1) fun x hx => h x (by simp [hx])⟩
theorem safe_loadVar {t : TypeId} {a : Addr} (ha : OffB Z a.block) : Safe P Z (NoZ Z) (loadVar t a) := by
  unfold loadVar
  refine safe_bind (safe_isAgg t) fun b _ => ?_
  split
  · refine safe_bind (safe_sizeOf t) fun n _ => ?_
    exact safe_bind (safe_loadCells ha n) fun cs h => safe_pure (.agg _ h)
  · exact ⟨rfl, ha, fun v hv => hv⟩
theorem safe_storeVar {t : TypeId} {a : Addr} {v : Value} (ha : OffB Z a.block) (hv : NoZ Z v) : Safe P Z Tr (storeVar t a v) := by
  unfold storeVar
  refine safe_bind (safe_sizeOf t) fun n _ => ?_
  split
  · exact safe_stuck
  · exact safe_storeCells ha _ 0 fun x hx => hv.cells x (by simpa using hx)
theorem safe_newRow {t : TypeId} {cs : Array Value} (_h : ∀ x ∈ cs, NoZ Z x) : Safe P Z (fun a => OffB Z a.block) (newRow t cs) := by
  unfold newRow
  exact ⟨⟨rfl, trivial, rfl⟩, fun r hr => hr⟩
theorem safe_newVar {t : TypeId} {v : Value} (h : NoZ Z v) : Safe P Z (fun a => OffB Z a.block) (newVar t v) := safe_newRow h.cells
theorem safe_sure {v : Value} (h : NoZ Z v) : Safe P Z (fun a => OffB Z a.block) (Instr.sureAddr v) := by
  unfold Instr.sureAddr
  split
  · exact safe_pure h.ptr
  · exact safe_stuck
theorem safe_asIntOf {v : Value} : Safe P Z Tr (asIntOf v) := by
  unfold asIntOf
  split
  · exact safe_pure trivial
  · exact .inl trivial
  · exact safe_stuck
theorem safe_asInt {v : Value} : Safe P Z Tr (asInt v) := by
  unfold asInt
  exact safe_bind safe_asIntOf fun _ _ => safe_pure trivial
theorem safe_asBool {v : Value} : Safe P Z Tr (asBool v) := by
  unfold asBool
  split
  · exact safe_pure trivial
  · exact safe_stuck
/-! ### the operations -/
variable {F : FuncId → Bool}
/-- an operation that yields a value -/
theorem safe_v {s : Sem Value} (h : Safe P Z (NoZ Z) s) : Safe P Z (NextZ Z F) (do pure (.value (← s))) := safe_bind h fun _ hv => safe_pure hv
theorem safe_u {s : Sem Unit} (h : Safe P Z Tr s) : Safe P Z (NextZ Z F) (do s; pure .skip) := safe_bind h fun _ _ => safe_pure trivial
theorem safe_alloc {t : TypeId} (h : zeroOk P t = true) : Safe P Z (NoZ Z) (Instr.alloc t true (.tuple #[])) := by
  unfold Instr.alloc
  refine safe_bind (safe_zero h) fun z hz => ?_
  exact safe_bind (safe_newVar hz) fun a ha => safe_pure (.pointer _ ha)
theorem safe_box {t : TypeId} {v : Value} (h : NoZ Z v) : Safe P Z (NoZ Z) (Instr.box t v) := safe_bind (safe_newVar h) fun _ ha => safe_pure (.pointer _ ha)
theorem safe_loadAt {t : TypeId} {v : Value} (h : NoZ Z v) : Safe P Z (NoZ Z) (Instr.loadAt t v) := safe_bind (safe_sure h) fun _ ha => safe_loadVar ha
theorem safe_storeAt {t : TypeId} {v x : Value} (h : NoZ Z v) (hx : NoZ Z x) : Safe P Z Tr (Instr.storeAt t v x) := safe_bind (safe_sure h) fun _ ha => safe_storeVar ha hx
theorem safe_extract {v : Value} {i : Nat} (h : NoZ Z v) : Safe P Z (NoZ Z) (Instr.extract v i) := by
  unfold Instr.extract
  split
  · split
    · rename_i e; exact safe_pure (h.tu _ (Array.mem_of_getElem? e))
    · exact safe_stuck
  · exact safe_stuck
theorem safe_makeFunc {f : FuncId} {a c : Array Value} (ha : ∀ x ∈ a, NoZ Z x) (hc : ∀ x ∈ c, NoZ Z x) : Safe P Z (NoZ Z) (Instr.makeFunc (.func f) a c) := NoZ.func _ _ _ ha hc
theorem safe_unary {op : UnOp} {x : Value} : Safe P Z (NoZ Z) (Op.unary op x) := by
  unfold Op.unary
  split
  · unfold Op.intArith; exact NoZ.int _ _
  · unfold Op.intBits; exact NoZ.int _ _
  · exact NoZ.float _ _
  · exact NoZ.complex _ _ _
  · exact NoZ.bool _
  · exact .inl trivial
  · exact .inl trivial
  · exact safe_stuck
/-! ### numbers that stand for addresses, and comparing -/
theorem safe_seq {s : Sem α} {f : α → Sem β} (h : Safe P Z Tr s) (hf : ∀ a, Safe P Z B (f a)) : Safe P Z B (s >>= f) := SafeD.bind h fun a _ => hf a
/-- how a block is made: what is done with it must not hang on how many cells there are, or halt where there are none -/
theorem safe_shapeK {r : Nat} {f : Option (TypeId × Nat) → Sem β} (h : ∀ s, Safe P Z B (f s)) (hd : ∀ t n, SafeD P Z (f (some (t, 0))) true (fun _ => False) ∨ f (some (t, 0)) = f (some (t, n))) : Safe P Z B (shape r >>= f) := ⟨trivial, h, fun _ => hd⟩
theorem doom_shape {r : Nat} : SafeD P Z (shape r) true Tr := ⟨trivial, fun _ => trivial, fun e => by cases e⟩
theorem doom_frozen {a : Addr} (_ : OffB Z a.block) : SafeD P Z (frozen a) true Tr := ⟨trivial, fun _ => trivial⟩
theorem safe_viewK {r : Nat} {f : Option (Addr × TypeId) → Sem β} (h0 : Safe P Z B (f none)) (h1 : ∀ p, SafeD P Z (f (some p)) true (fun _ => False)) : Safe P Z B (viewAt r >>= f) := by
  refine ⟨trivial, fun s => ?_, fun _ t n => .inr rfl⟩
  cases s with
  | some p => exact h0
  | none =>
    refine ⟨trivial, fun o ho _ => ?_, fun a t => ⟨(h1 (a, t)).never, fun _ => .inl (h1 (a, t))⟩⟩
    cases o <;> first | exact h0 | cases ho
theorem safe_numberAt {r : Nat} (_ : OffB Z r) : Safe P Z (fun o => ∀ a l, o = some (a, l) → OffB Z a.block) (numberAt r) := by
  refine ⟨trivial, fun s => ?_, fun _ t n => .inr rfl⟩
  have all : ∀ o : Option (Addr × Bool), Safe P Z (fun o => ∀ a l, o = some (a, l) → OffB Z a.block) (pure o) := fun o => safe_pure fun _ _ _ => trivial
  cases s with
  | some p => exact all none
  | none =>
    refine ⟨trivial, fun o ho _ => ?_, fun a t => ⟨all none, fun _ => .inr fun o ho => ?_⟩⟩
    · cases o <;> exact all _
    · cases o <;> first | rfl | cases ho
theorem safe_behind {n : Addr} (h : OffB Z n.block) : Safe P Z (fun p => OffB Z p.1.block) (behindNumber n) := by
  unfold behindNumber
  refine safe_bind (safe_numberAt h) fun o ho => ?_
  cases o with
  | none => exact safe_pure h
  | some p => exact safe_pure (ho p.1 p.2 rfl)
theorem safe_noView {a : Addr} (_ : OffB Z a.block) : Safe P Z Tr (noView a) := safe_viewK trivial fun _ => .inl trivial
theorem safe_byteOf {a : Addr} (h : OffB Z a.block) : Safe P Z Tr (byteOf a) := by
  unfold byteOf
  split
  · exact trivial
  · refine safe_prog ?_
    refine safe_bind (safe_noView h) fun _ _ => ?_
    refine safe_shapeK (fun o => ?_) fun t n => .inr rfl
    split
    · dsimp only
      split
      · exact trivial
      · split
        · exact trivial
        · exact safe_stuck
    · exact safe_stuck
end
section
variable {P : Program} {Z : Nat → Bool} {α β : Type} {A : α → Prop} {B : β → Prop} {F : FuncId → Bool}
theorem safe_part {t : TypeId} {cs : Array Value} {off : Nat} (h : ∀ x ∈ cs, NoZ Z x) : Safe P Z (NoZ Z) (part t cs off) := by
  unfold part
  refine safe_bind (safe_isAgg t) fun b _ => ?_
  split
  · refine safe_bind (safe_sizeOf t) fun n _ => safe_pure (.agg _ fun x hx => h x ?_)
    obtain ⟨i, hi, rfl⟩ := Array.mem_iff_getElem.1 hx
    rw [Array.getElem_extract]
    exact Array.getElem_mem _
  · split
    · rename_i e; exact safe_pure (h _ (Array.mem_of_getElem? e))
    · exact safe_stuck
theorem safe_forL {γ σ : Type} {f : γ → σ → Sem (ForInStep σ)} (h : ∀ x s, Safe P Z Tr (f x s)) : ∀ (xs : List γ) (s : σ), Safe P Z Tr (forIn xs s f)
  | [], s => by rw [List.forIn_nil]; exact trivial
  | x :: xs, s => by
    rw [List.forIn_cons]
    refine safe_bind (h x s) fun r _ => ?_
    cases r with
    | done b => exact trivial
    | yield b => exact safe_forL h xs b
theorem safe_forA {γ σ : Type} {f : γ → σ → Sem (ForInStep σ)} (h : ∀ x s, Safe P Z Tr (f x s)) (xs : Array γ) (s : σ) : Safe P Z Tr (forIn xs s f) := by
  rw [← Array.forIn_toList]
  exact safe_forL h _ _
theorem safe_forLM {γ σ : Type} {f : γ → σ → Sem (ForInStep σ)} : ∀ (xs : List γ), (∀ x ∈ xs, ∀ s, Safe P Z Tr (f x s)) → ∀ (s : σ), Safe P Z Tr (forIn xs s f)
  | [], _, s => by rw [List.forIn_nil]; exact trivial
  | x :: xs, h, s => by
    rw [List.forIn_cons]
    refine safe_bind (h x (by simp) s) fun r _ => ?_
    cases r with
    | done b => exact trivial
    | yield b => exact safe_forLM xs (fun y hy => h y (by simp [hy])) b
theorem safe_forM {γ σ : Type} {f : γ → σ → Sem (ForInStep σ)} {xs : Array γ} (h : ∀ x ∈ xs, ∀ s, Safe P Z Tr (f x s)) (s : σ) : Safe P Z Tr (forIn xs s f) := by
  rw [← Array.forIn_toList]
  exact safe_forLM _ (fun x hx => h x (by simpa using hx)) _
theorem safe_typeStr (t : TypeId) : Safe P Z Tr (typeStr t) := by
  unfold typeStr
  refine safe_bind (safe_typeInfo t) fun i _ => ?_
  (repeat (first | assumption | exact trivial | exact safe_stuck | exact Or.inl trivial | (exact fun _ => trivial) | exact safe_shape (by assumption) | exact safe_asIntOf | exact safe_asInt | exact safe_asBool | exact safe_sizeOf _ | exact safe_isAgg _ | (exact (safe_typeInfo _).mono fun _ _ => trivial) | (exact (safe_underlying _).mono fun _ _ => trivial) | exact safe_noView (by assumption) | exact safe_byteOf (by assumption) | (refine safe_prog ?_) | (refine safe_seq ?_ fun _ => ?_) | split | dsimp only))
/-- a type of which two values are compared without a look at where they lie -/
def cmpT (P : Program) : Nat → TypeId → Bool
  | 0, _ => true
  | d + 1, t => match P.underlying t with
    | some (.pointer _) | some .unsafePointer | some (.interface _) => false
    | some (.struct fs) => fs.all fun f => cmpT P d f.type
    | some (.array _ e) => cmpT P d e
    | _ => true
theorem safe_equalIn : ∀ (d : Nat) (t : TypeId) (x y : Value), cmpT P d t = true → NoZ Z x → NoZ Z y → Safe P Z Tr (Op.equalIn d t x y)
  | 0, _, _, _, _, _, _ => .inl trivial
  | d + 1, t, x, y, ht, hx, hy => by
    unfold Op.equalIn
    unfold cmpT at ht
    refine safe_bind (safe_underlying t) fun u _ => ?_
    split
    all_goals try ((repeat (first | assumption | exact trivial | exact safe_stuck | exact Or.inl trivial | (exact fun _ => trivial) | exact safe_shape (by assumption) | exact safe_asIntOf | exact safe_asInt | exact safe_asBool | exact safe_sizeOf _ | exact safe_isAgg _ | (exact (safe_typeInfo _).mono fun _ _ => trivial) | (exact (safe_underlying _).mono fun _ _ => trivial) | exact safe_noView (by assumption) | exact safe_byteOf (by assumption) | (refine safe_prog ?_) | (refine safe_seq ?_ fun _ => ?_) | split | dsimp only)); done)
    · rename_i k a b hu
      refine safe_bind (safe_behind hx.ptr) fun p hp => ?_
      refine safe_bind (safe_behind hy.ptr) fun q hq => ?_
      dsimp only
      (repeat (first | assumption | exact trivial | exact safe_stuck | exact Or.inl trivial | (exact fun _ => trivial) | exact safe_shape (by assumption) | exact safe_asIntOf | exact safe_asInt | exact safe_asBool | exact safe_sizeOf _ | exact safe_isAgg _ | (exact (safe_typeInfo _).mono fun _ _ => trivial) | (exact (safe_underlying _).mono fun _ _ => trivial) | exact safe_noView (by assumption) | exact safe_byteOf (by assumption) | (refine safe_prog ?_) | (refine safe_seq ?_ fun _ => ?_) | split | dsimp only))
    · rename_i e a b hu
      rw [hu] at ht; cases ht
    · rename_i a b hu
      rw [hu] at ht; cases ht
    · rename_i ms tx vx ty vy hu
      rw [hu] at ht; cases ht
    · rename_i fields xs ys hu
      rw [hu] at ht
      simp only [Array.all_eq_true_iff_forall_mem] at ht
      have h2 : Safe P Z Tr (forIn fields ((none, ()) : Option Bool × Unit) fun f __s =>
            if f.name ≠ "_" then do
              let a ← part f.type xs f.offset
              let b ← part f.type ys f.offset
              let c ← Op.equalIn d f.type a b
              if (!c) = true then pure (ForInStep.done (some false, ())) else pure (ForInStep.yield (none, ()))
            else pure (ForInStep.yield (none, ()))) := safe_forM (fun f hf s => by
        split
        · refine safe_bind (safe_part hx.ag) fun a ha => ?_
          refine safe_bind (safe_part hy.ag) fun b hb => ?_
          refine safe_seq (safe_equalIn d _ a b (ht f hf) ha hb) fun c => ?_
          split <;> exact trivial
        · exact trivial) _
      refine safe_prog ?_
      dsimp only
      split
      · refine safe_seq (safe_noEntry (α := PUnit)) fun _ => safe_seq h2 fun s => ?_
        split <;> exact trivial
      · refine safe_seq h2 fun s => ?_
        split <;> exact trivial
    · rename_i len elem xs ys hu
      rw [hu] at ht
      refine safe_seq (safe_sizeOf _) fun n => ?_
      refine safe_seq ?_ fun s => ?_
      · rw [Std.Legacy.Range.forIn_eq_forIn_range']
        refine safe_forL (fun i s => ?_) _ _
        refine safe_bind (safe_part hx.ag) fun a ha => ?_
        refine safe_bind (safe_part hy.ag) fun b hb => ?_
        refine safe_seq (safe_equalIn d _ a b ht ha hb) fun c => ?_
        split <;> exact trivial
      · dsimp only
        split <;> exact trivial
end
end Go.Proofs.Ytaiinkeendejdaa
namespace Go.Proofs.Ytaiinkeendejdaa
open Go.RowKit Go.Conc
set_option maxRecDepth 100000
section
variable {P : Program} {Z : Nat → Bool} {α β : Type} {A : α → Prop} {B : β → Prop} {F : FuncId → Bool}
theorem safe_intArith {op : BinOp} {k : IntKind} {a b : Int} : Safe P Z (NoZ Z) (Op.intArith op k a b) := by
  unfold Op.intArith; split <;> first | exact NoZ.int _ _ | exact safe_stuck
theorem safe_intDiv {op : BinOp} {k : IntKind} {a b : Int} : Safe P Z (NoZ Z) (Op.intDiv op k a b) := by
  unfold Op.intDiv
  split
  · exact safe_rtp rfl
  · split <;> first | exact NoZ.int _ _ | exact safe_stuck
theorem safe_intBits {op : BinOp} {k : IntKind} {a b : Int} : Safe P Z (NoZ Z) (Op.intBits op k a b) := by
  unfold Op.intBits
  dsimp only
  split <;> first | exact NoZ.int _ _ | exact safe_stuck
theorem safe_intCmp {op : BinOp} {a b : Int} : Safe P Z (NoZ Z) (Op.intCmp op a b) := by
  unfold Op.intCmp; split <;> first | exact NoZ.bool _ | exact safe_stuck
theorem safe_floatArith {op : BinOp} {k : FloatKind} {a b : Nat} : Safe P Z (NoZ Z) (Op.floatArith op k a b) := by
  have h : ∀ r : Option Nat, Safe P Z (NoZ Z) (match r with
      | some r => (pure (Value.float k r) : Sem Value)
      | none => do
        let n ← choose (Question.nanBits k a b)
        pure (Value.float k n)) := fun r => by
    split
    · exact NoZ.float _ _
    · exact safe_seq (safe_choose _) fun r => NoZ.float _ _
  unfold Op.floatArith
  dsimp only
  split
  all_goals first | exact safe_seq (safe_pure trivial) fun r => h r | exact safe_bind (A := Tr) safe_stuck fun r _ => h r
theorem safe_floatCmp {op : BinOp} {k : FloatKind} {a b : Nat} : Safe P Z (NoZ Z) (Op.floatCmp op k a b) := by
  unfold Op.floatCmp
  dsimp only
  split <;> first | exact NoZ.bool _ | exact safe_stuck
theorem safe_arith {op : BinOp} {k : FloatKind} {a b : Nat} : Safe P Z Tr (Op.Complex.arith op k a b) := by
  unfold Op.Complex.arith
  refine safe_bind safe_floatArith fun v _ => ?_
  (repeat (first | assumption | exact trivial | exact safe_stuck | exact Or.inl trivial | (exact fun _ => trivial) | exact safe_shape (by assumption) | exact safe_asIntOf | exact safe_asInt | exact safe_asBool | exact safe_sizeOf _ | exact safe_isAgg _ | (exact (safe_typeInfo _).mono fun _ _ => trivial) | (exact (safe_underlying _).mono fun _ _ => trivial) | exact safe_noView (by assumption) | exact safe_byteOf (by assumption) | (refine safe_prog ?_) | (refine safe_seq ?_ fun _ => ?_) | split | dsimp only))
theorem safe_cmp {op : BinOp} {k : FloatKind} {a b : Nat} : Safe P Z Tr (Op.Complex.cmp op k a b) := by
  unfold Op.Complex.cmp
  exact safe_bind safe_floatCmp fun v _ => safe_asBool
/-- the operators that are walked here -/
def opB : BinOp → Bool
  | .add | .sub | .rem | .and | .or | .xor | .eql | .neq | .lss | .leq | .gtr | .geq => true
  | _ => false
theorem safe_complexOp {op : BinOp} (h : opB op = true) {k : FloatKind} {a b c d : Nat} : Safe P Z (NoZ Z) (Op.complexOp op k a b c d) := by
  unfold Op.complexOp
  cases op <;> first | cases h | skip
  case add => exact safe_seq safe_arith fun _ => safe_seq safe_arith fun _ => NoZ.complex _ _ _
  case sub => exact safe_seq safe_arith fun _ => safe_seq safe_arith fun _ => NoZ.complex _ _ _
  case eql => exact safe_seq (by have := fun a b => @safe_cmp P Z .eql k a b; (repeat (first | assumption | exact trivial | exact safe_stuck | exact Or.inl trivial | (exact fun _ => trivial) | exact safe_shape (by assumption) | exact safe_asIntOf | exact safe_asInt | exact safe_asBool | exact safe_sizeOf _ | exact safe_isAgg _ | (exact (safe_typeInfo _).mono fun _ _ => trivial) | (exact (safe_underlying _).mono fun _ _ => trivial) | exact safe_noView (by assumption) | exact safe_byteOf (by assumption) | (refine safe_prog ?_) | (refine safe_seq ?_ fun _ => ?_) | split | dsimp only)) <;> exact this _ _) fun _ => NoZ.bool _
  case neq => exact safe_seq (by have := fun a b => @safe_cmp P Z .eql k a b; (repeat (first | assumption | exact trivial | exact safe_stuck | exact Or.inl trivial | (exact fun _ => trivial) | exact safe_shape (by assumption) | exact safe_asIntOf | exact safe_asInt | exact safe_asBool | exact safe_sizeOf _ | exact safe_isAgg _ | (exact (safe_typeInfo _).mono fun _ _ => trivial) | (exact (safe_underlying _).mono fun _ _ => trivial) | exact safe_noView (by assumption) | exact safe_byteOf (by assumption) | (refine safe_prog ?_) | (refine safe_seq ?_ fun _ => ?_) | split | dsimp only)) <;> exact this _ _) fun _ => NoZ.bool _
  all_goals exact safe_stuck
theorem safe_stringOp {op : BinOp} {a b : ByteArray} : Safe P Z (NoZ Z) (Op.stringOp op a b) := by
  unfold Op.stringOp
  dsimp only
  split
  case h_1 =>
    split
    · exact Or.inl trivial
    · exact NoZ.string _
  all_goals first | exact NoZ.bool _ | exact safe_stuck
theorem cellAtBytes_none (p : Program) (d : Nat) (e : TypeId) (off : Nat) (n : Int) : cellAtBytes p d e 0 off n = none := by
  unfold cellAtBytes
  simp only [Nat.zero_mul]
  split
  · rfl
  · cases byteOfCell p d e (off % p.cellsOf e) with
    | none => rfl
    | some here =>
      show (if _ then none else _ : Option Nat) = none
      rw [if_pos]
      generalize Int.ofNat (off / p.cellsOf e * p.bytesOf e + here) + n = z
      simp only [Bool.or_eq_true, decide_eq_true_eq]
      have : Int.ofNat 0 = 0 := rfl
      omega
theorem safe_unsafeAdd {a : Array TypeId} {t : TypeId} {x y : Value} (hx : NoZ Z x) : Safe P Z (NoZ Z) (Builtin.unsafeAdd_ a t #[x, y]) := by
  unfold Builtin.unsafeAdd_
  cases x
  case pointer ptr =>
    refine safe_seq (B := NoZ Z) safe_asInt fun n => ?_
    dsimp only
    split
    · cases ptr with
      | none => exact Or.inl trivial
      | some q => exact safe_viewK (NoZ.any _) fun _ => .inl trivial
    · split
      · exact Or.inl trivial
      · cases ptr with
        | none => exact Or.inl trivial
        | some q =>
          refine safe_shapeK (fun s => ?_) fun t n => .inl ?_
          · cases s with
            | none => exact Or.inl trivial
            | some p =>
              refine safe_prog ?_
              split
              · exact NoZ.any _
              · exact Or.inl trivial
          · show SafeD P Z (match cellAtBytes P P.depth t (0 / P.cellsOf t) q.off _ with | some off => _ | none => _) true _
            rw [Nat.zero_div, cellAtBytes_none]
            exact Or.inl trivial
  all_goals exact safe_stuck
theorem safe_twoPlaces {a b : Addr} (_ha : OffB Z a.block) (hb : OffB Z b.block) : Safe P Z Tr (Op.twoPlaces a b) := by
  unfold Op.twoPlaces
  (repeat (first | assumption | exact trivial | exact safe_stuck | exact Or.inl trivial | (exact fun _ => trivial) | exact safe_shape (by assumption) | exact safe_asIntOf | exact safe_asInt | exact safe_asBool | exact safe_sizeOf _ | exact safe_isAgg _ | (exact (safe_typeInfo _).mono fun _ _ => trivial) | (exact (safe_underlying _).mono fun _ _ => trivial) | exact safe_noView (by assumption) | exact safe_byteOf (by assumption) | (refine safe_prog ?_) | (refine safe_seq ?_ fun _ => ?_) | split | dsimp only))
theorem safe_addrSub {k : IntKind} {a b : Addr} (ha : OffB Z a.block) (hb : OffB Z b.block) : Safe P Z (NoZ Z) (Op.addrSub k a b) := by
  unfold Op.addrSub
  exact safe_seq (safe_twoPlaces ha hb) fun p => NoZ.int _ _
theorem safe_addrCmp {op : BinOp} {a b : Addr} (ha : OffB Z a.block) (hb : OffB Z b.block) : Safe P Z (NoZ Z) (Op.addrCmp op a b) := by
  unfold Op.addrCmp
  refine safe_seq (safe_twoPlaces ha hb) fun p => ?_
  split
  split <;> first | exact NoZ.bool _ | exact Or.inl trivial
theorem safe_addrMod {k : IntKind} {a : Addr} {n : Int} (ha : OffB Z a.block) : Safe P Z (NoZ Z) (Op.addrMod k a n) := by
  unfold Op.addrMod
  refine safe_shapeK (fun o => ?_) fun t n => .inr rfl
  split
  · refine safe_seq ((safe_typeInfo _).mono fun _ _ => trivial) fun i => ?_
    dsimp only
    split
    · exact safe_bind (A := Tr) (Or.inl trivial) fun _ _ => safe_seq (safe_byteOf ha) fun _ => NoZ.int _ _
    · exact safe_seq (safe_byteOf ha) fun _ => NoZ.int _ _
  · exact Or.inl trivial
theorem safe_movedNumber {t : TypeId} {x y : Value} (hx : NoZ Z x) : Safe P Z (NoZ Z) (movedNumber t x y) := by
  unfold movedNumber
  refine safe_seq ((safe_underlying _).mono fun _ _ => trivial) fun d => ?_
  dsimp only
  split
  · exact Or.inl trivial
  · rw [if_neg (by simp)]
    cases x
    case pointer q =>
      cases q with
      | none => exact safe_unsafeAdd hx
      | some q =>
        refine safe_bind (safe_behind hx.ptr) fun p hp => ?_
        refine safe_bind (safe_unsafeAdd (.pointer _ hp)) fun v hv => ?_
        split
        · unfold asNumber
          exact ⟨⟨rfl, hv.ptr, trivial⟩, fun r hr => NoZ.pointer _ hr⟩
        · exact hv
    all_goals exact safe_unsafeAdd hx
theorem safe_movedPointer {t : TypeId} {x y : Value} (hx : NoZ Z x) : Safe P Z (NoZ Z) (movedPointer t x y) := by
  unfold movedPointer
  dsimp only
  split
  · rename_i a
    refine safe_seq ((safe_numberAt hx.ptr).mono fun _ _ => trivial) fun o => ?_
    split
    · exact safe_bind (A := Tr) (Or.inl trivial) fun _ _ => safe_unsafeAdd hx
    · exact safe_unsafeAdd hx
  · exact safe_unsafeAdd hx
/-- .. held against nil -/
theorem safe_equalNil : ∀ (d : Nat) (t : TypeId) (x y : Value), y = .pointer none → NoZ Z x → Safe P Z Tr (Op.equalIn d t x y)
  | 0, _, _, _, _, _ => .inl trivial
  | d + 1, t, x, y, e, hx => by
    unfold Op.equalIn
    refine safe_bind (safe_underlying t) fun u _ => ?_
    split
    all_goals first | (cases e; done) | ((repeat (first | assumption | exact trivial | exact safe_stuck | exact Or.inl trivial | (exact fun _ => trivial) | exact safe_shape (by assumption) | exact safe_asIntOf | exact safe_asInt | exact safe_asBool | exact safe_sizeOf _ | exact safe_isAgg _ | (exact (safe_typeInfo _).mono fun _ _ => trivial) | (exact (safe_underlying _).mono fun _ _ => trivial) | exact safe_noView (by assumption) | exact safe_byteOf (by assumption) | (refine safe_prog ?_) | (refine safe_seq ?_ fun _ => ?_) | split | dsimp only)); done) | skip
    · rename_i a b _
      cases e
      cases a <;> exact trivial
/-- two values of this type are compared without a look at where they lie -/
def eqT (P : Program) (op : BinOp) (t : TypeId) (n : Bool) : Bool :=
  match op with
  | .eql | .neq => cmpT P Op.maxDepth t || n
  | _ => true
theorem safe_equal {t : TypeId} {x y : Value} {n : Bool} (h : (cmpT P Op.maxDepth t || n) = true) (hn : n = true → y = .pointer none) (hx : NoZ Z x) (hy : NoZ Z y) : Safe P Z Tr (Op.equal t x y) := by
  unfold Op.equal
  simp only [Bool.or_eq_true] at h
  rcases h with h | h
  · exact safe_equalIn _ _ _ _ h hx hy
  · exact safe_equalNil _ _ _ _ (hn h) hx
theorem safe_binOp {op : BinOp} (h : opB op = true) {t : TypeId} {x y : Value} {n : Bool} (he : eqT P op t n = true) (hn : n = true → y = .pointer none) (hx : NoZ Z x) (hy : NoZ Z y) : Safe P Z (NoZ Z) (binOp op t x y) := by
  unfold binOp
  split
  all_goals try (first | (cases h; done) | exact safe_stuck | exact Or.inl trivial | exact safe_stringOp)
  · split
    · exact safe_stuck
    · cases op <;> first | (cases h; done) | exact safe_intArith | exact safe_intDiv | exact safe_intBits | exact safe_intCmp
  · split
    · exact safe_stuck
    · cases op <;> first | (cases h; done) | exact safe_floatArith | exact safe_floatCmp
  · split
    · exact safe_stuck
    · exact safe_complexOp h
  · exact safe_seq (safe_equal he hn hx hy) fun _ => NoZ.bool _
  · exact safe_seq (safe_equal he hn hx hy) fun _ => NoZ.bool _
  · refine safe_seq ((safe_underlying _).mono fun _ _ => trivial) fun d => ?_
    split
    · exact safe_movedPointer hx
    · exact safe_movedNumber hx
  · exact safe_movedNumber hy
  · exact safe_movedNumber hx
  · exact safe_bind (safe_behind hx.ptr) fun p hp => safe_bind (safe_behind hy.ptr) fun q hq => safe_addrSub hp hq
  · exact safe_bind (safe_behind hx.ptr) fun p hp => safe_bind (safe_behind hy.ptr) fun q hq => safe_addrCmp hp hq
  · exact safe_bind (safe_behind hx.ptr) fun p hp => safe_bind (safe_behind hy.ptr) fun q hq => safe_addrCmp hp hq
  · exact safe_bind (safe_behind hx.ptr) fun p hp => safe_bind (safe_behind hy.ptr) fun q hq => safe_addrCmp hp hq
  · exact safe_bind (safe_behind hx.ptr) fun p hp => safe_bind (safe_behind hy.ptr) fun q hq => safe_addrCmp hp hq
  · exact safe_bind (safe_behind hx.ptr) fun p hp => safe_addrMod hp
  · exact safe_bind (safe_behind hx.ptr) fun p hp => safe_addrMod hp
  · exact safe_bind (safe_behind hy.ptr) fun p hp => safe_addrMod hp
/-! ### addresses, slices, what is built -/
theorem safe_eqGuardIn : ∀ (d : Nat) (t : TypeId) (x y : Value), NoZ Z x → NoZ Z y → Safe P Z Tr (Op.eqGuardIn d t x y)
  | 0, _, _, _, _, _ => .inl trivial
  | d + 1, t, x, y, hx, hy => by
    unfold Op.eqGuardIn
    refine safe_bind (safe_underlying t) fun u _ => ?_
    split
    · exact trivial
    · rename_i fields xs ys hu
      refine safe_seq (safe_forA (fun f s => ?_) _ _) fun s => ?_
      · split
        · refine safe_bind (safe_part hx.ag) fun a ha => ?_
          refine safe_bind (safe_part hy.ag) fun b hb => ?_
          refine safe_seq (safe_eqGuardIn d _ a b ha hb) fun c => ?_
          split <;> exact trivial
        · exact trivial
      · dsimp only
        split <;> exact trivial
    · rename_i len elem xs ys hu
      refine safe_seq (safe_sizeOf _) fun n => ?_
      refine safe_seq ?_ fun s => ?_
      · rw [Std.Legacy.Range.forIn_eq_forIn_range']
        refine safe_forL (fun i s => ?_) _ _
        refine safe_bind (safe_part hx.ag) fun a ha => ?_
        refine safe_bind (safe_part hy.ag) fun b hb => ?_
        refine safe_seq (safe_eqGuardIn d _ a b ha hb) fun c => ?_
        split <;> exact trivial
      · dsimp only
        split <;> exact trivial
    · exact trivial
theorem safe_eqGuard {op : BinOp} {t : TypeId} {x y : Operand} {a b : Value} (ha : NoZ Z a) (hb : NoZ Z b) : Safe P Z Tr (eqGuard op t x y a b) := by
  have h1 := safe_eqGuardIn (P := P) Op.maxDepth t a b ha hb
  unfold eqGuard
  (repeat (first | assumption | exact trivial | exact safe_stuck | exact Or.inl trivial | (exact fun _ => trivial) | exact safe_shape (by assumption) | exact safe_asIntOf | exact safe_asInt | exact safe_asBool | exact safe_sizeOf _ | exact safe_isAgg _ | (exact (safe_typeInfo _).mono fun _ _ => trivial) | (exact (safe_underlying _).mono fun _ _ => trivial) | exact safe_noView (by assumption) | exact safe_byteOf (by assumption) | (refine safe_prog ?_) | (refine safe_seq ?_ fun _ => ?_) | split | dsimp only))
theorem safe_indexAt {t : TypeId} {x i : Value} (hx : NoZ Z x) : Safe P Z (NoZ Z) (Instr.indexAt t x i) := by
  unfold Instr.indexAt
  refine safe_seq safe_asIntOf fun ki => ?_
  obtain ⟨k, i⟩ := ki
  dsimp only
  refine safe_seq ((safe_underlying _).mono fun _ _ => trivial) fun d => ?_
  split
  · refine safe_bind (safe_sure hx) fun a ha => ?_
    refine safe_bind (A := fun q => q.1 = some a) (safe_pure rfl) fun q hq => ?_
    obtain ⟨base, len, elem⟩ := q
    simp only at hq
    subst hq
    refine safe_seq ((safe_underlying _).mono fun _ _ => trivial) fun d => ?_
    dsimp only
    split
    · exact safe_seq (safe_sizeOf _) fun n => NoZ.pointer _ (by rw [add_block']; exact ha)
    · repeat' split
      all_goals first | exact Or.inl trivial | exact safe_bounds
  · rename_i elem base len cap
    refine safe_bind (A := fun q => q.1 = base) (safe_pure rfl) fun q hq => ?_
    obtain ⟨base', len', elem'⟩ := q
    simp only at hq
    subst hq
    refine safe_seq ((safe_underlying _).mono fun _ _ => trivial) fun d => ?_
    dsimp only
    cases base' with
    | none => exact safe_bounds
    | some a =>
      dsimp only
      split
      · exact safe_seq (safe_sizeOf _) fun n => NoZ.pointer _ (by rw [add_block']; exact hx.sl)
      · repeat' split
        all_goals first | exact Or.inl trivial | exact safe_bounds
  · exact Or.inl trivial
theorem safe_partAt {a : Addr} (h : OffB Z a.block) {c n : Nat} : Safe P Z (fun b => OffB Z b.block) (partAt a c n) := by
  unfold partAt
  refine safe_seq (safe_byteOf h) fun b => ?_
  dsimp only
  refine safe_seq (safe_byteOf h) fun b' => ?_
  exact safe_pure trivial
theorem safe_fieldPlace {a : Addr} (h : OffB Z a.block) {f : Field} : Safe P Z (fun b => OffB Z b.block) (fieldPlace a f) := by
  unfold fieldPlace
  refine safe_seq (safe_sizeOf _) fun n => ?_
  split
  · exact safe_partAt h
  · exact safe_pure (by rw [add_block']; exact h)
theorem safe_fieldAt {t : TypeId} {x : Value} {i : Nat} (hx : NoZ Z x) : Safe P Z (NoZ Z) (Instr.fieldAt t x i) := by
  unfold Instr.fieldAt
  refine safe_seq ((safe_underlying _).mono fun _ _ => trivial) fun d => ?_
  split
  · split
    · exact safe_bind (safe_sure hx) fun a ha => safe_bind (safe_fieldPlace ha) fun b hb => NoZ.pointer _ hb
    · exact safe_stuck
  · exact safe_stuck
theorem safe_sliceBound {x : Value} {y : Nat} {c : BoundsCode} : Safe P Z Tr (Instr.sliceBound x y c) := by
  unfold Instr.sliceBound
  refine safe_seq safe_asIntOf fun ki => ?_
  split
  split
  · exact trivial
  · exact safe_bounds
theorem safe_sliceBounds {s : Bool} {len cap : Nat} {lo hi mx : Option Value} : Safe P Z Tr (Instr.sliceBounds s len cap lo hi mx) := by
  unfold Instr.sliceBounds
  cases mx <;> cases hi <;> cases lo <;> dsimp only <;> repeat (first | exact safe_pure trivial | exact safe_stuck | (refine safe_seq safe_sliceBound fun _ => ?_) | (refine safe_seq (safe_pure trivial) fun _ => ?_) | (refine safe_bind (A := Tr) safe_stuck fun _ _ => ?_))
theorem safe_slice {t : TypeId} {x : Value} {lo hi mx : Option Value} (hx : NoZ Z x) : Safe P Z (NoZ Z) (Instr.slice t x lo hi mx) := by
  unfold Instr.slice
  refine safe_seq ((safe_underlying _).mono fun _ _ => trivial) fun d => ?_
  split
  · dsimp only
    split
    · exact safe_bind (A := Tr) safe_stuck fun _ _ => safe_seq safe_sliceBounds fun p => NoZ.string _
    · exact safe_seq safe_sliceBounds fun p => NoZ.string _
  · rename_i elem a len cap
    refine safe_seq safe_sliceBounds fun p => ?_
    refine safe_seq (safe_sizeOf _) fun n => ?_
    show NoZ Z (.slice (if _ then a else a.map _) _ _)
    cases a with
    | none => split <;> exact NoZ.nils _ _
    | some a => split <;> exact NoZ.slice _ _ _ (by first | exact hx.sl | (rw [add_block']; exact hx.sl))
  · rename_i arr y hy
    refine safe_bind (A := fun a : Addr => OffB Z a.block) ?_ fun a ha => ?_
    · unfold asAddr
      split
      · exact safe_pure hx.ptr
      · exact safe_rtp rfl
      · exact safe_stuck
    · refine safe_seq ((safe_underlying _).mono fun _ _ => trivial) fun d => ?_
      split
      · refine safe_seq safe_sliceBounds fun p => ?_
        refine safe_seq (safe_sizeOf _) fun n => ?_
        show NoZ Z (.slice (some (if _ then a else a.add _)) _ _)
        exact NoZ.slice _ _ _ (by split <;> first | exact ha | (rw [add_block']; exact ha))
      · exact safe_stuck
  · exact safe_stuck
theorem safe_sliceAt {t : TypeId} {x : Value} {lo hi mx : Option Value} (hx : NoZ Z x) : Safe P Z (NoZ Z) (Instr.sliceAt t x lo hi mx) := by
  unfold Instr.sliceAt
  refine safe_seq ((safe_underlying _).mono fun _ _ => trivial) fun d => ?_
  split
  · refine safe_bind (safe_sure hx) fun a ha => ?_
    refine safe_seq safe_sliceBounds fun p => ?_
    refine safe_seq (safe_sizeOf _) fun n => ?_
    show NoZ Z (.slice (some (if _ then a else a.add _)) _ _)
    exact NoZ.slice _ _ _ (by split <;> first | exact ha | (rw [add_block']; exact ha))
  · exact safe_slice hx
theorem fill_ok {place : Nat → Option (Nat × Nat)} : ∀ {cells cs : Array Value} {parts : List (Nat × Value)}, Instr.fill place cells parts = some cs → (∀ x ∈ cells, NoZ Z x) → (∀ p ∈ parts, NoZ Z p.2) → ∀ x ∈ cs, NoZ Z x
  | cells, cs, [], h, hc, _ => by
    unfold Instr.fill at h
    injection h with h
    rw [← h]; exact hc
  | cells, cs, (i, v) :: rest, h, hc, hp => by
    unfold Instr.fill at h
    split at h
    · cases h
    · split at h
      · cases h
      · refine fill_ok h ?_ fun p hp' => hp p (by simp [hp'])
        have hv : ∀ x ∈ v.cells, NoZ Z x := (hp (i, v) (by simp)).cells
        have key : ∀ (l : List (Value × Nat)) (acc : Array Value) (off : Nat), (∀ p ∈ l, NoZ Z p.1) → (∀ x ∈ acc, NoZ Z x) → ∀ x ∈ l.foldl (fun cs (p : Value × Nat) => cs.setIfInBounds (off + p.2) p.1) acc, NoZ Z x := by
          intro l
          induction l with
          | nil => intro acc off _ ha; exact ha
          | cons p l ih =>
            intro acc off hl ha
            refine ih _ off (fun q hq => hl q (by simp [hq])) fun x hx => ?_
            rcases Array.mem_or_eq_of_mem_setIfInBounds hx with hx | rfl
            · exact ha x hx
            · exact hl p (by simp)
        intro x hx
        rw [← Array.foldl_toList] at hx
        refine key _ _ _ (fun p hp => hv p.1 ?_) hc x hx
        obtain ⟨i, hi⟩ := Array.mem_iff_getElem?.1 (Array.mem_toList_iff.1 hp)
        rw [Array.getElem?_zipIdx] at hi
        cases e : v.cells[i]? with
        | none => rw [e] at hi; cases hi
        | some y =>
          rw [e] at hi
          simp only [Option.map_some, Option.some.injEq] at hi
          subst hi
          exact Array.mem_of_getElem? e
theorem zero_cells {cs : Array Value} (h : ∀ x ∈ cs, NoZ Z x) {n : Nat} : ∀ x ∈ (Array.range n).map (fun i => cs[i % cs.size]!), NoZ Z x := fun x hx => by
  obtain ⟨i, hi, rfl⟩ := Array.mem_map.1 hx
  by_cases hlt : i % cs.size < cs.size
  · rw [getElem!_pos cs _ hlt]
    exact h _ (Array.getElem_mem hlt)
  · rw [getElem!_neg cs _ hlt]
    exact NoZ.bool _
theorem safe_mapL {γ δ : Type} {A : γ → Prop} {f : γ → Sem δ} (h : ∀ x, A x → Safe P Z Tr (f x)) : ∀ xs : List γ, (∀ x ∈ xs, A x) → Safe P Z Tr (List.mapM f xs)
  | [], _ => by rw [List.mapM_nil]; exact trivial
  | x :: xs, hx => by
    rw [List.mapM_cons]
    exact safe_seq (h x (hx x (by simp))) fun _ => safe_seq (safe_mapL h xs fun y hy => hx y (by simp [hy])) fun _ => trivial
theorem safe_mapA {γ δ : Type} {A : γ → Prop} {f : γ → Sem δ} {xs : Array γ} (h : ∀ x, A x → Safe P Z Tr (f x)) (hx : ∀ x ∈ xs, A x) : Safe P Z Tr (Array.mapM f xs) := by
  rw [Array.mapM_eq_mapM_toList]
  exact safe_bind (safe_mapL h xs.toList fun x hx' => hx x (by simpa using hx')) fun _ _ => trivial
theorem safe_build {t : TypeId} {parts : Array (Nat × Value)} (ht : zeroOk P t = true) (hp : ∀ p ∈ parts, NoZ Z p.2) : Safe P Z (NoZ Z) (Instr.build t parts) := by
  unfold Instr.build
  refine safe_bind (safe_zero ht) fun z hz => ?_
  dsimp only
  refine safe_seq ((safe_underlying _).mono fun _ _ => trivial) fun d => ?_
  split
  · refine safe_seq ?_ fun pl => ?_
    · rename_i fields
      exact safe_mapA (A := Tr) (fun f _ => safe_seq (safe_sizeOf _) fun _ => trivial) fun _ _ => trivial
    · split
      · rename_i e
        exact NoZ.agg _ (fill_ok e hz.cells fun p hp' => hp p (by simpa using hp'))
      · exact safe_stuck
  · refine safe_seq (safe_sizeOf _) fun n => ?_
    split
    · rename_i e
      exact NoZ.agg _ (fill_ok e hz.cells fun p hp' => hp p (by simpa using hp'))
    · exact safe_stuck
  · exact safe_stuck
/-- the element's zero value leads nowhere -/
def elemZeroOk (P : Program) (t : TypeId) : Bool :=
  match P.underlying t with
  | some (.slice e) => zeroOk P e
  | _ => true
theorem safe_buildSlice {t : TypeId} {n : Nat} {parts : Array (Nat × Value)} (ht : elemZeroOk P t = true) (hp : ∀ p ∈ parts, NoZ Z p.2) : Safe P Z (NoZ Z) (Instr.buildSlice t n parts) := by
  unfold Instr.buildSlice
  refine safe_bind (safe_underlying _) fun d hd => ?_
  split
  · rename_i elem
    have he : zeroOk P elem = true := by
      unfold elemZeroOk at ht
      rw [hd] at ht
      exact ht
    refine safe_seq (safe_sizeOf _) fun k => ?_
    have fin : ∀ (zero : Array Value), (∀ x ∈ zero, NoZ Z x) → Safe P Z (NoZ Z) (
        match Instr.fill (fun i => some (i * k, k)) (Array.map (fun x => zero[x % zero.size]!) (Array.range (n * k))) parts.toList with
        | some cells => do
          let a ← newRow elem cells
          pure (Value.slice (some a) n n)
        | _ => stuck "buildSlice: a part of the wrong size") := fun zero hz => by
      split
      · rename_i e
        exact safe_bind (safe_newRow (fill_ok e (zero_cells hz) fun p hp' => hp p (by simpa using hp'))) fun a ha => NoZ.slice _ _ _ ha
      · exact safe_stuck
    dsimp only
    split
    · exact Or.inl trivial
    · split
      · refine safe_bind (A := fun z => ∀ x ∈ z, NoZ Z x) (safe_pure fun x hx => by simp at hx) fun z hz => ?_
        exact fin z hz
      · refine safe_bind (safe_zero he) fun z hz => ?_
        refine safe_bind (A := fun z => ∀ x ∈ z, NoZ Z x) (safe_pure hz.cells) fun z hz => ?_
        exact fin z hz
  · exact safe_stuck
end
end Go.Proofs.Ytaiinkeendejdaa
namespace Go.Proofs.Ytaiinkeendejdaa
open Go.RowKit Go.Conc
set_option maxRecDepth 100000
section
variable {P : Program} {Z : Nat → Bool} {α β : Type} {A : α → Prop} {B : β → Prop} {F : FuncId → Bool}
theorem safe_askRoom {n : Nat} : Safe P Z Tr (askRoom n) := by
  unfold askRoom
  split
  · exact ⟨rfl, trivial⟩
  · exact trivial
theorem safe_makeSlice {t : TypeId} {l c : Value} (ht : elemZeroOk P t = true) : Safe P Z (NoZ Z) (Instr.makeSlice t l c) := by
  have h1 : ∀ e : String, Safe P Z (NoZ Z) (runtimePanic (.error e) : Sem Value) := fun e => safe_rtp rfl
  unfold Instr.makeSlice
  refine safe_bind (safe_underlying _) fun d hd => ?_
  split
  · rename_i elem
    have he : zeroOk P elem = true := by
      unfold elemZeroOk at ht
      rw [hd] at ht
      exact ht
    refine safe_seq safe_asInt fun l => ?_
    refine safe_seq safe_asInt fun c => ?_
    refine safe_seq ((safe_typeInfo _).mono fun _ _ => trivial) fun i => ?_
    have dead : ∀ (e : String) (f : PUnit → Sem Value), Safe P Z (NoZ Z) (runtimePanic (.error e) >>= f) := fun e f => safe_bind (A := fun _ => False) (safe_rtp rfl) fun _ h => h.elim
    have fin : ∀ (zero : Array Value) (n m k : Nat), (∀ x ∈ zero, NoZ Z x) → Safe P Z (NoZ Z) (do
        let a ← newRow elem (Array.map (fun x => zero[x % zero.size]!) (Array.range n))
        pure (Value.slice (some a) m k)) := fun zero n m k hz => safe_bind (safe_newRow (zero_cells hz)) fun a ha => NoZ.slice _ _ _ ha
    dsimp only
    split
    · repeat' split
      all_goals first | exact dead _ _ | exact safe_seq (safe_choose _) fun _ => dead _ _
    · refine safe_seq safe_askRoom fun _ => ?_
      refine safe_seq (safe_sizeOf _) fun k => ?_
      split
      · refine safe_bind (A := fun z => ∀ x ∈ z, NoZ Z x) (safe_pure fun x hx => by simp at hx) fun z hz => ?_
        exact fin z _ _ _ hz
      · refine safe_bind (safe_zero he) fun z hz => ?_
        refine safe_bind (A := fun z => ∀ x ∈ z, NoZ Z x) (safe_pure hz.cells) fun z hz => ?_
        exact fin z _ _ _ hz
  · exact safe_stuck
/-- a look at an object that is no view -/
theorem safe_getK {r : Nat} {f : Obj → Sem β} (h : ∀ o, oddO o = false → Safe P Z B (f o)) (hd : ∀ a t, SafeD P Z (f (.view a t)) true (fun _ => False)) : Safe P Z B (getObj r >>= f) :=
  ⟨trivial, fun o ho _ => h o ho, fun a t => ⟨(hd a t).never, fun _ => .inl (hd a t)⟩⟩
theorem safe_len {a : Array TypeId} {t : TypeId} {args : Array Value} (hx : ∀ x ∈ args, NoZ Z x) : Safe P Z (NoZ Z) (Builtin.len_ a t args) := by
  unfold Builtin.len_
  split
  · rename_i t x' e
    simp only [Prod.mk.injEq] at e
    have hx := hx x' (Array.mem_of_getElem? e.2)
    refine safe_seq ((safe_underlying _).mono fun _ _ => trivial) fun d => ?_
    split
    all_goals try exact NoZ.int _ _
    · refine safe_seq ((safe_underlying _).mono fun _ _ => trivial) fun d => ?_
      split <;> first | exact NoZ.int _ _ | exact safe_stuck
    · refine safe_getK (fun o _ => ?_) fun a t => Or.inl trivial
      split <;> first | exact NoZ.int _ _ | exact safe_stuck
    · refine safe_getK (fun o _ => ?_) fun a t => Or.inl trivial
      split <;> first | exact NoZ.int _ _ | exact safe_stuck
    · exact safe_stuck
  · exact safe_stuck
theorem safe_min2 {x y : Value} (hx : NoZ Z x) : Safe P Z (NoZ Z) (Builtin.min2 x y) := by
  unfold Builtin.min2
  split
  · exact NoZ.int _ _
  · split
    · exact safe_seq (safe_choose _) fun _ => NoZ.float _ _
    all_goals exact NoZ.float _ _
  · exact safe_bind safe_stringOp fun _ _ => safe_seq safe_asBool fun _ => NoZ.string _
  · exact Or.inl trivial
  · exact Or.inl trivial
  · exact safe_stuck
theorem safe_min {a : Array TypeId} {t : TypeId} {args : Array Value} (hx : ∀ x ∈ args, NoZ Z x) : Safe P Z (NoZ Z) (Builtin.min_ a t args) := by
  have key : ∀ (l : List Value) (x : Value), NoZ Z x → Safe P Z (NoZ Z) (l.foldlM Builtin.min2 x) := by
    intro l
    induction l with
    | nil => intro x h; exact h
    | cons y l ih => intro x h; rw [List.foldlM_cons]; exact safe_bind (safe_min2 h) fun z hz => ih z hz
  unfold Builtin.min_
  split
  · exact safe_stuck
  · rename_i x rest e
    exact key _ _ (hx x (by rw [← Array.mem_toList_iff, e]; simp))
theorem safe_firstCells {k n : Nat} {x : Value} (hx : NoZ Z x) : Safe P Z (fun cs => ∀ x ∈ cs, NoZ Z x) (Builtin.firstCells k n x) := by
  unfold Builtin.firstCells
  split
  · exact safe_loadCells hx.sl _
  · exact safe_pure fun x hx => by simp at hx
  · refine safe_pure fun x hx => ?_
    obtain ⟨b, _, rfl⟩ := Array.mem_map.1 hx
    exact NoZ.int _ _
  · exact safe_stuck
theorem doom_holds {a : Addr} {n : Nat} : SafeD P Z (Builtin.holdsCells a n) true Tr := by
  unfold Builtin.holdsCells
  exact ⟨trivial, fun s => by cases s <;> exact trivial, fun e => by cases e⟩
theorem doom_seq {s : Sem α} {f : α → Sem β} (h : SafeD P Z s true Tr) (hf : ∀ a, SafeD P Z (f a) true B) : SafeD P Z (s >>= f) true B := SafeD.bind h fun a _ => hf a
theorem doom_mayShare {k n m : Nat} {b : Option Addr} {x : Value} (hb : ∀ a, b = some a → OffB Z a.block) (hx : NoZ Z x) : SafeD P Z (Builtin.mayShare k n m b x) true Tr := by
  unfold Builtin.mayShare
  have hs : ∀ (c : Addr) (k : Nat), OffB Z c.block → SafeD P Z (Builtin.holdsCells c k) true Tr := fun c k h => doom_holds
  cases b with
  | none =>
    dsimp only
    refine doom_seq (SafeD.doom (safe_pure trivial)) fun t => ?_
    split
    · exact trivial
    · split
      · exact doom_seq (hs _ _ hx.sl) fun _ => trivial
      · exact trivial
  | some a =>
    have ha := hb a rfl
    dsimp only
    refine doom_seq (hs _ _ ha) fun h1 => ?_
    refine doom_seq (doom_frozen (by rw [add_block']; exact ha)) fun h2 => ?_
    refine doom_seq (SafeD.doom (safe_pure trivial)) fun t => ?_
    split
    · exact trivial
    · split
      · exact doom_seq (hs _ _ hx.sl) fun _ => trivial
      · exact trivial
theorem safe_append {a : Array TypeId} {t : TypeId} {args : Array Value} (ha : (match a[0]? with | some s => elemZeroOk P s | none => true) = true) (hb : (match a[1]? with | some s => (match P.underlying s with | some (.int _) => false | _ => true) | none => false) = true) (hargs : ∀ x ∈ args, NoZ Z x) : Safe P Z (NoZ Z) (Builtin.append_ a t args) := by
  unfold Builtin.append_
  split
  case h_2 => exact safe_stuck
  rename_i sType s' y e
  simp only [Prod.mk.injEq] at e
  obtain ⟨e1, e2', e3'⟩ := e
  have hx := hargs s' (Array.mem_of_getElem? e2')
  have hy := hargs y (Array.mem_of_getElem? e3')
  rw [e1] at ha
  simp only at ha
  refine safe_bind (safe_underlying _) fun d hd => ?_
  split
  case h_2 => exact safe_stuck
  rename_i elem
  have he : zeroOk P elem = true := by
    unfold elemZeroOk at ha
    rw [hd] at ha
    exact ha
  split
  case h_2 => exact safe_stuck
  rename_i base sLen sCap
  refine safe_seq (safe_sizeOf _) fun k => ?_
  have hbase : ∀ a, base = some a → OffB Z a.block := fun a e => by subst e; exact hx.sl
  cases e2 : a[1]? with
  | none => rw [e2] at hb; cases hb
  | some xType =>
    rw [e2] at hb
    simp only at hb
    dsimp only
    refine safe_bind (safe_underlying _) fun d2 hd2 => ?_
    rw [hd2] at hb
    refine safe_bind (A := fun z => z = false) (safe_pure ?_) fun zeros hzz => ?_
    · cases d2 <;> first | rfl | cases hb
    subst hzz
    simp only [Bool.false_eq_true, if_false, Bool.not_false, if_true, false_or]
    have dead : ∀ (e : String) (f : PUnit → Sem Value), Safe P Z (NoZ Z) (runtimePanic (.error e) >>= f) := fun e f => safe_bind (A := fun _ => False) (safe_rtp rfl) fun _ h => h.elim
    have grow : ∀ n : Nat, Safe P Z (NoZ Z) (do
        let newCap ← choose (Question.appendCap (sLen + n) sCap elem)
        let i ← typeInfo elem
        askRoom (newCap * i.bytes)
        let old ← Builtin.firstCells k sLen (Value.slice base sLen sCap)
        let new ← Builtin.firstCells k n y
        let z ← zeroValue elem
        let a ← newRow elem (old ++ new ++ Builtin.zeroCells z.cells (newCap - (sLen + n)))
        pure (Value.slice (some a) (sLen + n) newCap)) := fun n => by
      refine safe_seq (safe_choose _) fun c => ?_
      refine safe_seq ((safe_typeInfo _).mono fun _ _ => trivial) fun i => ?_
      refine safe_seq safe_askRoom fun _ => ?_
      refine safe_bind (safe_firstCells hx) fun old ho => ?_
      refine safe_bind (safe_firstCells hy) fun new hn => ?_
      refine safe_bind (safe_zero he) fun z hz => ?_
      refine safe_bind (safe_newRow fun x hx => ?_) fun a ha => NoZ.slice _ _ _ ha
      rcases Array.mem_append.1 hx with hx | hx
      · rcases Array.mem_append.1 hx with hx | hx
        · exact ho x hx
        · exact hn x hx
      · exact zero_cells hz.cells x hx
    refine safe_seq ?_ fun n => ?_
    · unfold Builtin.lenOf
      (repeat (first | assumption | exact trivial | exact safe_stuck | exact Or.inl trivial | (exact fun _ => trivial) | exact safe_shape (by assumption) | exact safe_asIntOf | exact safe_asInt | exact safe_asBool | exact safe_sizeOf _ | exact safe_isAgg _ | (exact (safe_typeInfo _).mono fun _ _ => trivial) | (exact (safe_underlying _).mono fun _ _ => trivial) | exact safe_noView (by assumption) | exact safe_byteOf (by assumption) | (refine safe_prog ?_) | (refine safe_seq ?_ fun _ => ?_) | split | dsimp only))
    split
    · refine safe_bind (safe_firstCells hy) fun new hn => ?_
      cases base with
      | none => exact NoZ.nils _ _
      | some a => exact safe_seq (safe_storeCells (by rw [add_block']; exact hbase a rfl) _ 0 (fun x hx => hn x (by simpa using hx))) fun _ => NoZ.slice _ _ _ (hbase a rfl)
    · refine safe_seq ((safe_typeInfo _).mono fun _ _ => trivial) fun i => ?_
      split
      · exact dead _ _
      · refine safe_seq ((safe_typeInfo _).mono fun _ _ => trivial) fun i2 => ?_
        split
        · refine safe_bind (A := fun _ => False) ?_ fun _ h => h.elim
          refine SafeD.never (doom_seq (doom_mayShare hbase hy) fun b => ?_)
          split
          · exact ⟨rfl, Or.inl trivial⟩
          · exact Or.inl trivial
        · exact grow n
def isNil : Operand → Bool
  | .const (.pointer none) => true
  | _ => false
/-- which operations are walked, told by their form -/
def opW (P : Program) (F : FuncId → Bool) (M : Nat → Bool) (o : Oper) : Bool :=
  match o.op with
  | .move x | .assign x => okX M x
  | .pick c a b => okX M c && okX M a && okX M b
  | .alloc t => zeroOk P t
  | .box _ x => okX M x
  | .build t parts => zeroOk P t && parts.all fun p => okX M p.2
  | .buildSlice t _ parts => elemZeroOk P t && parts.all fun p => okX M p.2
  | .load _ a => okX M a
  | .store _ a x => okX M a && okX M x
  | .nilCheck x => okX M x
  | .binOp op t x y _ => (opB op && eqT P op t (isNil y)) && okX M x && okX M y
  | .unOp _ _ _ => true
  | .makeFunc (.func _) first captured => first.all (okX M) && captured.all (okX M)
  | .makeChan _ _ => true
  | .makeSlice t _ _ => elemZeroOk P t
  | .slice _ x _ _ _ => okX M x
  | .fieldAddr _ x _ => okX M x
  | .indexAddr _ x _ => okX M x
  | .extract x _ => okX M x
  | .call c => match c.callee with
    | .builtin .len => c.args.all (okX M)
    | .builtin .append => c.args.all (okX M) && (match c.argTypes[0]? with | some s => elemZeroOk P s | none => true) && (match c.argTypes[1]? with | some s => (match P.underlying s with | some (.int _) => false | _ => true) | none => false)
    | .builtin .min => c.args.all (okX M)
    | .value (.func f) => F f && c.args.all (okX M) && (match P.funcs[f]? with | some fn => !(fn.name == "runtime.NumGoroutine") && fn.body.isSome | none => false)
    | _ => false
  | _ => false
theorem all_ok {ρ : Operand → Value} {M : Nat → Bool} (h : ∀ x, okX M x = true → NoZ Z (ρ x)) {xs : Array Operand} (hx : xs.all (okX M) = true) : ∀ v ∈ xs.map ρ, NoZ Z v := fun v hv => by
  obtain ⟨x, hx', rfl⟩ := Array.mem_map.1 hv
  simp only [Array.all_eq_true_iff_forall_mem] at hx
  exact h x (hx x hx')
theorem parts_ok {ρ : Operand → Value} {M : Nat → Bool} (h : ∀ x, okX M x = true → NoZ Z (ρ x)) {xs : Array (Nat × Operand)} (hx : (xs.all fun p => okX M p.2) = true) : ∀ p ∈ xs.map (fun (i, x) => (i, ρ x)), NoZ Z p.2 := fun v hv => by
  obtain ⟨x, hx', rfl⟩ := Array.mem_map.1 hv
  simp only [Array.all_eq_true_iff_forall_mem] at hx
  exact h x.2 (hx x hx')
theorem safe_makeChan {t : TypeId} {x : Value} : Safe P Z (NoZ Z) (Instr.makeChan t x) := by
  unfold Instr.makeChan
  refine safe_seq safe_asInt fun n => ?_
  refine safe_seq ((safe_underlying _).mono fun _ _ => trivial) fun d => ?_
  have fin : ∀ k : Nat, Safe P Z (NoZ Z) (do pure (Value.chan (some (← newObj (.chan k #[] false 0 0 false)))) : Sem Value) := fun k => safe_bind (A := fun r => OffB Z r) ⟨⟨rfl, trivial, trivial⟩, fun r hr => hr⟩ fun r hr => NoZ.chan _ hr
  split
  · refine safe_seq ((safe_typeInfo _).mono fun _ _ => trivial) fun i => ?_
    dsimp only
    split
    · exact safe_bind (A := fun _ => False) (safe_rtp rfl) fun _ h => h.elim
    · exact fin _
  · exact safe_stuck
theorem safe_followBlind : ∀ (l : List FieldStep) (t : TypeId) (x : Option Value), Safe P Z Tr (followBlind l t x)
  | [], _, _ => trivial
  | s :: rest, t, x => by
    unfold followBlind
    refine safe_seq ((safe_underlying _).mono fun _ _ => trivial) fun d => ?_
    split
    · split
      · split
        · exact trivial
        · exact safe_followBlind rest _ _
        · exact safe_stuck
        · exact trivial
        · exact safe_seq ((safe_part fun _ _ => .any _).mono fun _ _ => trivial) fun _ => safe_followBlind rest _ _
        · exact safe_stuck
        · exact safe_followBlind rest _ _
      · exact safe_stuck
    · exact safe_stuck
theorem safe_nilAhead : ∀ (n : Nat) (t : TypeId) (v : Value) (name : String), Safe P Z Tr (nilAhead n t v name)
  | 0, _, _, _ => trivial
  | n + 1, t, v, name => by
    unfold nilAhead
    refine safe_seq ((safe_typeInfo _).mono fun _ _ => trivial) fun i => ?_
    split
    · refine safe_seq (safe_followBlind _ _ _) fun e => ?_
      split
      · exact trivial
      · split
        · exact safe_nilAhead n _ _ _
        · exact trivial
        · exact safe_stuck
        · exact trivial
        · exact trivial
        · refine safe_seq ((safe_underlying _).mono fun _ _ => trivial) fun d => ?_
          split <;> exact trivial
    · exact safe_stuck
theorem opW_ok {M : Nat → Bool} {o : Oper} (h : opW P F M o = true) : OpOk P Z F M o := by
  intro ρ hρ hf hcn
  obtain ⟨dst, op, type, pos, after, guard⟩ := o
  unfold opW at h
  unfold execOp
  cases op <;> simp only [Bool.and_eq_true, Bool.false_eq_true] at h
  case move x => exact hρ x h
  case assign x => exact hρ x h
  case pick c a b =>
    refine safe_seq safe_asBool fun t => ?_
    show NoZ Z (if t = true then ρ a else ρ b)
    split
    · exact hρ _ h.1.2
    · exact hρ _ h.2
  case alloc t => exact safe_v (safe_alloc h)
  case box t x => exact safe_v (safe_box (hρ x h))
  case build t parts => exact safe_v (safe_build h.1 (parts_ok hρ h.2))
  case buildSlice t n parts => exact safe_v (safe_buildSlice h.1 (parts_ok hρ h.2))
  case load t a => exact safe_v (safe_loadAt (hρ a h))
  case store t a x => exact safe_u (safe_storeAt (hρ a h.1) (hρ x h.2))
  case nilCheck x =>
    dsimp only
    split
    · exact safe_rtp rfl
    · exact safe_rtp rfl
    · exact safe_rtp rfl
    · split
      · exact safe_rtp rfl
      · refine safe_prog ?_
        refine safe_seq (safe_nilAhead _ _ _ _) fun o => ?_
        split
        · exact Or.inl trivial
        · exact NoZ.any _
      · exact NoZ.any _
    · exact NoZ.any _
  case binOp op t x y r => exact safe_v (safe_seq (safe_eqGuard (hρ x h.1.2) (hρ y h.2)) fun _ => safe_binOp h.1.1.1 h.1.1.2 (fun hn => by
    unfold isNil at hn
    split at hn
    · exact hcn _
    · cases hn) (hρ x h.1.2) (hρ y h.2))
  case unOp op t x => exact safe_v safe_unary
  case makeFunc fn first captured =>
    cases fn <;> simp only [Bool.and_eq_true, Bool.false_eq_true] at h
    exact safe_v (safe_makeFunc (all_ok hρ h.1) (all_ok hρ h.2))
  case makeChan t x => exact safe_v safe_makeChan
  case makeSlice t l c => exact safe_v (safe_makeSlice h)
  case slice t x lo hi mx => exact safe_v (safe_sliceAt (hρ x h))
  case fieldAddr s x f => exact safe_v (safe_fieldAt (hρ x h))
  case indexAddr t x i => exact safe_v (safe_indexAt (hρ x h))
  case extract x i => exact safe_v (safe_extract (hρ x h))
  case call c =>
    obtain ⟨callee, args, argTypes⟩ := c
    cases callee with
    | builtin b =>
      cases b <;> simp only [Bool.and_eq_true, Bool.false_eq_true] at h
      case len => exact safe_v (safe_len (all_ok hρ h))
      case append => exact safe_v (safe_append h.1.2 h.2 (all_ok hρ h.1.1))
      case min => exact safe_v (safe_min (all_ok hρ h))
    | invoke r n => cases h
    | value x =>
      cases x <;> simp only [Bool.and_eq_true, Bool.false_eq_true] at h
      case func f =>
        unfold resolve
        simp only [hf, Deferred.ofValue]
        show Safe P Z (NextZ Z F) (callFunc f (#[] ++ args.map ρ ++ #[]))
        unfold callFunc
        refine safe_prog ?_
        obtain ⟨⟨h1, h2⟩, h3⟩ := h
        cases e : P.funcs[f]? with
        | none => exact safe_stuck
        | some fn =>
          rw [e] at h3
          simp only [Bool.and_eq_true, Bool.not_eq_true'] at h3
          obtain ⟨h3, h4⟩ := h3
          have h5 : fn.body.isNone = false := by
            cases hb : fn.body with
            | none => rw [hb] at h4; cases h4
            | some c => rfl
          simp only [h3, h5, Bool.false_eq_true, if_false]
          exact ⟨h1, fun x hx => all_ok hρ h2 x (by simpa using hx)⟩
end
end Go.Proofs.Ytaiinkeendejdaa
namespace Go.Proofs.Ytaiinkeendejdaa
open Go.RowKit Go.Conc
set_option maxRecDepth 100000
section
variable {P : Program} {Z : Nat → Bool} {F : FuncId → Bool}
theorem safe_mapB {γ δ : Type} {A : γ → Prop} {B : δ → Prop} {f : γ → Sem δ} (h : ∀ x, A x → Safe P Z B (f x)) : ∀ xs : List γ, (∀ x ∈ xs, A x) → Safe P Z (fun l => ∀ y ∈ l, B y) (List.mapM f xs)
  | [], _ => by rw [List.mapM_nil]; exact safe_pure fun y hy => by simp at hy
  | x :: xs, hx => by
    rw [List.mapM_cons]
    refine safe_bind (h x (hx x (by simp))) fun a ha => ?_
    refine safe_bind (safe_mapB h xs fun y hy => hx y (by simp [hy])) fun l hl => safe_pure fun y hy => ?_
    rcases List.mem_cons.1 hy with rfl | hy
    · exact ha
    · exact hl y hy
def tmpR (M : Nat → Bool) : ResultVar → Bool
  | .tmp i => !M i
  | _ => false
theorem safe_results {fn : Func} {M : Nat → Bool} (h : fn.results.all (tmpR M) = true) {t : Array Value} (ht : SlotsOk Z M t) : Safe P Z (NoZ Z) (results fn t) := by
  unfold results
  rw [Array.mapM_eq_mapM_toList]
  refine safe_bind (A := fun a : Array Value => ∀ y ∈ a, NoZ Z y) ?_ fun vs hv => ?_
  · refine safe_bind (A := fun l : List Value => ∀ y ∈ l, NoZ Z y) (safe_mapB (A := fun p => tmpR M p = true) (B := NoZ Z) (fun p hp => ?_) _ fun p hp => ?_) fun l hl => safe_pure fun y hy => hl y (by simpa using hy)
    · cases p with
      | tmp i => exact safe_pure (eval_ok ht (.tmp i) (by simpa [okX, tmpR] using hp))
      | cell a b => cases hp
    · simp only [Array.all_eq_true_iff_forall_mem] at h
      exact h p (by simpa using hp)
  · refine safe_pure ?_
    split
    · exact hv _ (Array.getElem_mem _)
    · exact NoZ.tuple _ hv
def funW (P : Program) (F : FuncId → Bool) (M : Nat → Bool) (f : FuncId) : Bool :=
  match P.funcs[f]? with
  | some fn => (match fn.body with | some c => codeC (opW P F M) c | none => false) && fn.results.all (tmpR M)
  | none => false
theorem funOk_of {M : FuncId → Nat → Bool} (h : ∀ f, F f = true → funW P F (M f) f = true) : FunAll P M (fun f => opW P F (M f)) F := by
  intro Z
  refine ⟨fun f hf => ?_, fun f o ho => opW_ok ho⟩
  have := h f hf
  unfold funW at this
  cases e : P.funcs[f]? with
  | none => rw [e] at this; cases this
  | some fn =>
    rw [e] at this
    simp only [Bool.and_eq_true] at this
    cases hb : fn.body with
    | none => rw [hb] at this; cases this.1
    | some c =>
      rw [hb] at this
      exact ⟨fn, c, rfl, hb, this.1, fun t ht => safe_results this.2 ht⟩
/-- no slot is masked -/
def bare : FuncId → Nat → Bool := fun _ _ => false
theorem slots_bare {t : Array Value} (h : ∀ x ∈ t, NoZ Z x) (f : FuncId) : SlotsOk Z (bare f) t := slots_of h
/-- the same for a list of functions -/
theorem funOk_list (l : List FuncId) (h : (l.all (funW P (fun f => l.contains f) fun _ => false)) = true) : FunAll P bare (fun _ => opW P (fun f => l.contains f) fun _ => false) fun f => l.contains f :=
  funOk_of (M := bare) fun f hf => by
    rw [List.all_eq_true] at h
    exact h f (by simpa using hf)
end
end Go.Proofs.Ytaiinkeendejdaa
