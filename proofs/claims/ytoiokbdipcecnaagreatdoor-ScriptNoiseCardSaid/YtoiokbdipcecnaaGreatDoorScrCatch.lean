/-
  The function that quash/script.Parse defers: over a fault it lays the results; over no panic it does nothing. Condition: where the results lie.
  And: quash/script.Parse: the world at its beginning, what holds from line to line in memory. No condition.
  And: quash/script.Parse: what it may come to, in plain words; what holds of the state from line to line. No condition.
-/
import Derived.Test.YtoiokbdipcecnaaGreatDoorScrEndM
import Derived.Test.YtoiokbdipcecnaaGreatDoorScrRange
import Derived.Test.YtoiokbdipcecnaaGreatDoorRoundDraw
import Derived.Test.YtoiokbdipcecnaaGreatDoorRowO
import Derived.Recover
namespace Go.Proofs.YtoiokbdipcecnaaGreatDoor
open Go.RowKit
set_option maxRecDepth 100000

/-- the reader at the beginning -/
def st0 : SS := ⟨[], [], [], [], 0, 0, 0, []⟩
def endW : List (List UInt8) := [[101, 110, 100]]
/-- a state whose fields' errors stand at the line -/
def atLine (i : Int) : Except Int SS → Except (Int × Int) SS
  | .error er => .error (er, i)
  | .ok st => .ok st
/-- what a line may come to -/
def LineR (st : SS) (i : Int) (t : List UInt8) (res : Except (Int × Int) SS) : Prop :=
  if 0 < st.opn then
    if fieldsL (bareL t) = endW then EndRel st i res else res = .ok { st with block := st.block ++ [(i, t, bareL t)] }
  else if fieldsL (bareL t) = [] then res = .ok st
  else res = atLine i (outS st i (fieldsL (bareL t)))
/-- what lines may come to: k of them are read -/
inductive LinesR : SS → Nat → List (List UInt8) → Except (Int × Int) SS → Prop
  | nil (st : SS) (k : Nat) : LinesR st k [] (.ok st)
  | err {st : SS} {k : Nat} {t : List UInt8} {r : List (List UInt8)} {x : Int × Int} : LineR st ((k : Int) + 1) t (.error x) → LinesR st k (t :: r) (.error x)
  | ok {st st' : SS} {k : Nat} {t : List UInt8} {r : List (List UInt8)} {res : Except (Int × Int) SS} : LineR st ((k : Int) + 1) t (.ok st') → LinesR st' (k + 1) r res → LinesR st k (t :: r) res
def finS (st : SS) : Except (Int × Int) SS :=
  if 0 < st.opn then .error (233, st.opn) else if st.stage = 0 then .error (233, 0) else if st.progs.length = 0 then .error (231, 0) else .ok st
def andFin : Except (Int × Int) SS → Except (Int × Int) SS
  | .error x => .error x
  | .ok st => finS st
/-- what a text may come to -/
def ParseR (t : List UInt8) (res : Except (Int × Int) SS) : Prop :=
  if 1048576 < t.length then res = .error (234, 0) else ∃ r1, LinesR st0 0 (linesL 10 t) r1 ∧ res = andFin r1
/-- how long lines are with what ends them -/
def sumT (L : List (List UInt8)) : Nat := (L.map fun x => x.length + 1).sum
theorem sumT_cons (x : List UInt8) (L : List (List UInt8)) : sumT (x :: L) = x.length + 1 + sumT L := by simp [sumT]
theorem linesL_ne10 : ∀ l : List UInt8, linesL 10 l ≠ []
  | [] => by simp [linesL]
  | b :: r => by
    unfold linesL
    split
    · simp
    · split <;> simp
theorem sumT_lines : ∀ l : List UInt8, sumT (linesL 10 l) = l.length + 1
  | [] => by simp [linesL, sumT]
  | b :: r => by
    have ih := sumT_lines r
    have hn := linesL_ne10 r
    unfold linesL
    split
    · rw [sumT_cons, ih]; simp; omega
    · split
      · rename_i h t he
        rw [he, sumT_cons] at ih
        rw [sumT_cons]
        simp only [List.length_cons]; omega
      · rename_i he
        exact absurd he hn
/-- what holds of the state before line k + 1; T: how long the lines are that come yet -/
structure Fit (st : SS) (k T : Nat) : Prop where
  z : st.stage = 0 → st.start = [] ∧ st.progs = [] ∧ st.opn = 0 ∧ st.picks = []
  cfg : st.stage ≠ 0 → cfgB st.c = true ∧ st.c.length = 6
  s : st.stage ≠ 0 → (st.start.length : Int) ≤ st.c.getD 0 0
  pg : st.progs.length ≤ 8
  po : 0 < st.opn → st.progs.length ≤ 7
  ck : ∀ q ∈ st.progs, (checkL q).1 = 0
  pk : st.picks.length ≤ 65536
  dr : 0 ≤ st.drain ∧ st.drain ≤ 65536
  op : 0 ≤ st.opn ∧ st.opn ≤ (k : Int)
  bl : st.block.length ≤ k
  bx : ∀ x ∈ st.block, (0 ≤ x.1 ∧ x.1 ≤ (k : Int)) ∧ x.2.2.length ≤ 1048576
  bt : (textL st.block).length + T ≤ 1048577
theorem cfgB_first {c : List Int} (h : cfgB c = true) : 1 ≤ c.getD 0 0 ∧ c.getD 0 0 ≤ 256 := by
  unfold cfgB at h
  simp only [Bool.and_eq_true] at h
  have := h.1.1.1.1.1
  simpa [inB] using this
theorem Fit.start {st : SS} {k T : Nat} (h : Fit st k T) : st.start.length ≤ 256 := by
  by_cases hz : st.stage = 0
  · rw [(h.z hz).1]; simp
  · have h1 := h.s hz
    have h2 := cfgB_first (h.cfg hz).1
    omega
theorem fit0 {t : List UInt8} (ht : t.length ≤ 1048576) : Fit st0 0 (sumT (linesL 10 t)) :=
  ⟨fun _ => ⟨rfl, rfl, rfl, rfl⟩, fun h => absurd rfl h, fun h => absurd rfl h, (by decide), fun h => absurd h (by decide), fun q h => (by cases h), (by decide), (by decide), (by decide), (by decide), fun x h => (by cases h), (by rw [sumT_lines]; simp [st0, textL]; omega)⟩
theorem Fit.later {st : SS} {k T T' : Nat} (h : Fit st k T) (hT : T' ≤ T) : Fit st (k + 1) T' :=
  ⟨h.z, h.cfg, h.s, h.pg, h.po, h.ck, h.pk, h.dr, ⟨h.op.1, (by have := h.op.2; omega)⟩, (by have := h.bl; omega), fun x hx => ⟨⟨(h.bx x hx).1.1, (by have := (h.bx x hx).1.2; omega)⟩, (h.bx x hx).2⟩, (by have := h.bt; omega)⟩
theorem Fit.out {st st' : SS} {k T T' : Nat} {L : List (List UInt8)} (h : Fit st k T) (hT : T' ≤ T) (ho : ¬ 0 < st.opn) (hr : outS st ((k : Int) + 1) L = .ok st') : Fit st' (k + 1) T' := by
  have hop : st.opn = 0 := by have := h.op.1; omega
  have hl := h.later hT
  unfold outS at hr
  split at hr
  · cases hr
  rename_i ns _
  split at hr
  · unfold configS at hr
    split at hr
    · cases hr
    rename_i hs
    split at hr
    · rename_i hc
      injection hr with hr
      subst hr
      have hz := h.z (by omega)
      exact ⟨fun e => (by simp at e), fun _ => ⟨hc, (by simp; omega)⟩, fun _ => (by have := cfgB_first hc; rw [hz.1]; simp only [List.length_nil]; omega), hl.pg, hl.po, hl.ck, hl.pk, hl.dr, hl.op, hl.bl, hl.bx, hl.bt⟩
    · cases hr
  · unfold startS at hr
    split at hr
    · cases hr
    rename_i hs
    split at hr
    · cases hr
    · rename_i hc
      injection hr with hr
      subst hr
      exact ⟨fun e => absurd e (by simp only; omega), hl.cfg, fun _ => (by simp only; omega), hl.pg, hl.po, hl.ck, hl.pk, hl.dr, hl.op, hl.bl, hl.bx, hl.bt⟩
  · unfold threadS at hr
    split at hr
    · cases hr
    rename_i hs
    split at hr
    · cases hr
    · rename_i hc
      injection hr with hr
      subst hr
      have hz : st.stage ≠ 0 := by omega
      exact ⟨fun e => absurd e (by simp), fun _ => hl.cfg hz, fun _ => hl.s hz, hl.pg, fun _ => (by have := hl.pg; simp only; omega), hl.ck, hl.pk, hl.dr, ⟨(by simp only; omega), (by simp)⟩, (by simp), fun x hx => (by cases hx), (by have := hl.bt; simp [textL]; omega)⟩
  · unfold picksS at hr
    split at hr
    · cases hr
    rename_i hs
    split at hr
    · cases hr
    · rename_i hc
      injection hr with hr
      subst hr
      have hz : st.stage ≠ 0 := by omega
      exact ⟨fun e => absurd e (by simp), fun _ => hl.cfg hz, fun _ => hl.s hz, hl.pg, hl.po, hl.ck, (by simp only; omega), hl.dr, hl.op, hl.bl, hl.bx, hl.bt⟩
  · unfold drainS at hr
    split at hr
    · cases hr
    rename_i hs
    split at hr
    · cases hr
    · rename_i hc
      injection hr with hr
      subst hr
      have hz : st.stage ≠ 0 := by omega
      exact ⟨fun e => absurd e (by simp), fun _ => hl.cfg hz, fun _ => hl.s hz, hl.pg, hl.po, hl.ck, hl.pk, (by simp only; omega), hl.op, hl.bl, hl.bx, hl.bt⟩
  · cases hr
theorem Fit.line {st st' : SS} {k T : Nat} {t : List UInt8} (h : Fit st k (t.length + 1 + T)) (hr : LineR st ((k : Int) + 1) t (.ok st')) : Fit st' (k + 1) T := by
  have hl := h.later (show T ≤ t.length + 1 + T by omega)
  unfold LineR at hr
  split at hr
  · rename_i ho
    split at hr
    · obtain ⟨q, hq, rfl⟩ := hr.ok st' rfl
      have := h.po ho
      have hz : st.stage ≠ 0 := fun e => by have := (h.z e).2.2.1; omega
      have hck : ∀ p ∈ st.progs ++ [q], (checkL p).1 = 0 := fun p hp => by
        rcases List.mem_append.1 hp with hp | hp
        · exact hl.ck p hp
        · simp at hp; subst hp; exact hq
      exact ⟨fun e => absurd e hz, hl.cfg, hl.s, (by simp; omega), fun e => absurd e (by simp), hck, hl.pk, hl.dr, ⟨(by simp), (by simp; omega)⟩, hl.bl, hl.bx, hl.bt⟩
    · injection hr with hr
      subst hr
      have hb := bareL_length t
      have hbt := h.bt
      have hz : st.stage ≠ 0 := fun e => by have := (h.z e).2.2.1; omega
      refine ⟨fun e => absurd e hz, hl.cfg, hl.s, hl.pg, hl.po, hl.ck, hl.pk, hl.dr, hl.op, (by have := h.bl; simp; omega), fun x hx => ?_, ?_⟩
      · rcases List.mem_append.1 hx with hx | hx
        · exact hl.bx x hx
        · simp at hx; subst hx
          exact ⟨⟨(by simp only; omega), (by simp)⟩, (by simp only; omega)⟩
      · have e : textL (st.block ++ [((k : Int) + 1, t, bareL t)]) = textL st.block ++ (t ++ [10]) := by simp [textL]
        show (textL (st.block ++ [((k : Int) + 1, t, bareL t)])).length + T ≤ 1048577
        rw [e]
        simp only [List.length_append, List.length_singleton]
        omega
  · rename_i ho
    split at hr
    · injection hr with hr
      subst hr; exact hl
    · cases hs : outS st ((k : Int) + 1) (fieldsL (bareL t)) with
      | error e => rw [hs] at hr; cases hr
      | ok s2 =>
        rw [hs] at hr
        injection hr with hr
        subst hr
        exact h.out (by omega) ho hs
theorem outS_er {st : SS} {i er : Int} {L : List (List UInt8)} (h : outS st i L = .error er) : er ≠ 0 := by
  unfold outS at h
  split at h
  · injection h with h; subst h; decide
  split at h
  · unfold configS at h; repeat' split at h
    all_goals first | (cases h; done) | (injection h with h; subst h; decide)
  · unfold startS at h; repeat' split at h
    all_goals first | (cases h; done) | (injection h with h; subst h; decide)
  · unfold threadS at h; repeat' split at h
    all_goals first | (cases h; done) | (injection h with h; subst h; decide)
  · unfold picksS at h; repeat' split at h
    all_goals first | (cases h; done) | (injection h with h; subst h; decide)
  · unfold drainS at h; repeat' split at h
    all_goals first | (cases h; done) | (injection h with h; subst h; decide)
  · injection h with h; subst h; decide
theorem LineR.er {st : SS} {i er ln : Int} {t : List UInt8} (h : LineR st i t (.error (er, ln))) : er ≠ 0 := by
  unfold LineR at h
  split at h
  · split at h
    · exact h.er er ln rfl
    · cases h
  · split at h
    · cases h
    · cases hs : outS st i (fieldsL (bareL t)) with
      | error e =>
        rw [hs] at h
        injection h with h
        injection h with h _
        subst h
        exact outS_er hs
      | ok s2 => rw [hs] at h; cases h
/-- what is read may be -/
structure Fine (st : SS) : Prop where
  cfg : cfgB st.c = true
  c6 : st.c.length = 6
  s : (st.start.length : Int) ≤ st.c.getD 0 0
  pg : 1 ≤ st.progs.length ∧ st.progs.length ≤ 8
  ck : ∀ q ∈ st.progs, (checkL q).1 = 0
  pk : st.picks.length ≤ 65536
  dr : 0 ≤ st.drain ∧ st.drain ≤ 65536
theorem LinesR.fit {st : SS} {k : Nat} {L : List (List UInt8)} {res : Except (Int × Int) SS} (h : LinesR st k L res) : ∀ st', res = .ok st' → Fit st k (sumT L) → Fit st' (k + L.length) 0 := by
  induction h with
  | nil st k => intro st' e hf; injection e with e; subst e; exact hf
  | err _ => intro st' e; cases e
  | ok h1 _ ih =>
    intro st' e hf
    rw [sumT_cons] at hf
    have := ih st' e (hf.line h1)
    rwa [List.length_cons, Nat.add_comm _ 1, ← Nat.add_assoc]
theorem ParseR.fine {t : List UInt8} {st : SS} (h : ParseR t (.ok st)) : Fine st := by
  unfold ParseR at h
  split at h
  · cases h
  rename_i ht
  obtain ⟨r1, h1, h2⟩ := h
  cases r1 with
  | error x => cases h2
  | ok s =>
    have hf := h1.fit s rfl (fit0 (by omega))
    simp only [andFin] at h2
    unfold finS at h2
    split at h2
    · cases h2
    split at h2
    · cases h2
    rename_i hz
    split at h2
    · cases h2
    rename_i hp
    injection h2 with h2
    subst h2
    exact ⟨(hf.cfg hz).1, (hf.cfg hz).2, hf.s hz, ⟨(by omega), hf.pg⟩, hf.ck, hf.pk, hf.dr⟩
end Go.Proofs.YtoiokbdipcecnaaGreatDoor
namespace Go.Proofs.YtoiokbdipcecnaaGreatDoor
open Go.RowKit
set_option maxRecDepth 100000

/-- the lines of a block are of the text -/
def BlkOk (T : List (List UInt8)) (st : SS) : Prop := ∀ x ∈ st.block, x.2.1 ∈ T ∧ x.2.2 = bareL x.2.1
theorem outS_block {st st' : SS} {i : Int} {L : List (List UInt8)} (h : outS st i L = .ok st') : st'.block = st.block ∨ st'.block = [] := by
  unfold outS at h
  split at h
  · cases h
  split at h
  · unfold configS at h; repeat' split at h
    all_goals first | (cases h; done) | (injection h with h; subst h; exact .inl rfl)
  · unfold startS at h; repeat' split at h
    all_goals first | (cases h; done) | (injection h with h; subst h; exact .inl rfl)
  · unfold threadS at h; repeat' split at h
    all_goals first | (cases h; done) | (injection h with h; subst h; exact .inr rfl)
  · unfold picksS at h; repeat' split at h
    all_goals first | (cases h; done) | (injection h with h; subst h; exact .inl rfl)
  · unfold drainS at h; repeat' split at h
    all_goals first | (cases h; done) | (injection h with h; subst h; exact .inl rfl)
  · cases h
theorem BlkOk.line {T : List (List UInt8)} {st st' : SS} {i : Int} {t : List UInt8} (h : BlkOk T st) (ht : t ∈ T) (hr : LineR st i t (.ok st')) : BlkOk T st' := by
  unfold LineR at hr
  split at hr
  · split at hr
    · obtain ⟨q, _, rfl⟩ := hr.ok st' rfl
      exact h
    · injection hr with hr
      subst hr
      intro x hx
      rcases List.mem_append.1 hx with hx | hx
      · exact h x hx
      · simp at hx; subst hx; exact ⟨ht, rfl⟩
  · split at hr
    · injection hr with hr
      subst hr; exact h
    · cases hs : outS st i (fieldsL (bareL t)) with
      | error e => rw [hs] at hr; cases hr
      | ok s2 =>
        rw [hs] at hr
        injection hr with hr
        subst hr
        rcases outS_block hs with e | e
        · intro x hx; rw [e] at hx; exact h x hx
        · intro x hx; rw [e] at hx; cases hx
theorem KeepT.others {w w' : World} {B : Nat} (h : KeepT w w') (hb : Below B w w') : KeepsOthers w w' :=
  ⟨hb.size, fun k o ho hc => h k o ho (fun c t fz e => by subst e; simp [Obj.isCells] at hc)⟩
theorem KeepT.strings {w w' : World} (h : KeepT w w') : KeepS w w' := fun g cc hg => h g _ hg (fun c t fz e => by
  injection e with _ e2 _
  subst e2
  unfold RT
  decide)
theorem wpAt_gen {f : FuncId} {P : Program} {c : Code} {Q : Exit → Act → World → Prop} {a : Act} {W0 : World} (G : World → Prop) (hf : G W0) (h : ∀ W, G W → wpAt f P c Q a W) : wpAt f P c Q a W0 := h W0 hf
theorem wpAt_block {f : FuncId} {P : Program} {id : Nat} {c : Code} {Q : Exit → Act → World → Prop} {a : Act} {w : World} (h : wpAt f P c (Exit.inBlock id Q) a w) : wpAt f P (Code.block id c) Q a w := by
  intro b k cs hro hb
  have h0 : (lone (b.atR a (.code (.block id c) :: k)) cs w).fenced P Fence.wide := fenced_wide _ _
  obtain ⟨e, a₁, w₁, hq, harr⟩ := h b (.inBlock id :: k) cs hro hb
  cases e with
  | normal => exact ⟨.normal, a₁, w₁, hq, .head h0 stepR_block (StepsIn.trans harr (.one (fenced_wide _ _) stepR_inBlock))⟩
  | exit id' =>
    by_cases hid : id' = id
    · simp only [Exit.inBlock, hid, if_true] at hq
      exact ⟨.normal, a₁, w₁, hq, .head h0 stepR_block (harr.1 k (by simp [exitTo, hid]))⟩
    · simp only [Exit.inBlock, hid, if_false] at hq
      have this : (id == id') = false := by simp; exact fun h => hid h.symm
      have hx : exitTo id' (.inBlock id :: k) = exitTo id' k := by simp [exitTo, this]
      exact ⟨.exit id', a₁, w₁, hq, fun k' hk => .head h0 stepR_block (harr.1 k' (by rw [hx]; exact hk)),
        fun hr' hk => let ⟨k₁, h1, h2⟩ := harr.2 hr' (by rw [hx]; exact hk); ⟨k₁, h1, .head h0 stepR_block h2⟩⟩
  | goto l =>
    have hx : gotoIn l (.inBlock id :: k) = gotoIn l k := by simp [gotoIn]
    exact ⟨_, a₁, w₁, hq, fun k' hk => .head h0 stepR_block (harr.1 k' (by rw [hx]; exact hk)),
      fun hr' hk => let ⟨k₁, h1, h2⟩ := harr.2 hr' (by rw [hx]; exact hk); ⟨k₁, h1, .head h0 stepR_block h2⟩⟩
  | ret => exact ⟨_, a₁, w₁, hq, .of_steps (.one h0 stepR_block) harr⟩
  | panic ch => exact ⟨_, a₁, w₁, hq, .of_steps (.one h0 stepR_block) harr⟩
  | outgrown => exact ⟨_, a₁, w₁, hq, .of_steps (.one h0 stepR_block) harr⟩
theorem lines0_any (t : List UInt8) (w : World) :
    Calls Tryz.prog 28 #[.string (S t)] w fun e w' => e = .returned (.func (.func 46) #[] #[.pointer (some ⟨w.heap.size, 0, none⟩)]) ∧ w' = w.alloc (.cells #[.string (S t)] 9) := by
  go_enter Tryz.func28, Tryz.ntmps28
  go_wp2
  go_ret
  exact ⟨rfl, rfl⟩
/-- the world once the results are laid -/
def resW (w : World) : World := ((w.alloc (.cells #[.int .i64 0, .int .i64 0, .int .i64 0, .int .i64 0, .int .i64 0, .int .i64 0, .slice none 0 0, .slice none 0 0, .slice none 0 0, .int .i64 0] 29)).alloc (.cells #[.int .i64 0] 3)).alloc (.cells #[.int .i64 0] 30)
/-- .. and the reader -/
def rdW (w : World) : World := ((resW w).alloc (.cells #[.int .i64 0, .int .i64 0, .int .i64 0, .int .i64 0, .int .i64 0, .int .i64 0, .slice none 0 0, .slice none 0 0, .slice none 0 0, .int .i64 0, .int .i64 0, .int .i64 0, .int .i64 0, .slice none 0 0] 69)).alloc (.cells #[.pointer (some ⟨w.heap.size + 1 + 1 + 1, 0, none⟩)] 66)
theorem resW_size (w : World) : (resW w).heap.size = w.heap.size + 1 + 1 + 1 := by simp [resW]
theorem resW_below (w : World) : Below w.heap.size w (resW w) := (((Below.refl _ _).alloc (Nat.le_refl _) _).alloc (by simp) _).alloc (by simp; omega) _
theorem res_ends {w W : World} (hB : Below (resW w).heap.size (resW w) W) : W.heap[w.heap.size]? = some (.cells #[.int .i64 0, .int .i64 0, .int .i64 0, .int .i64 0, .int .i64 0, .int .i64 0, .slice none 0 0, .slice none 0 0, .slice none 0 0, .int .i64 0] 29) ∧
    W.heap[w.heap.size + 1]? = some (.cells #[.int .i64 0] 3) ∧ W.heap[w.heap.size + 1 + 1]? = some (.cells #[.int .i64 0] 30) ∧ Below w.heap.size w W := by
  have hs := resW_size w
  refine ⟨(hB.block _ (by omega)).trans ?_, (hB.block _ (by omega)).trans ?_, (hB.block _ (by omega)).trans ?_, ?_⟩
  · exact (Below.heap_alloc _ _ _ (by simp; omega)).trans ((Below.heap_alloc _ _ _ (by simp)).trans (heap_new _ _ _ rfl))
  · exact (Below.heap_alloc _ _ _ (by simp)).trans (heap_new _ _ _ (by simp))
  · exact heap_new _ _ _ (by simp)
  · exact (resW_below w).trans (hB.mono (by omega))
/-- what holds ahead of line k + 1 -/
def LnI (w3 : World) (L : List (List UInt8)) (rb tb : Nat) (k : Nat) (W : World) : Prop :=
  ∃ st line vs vp vk vb pv, Sr W rb rb vs vp vk vb pv st line ∧ Fit st k (sumT (L.drop k)) ∧ BlkOk L st ∧ (∀ res, LinesR st k (L.drop k) res → LinesR st0 0 L res) ∧ Below rb w3 W ∧ W.heap[tb]? = some (.cells #[.pointer (some ⟨rb, 0, none⟩)] 66)
/-- what holds where a line has a fault -/
def LnP (w3 : World) (L : List (List UInt8)) (rb : Nat) (ch : List PanicEntry) (W : World) : Prop :=
  ∃ er ln, ch = [{ v := .iface 65 (.agg #[.int .i64 er, .int .i64 ln]), recovered := false }] ∧ LinesR st0 0 L (.error (er, ln)) ∧ Below rb w3 W
theorem lnI_start {w : World} {t : List UInt8} (ht : t.length ≤ 1048576) : LnI (resW w) (linesL 10 t) (w.heap.size + 1 + 1 + 1) (w.heap.size + 1 + 1 + 1 + 1) 0 (rdW w) := by
  have hs := resW_size w
  refine ⟨st0, 0, .slice none 0 0, .slice none 0 0, .slice none 0 0, .slice none 0 0, [], ⟨?_, Nat.le_refl _, OwnG.nil _ _ _, OwnG.nil _ _ _, OwnG.nil _ _ _, OwnG.nil _ _ _, rfl, fun j x p h => by simp at h⟩, fit0 ht, fun x h => (by cases h), fun res h => h, ?_, ?_⟩
  · exact (Below.heap_alloc _ _ _ (by simp; omega)).trans (heap_new _ _ _ hs.symm)
  · exact ((Below.refl _ _).alloc (by omega) _).alloc (by simp; omega) _
  · exact heap_new _ _ _ (by simp; omega)
theorem LnI.keep {w3 : World} {L : List (List UInt8)} {rb tb k : Nat} {W W' : World} (h : LnI w3 L rb tb k W) (hB : Below rb W W') (hk : ∀ (g : Nat) (c : Array Value) (t : TypeId), W.heap[g]? = some (.cells c t) → W'.heap[g]? = W.heap[g]?) : LnI w3 L rb tb k W' := by
  obtain ⟨st, line, vs, vp, vk, vb, pv, h1, h2, h3, h4, h5, h6⟩ := h
  exact ⟨st, line, vs, vp, vk, vb, pv, ⟨(hk _ _ _ h1.blk).trans h1.blk, h1.ge, h1.rows.at fun g c t hg _ => hk g c t hg⟩, h2, h3, h4, h5.trans hB, (hk _ _ _ h6).trans h6⟩
theorem LnI.alloc {w3 : World} {L : List (List UInt8)} {rb tb k : Nat} {W : World} (h : LnI w3 L rb tb k W) (o : Obj) : LnI w3 L rb tb k (W.alloc o) := by
  obtain ⟨_, _, _, _, _, _, _, h1, _⟩ := id h
  exact h.keep ((Below.refl _ _).alloc (Nat.le_of_lt (lt_of_block h1.blk)) _) fun g c t hg => Below.heap_alloc _ _ _ (lt_of_block hg)
theorem below_putObj {B l : Nat} {W : World} {o' : Obj} (hl : B ≤ l) : Below B W (W.putObj l o') :=
  ⟨rfl, rfl, rfl, by simp [World.putObj], fun k hk => World.putObj_heap_other (by omega)⟩
theorem LnI.put {w3 : World} {L : List (List UInt8)} {rb tb k : Nat} {W : World} {l : Nat} {o o' : Obj} (h : LnI w3 L rb tb k W) (hl : rb ≤ l) (ho : W.heap[l]? = some o) (hc : o.isCells = false) : LnI w3 L rb tb k (W.putObj l o') :=
  h.keep (below_putObj hl) fun g c t hg => World.putObj_heap_other (fun e => by
    have e2 : W.heap[l]? = some (.cells c t) := by first | (rw [e]; exact hg) | (rw [← e]; exact hg)
    rw [ho] at e2
    injection e2 with e2
    subst e2
    cases hc)
theorem drop_line {L : List (List UInt8)} {k : Nat} {x : List UInt8} (h : L[k]? = some x) : L.drop k = x :: L.drop (k + 1) := by
  obtain ⟨h1, h2⟩ := List.getElem?_eq_some_iff.1 h
  rw [List.drop_eq_getElem_cons h1, h2]
/-- a line that goes on -/
theorem LnI.next {w3 : World} {L : List (List UInt8)} {rb tb k : Nat} {W W' : World} {x : List UInt8} {st st' : SS} {line' : Int} {vs' vp' vk' vb' : Value} {pv' : List SlP} (hx : L[k]? = some x)
    (hF : Fit st k (sumT (L.drop k))) (hO : BlkOk L st) (hgo : ∀ res, LinesR st k (L.drop k) res → LinesR st0 0 L res) (hB : Below rb w3 W) (ht : W.heap[tb]? = some (.cells #[.pointer (some ⟨rb, 0, none⟩)] 66))
    (hL : LineR st ((k : Int) + 1) x (.ok st')) (hS : Sr W' rb rb vs' vp' vk' vb' pv' st' line') (hB' : Below rb W W') (hK : KeepT W W') : LnI w3 L rb tb (k + 1) W' := by
  rw [drop_line hx] at hF hgo
  rw [sumT_cons] at hF
  exact ⟨st', line', vs', vp', vk', vb', pv', hS, hF.line hL, hO.line (List.mem_of_getElem? hx) hL, fun res h => hgo res (.ok hL h), hB.trans hB', hK tb _ ht (fun c t fz e => by
    injection e with _ e2 _
    subst e2
    unfold RT
    decide)⟩
/-- a line that has a fault -/
theorem LnP.of {w3 : World} {L : List (List UInt8)} {rb k : Nat} {W W' : World} {x : List UInt8} {st : SS} {er ln : Int} (hx : L[k]? = some x)
    (hgo : ∀ res, LinesR st k (L.drop k) res → LinesR st0 0 L res) (hB : Below rb w3 W) (hL : LineR st ((k : Int) + 1) x (.error (er, ln))) (hB' : Below rb W W') :
    LnP w3 L rb [{ v := .iface 65 (.agg #[.int .i64 er, .int .i64 ln]), recovered := false }] W' := by
  rw [drop_line hx] at hgo
  exact ⟨er, ln, rfl, hgo _ (.err hL), hB.trans hB'⟩
section
variable {w : World} {B rb : Nat} {vs vp vk vb : Value} {pv : List SlP} {st : SS} {line : Int}
/-- a line is put behind the block -/
theorem Sr.push_line (h : Sr w B rb vs vp vk vb pv st line) {O : Obj} {w8 : World} {v8 : Value} {x : BlkL} (ho : OwnG blkT w8 B v8 (st.block ++ [x])) (hg : (w.alloc O).grownBy w8 vb.ownBlock) :
    Sr (w8.setCell ⟨rb, 13, none⟩ v8) B rb vs vp vk v8 pv { st with block := st.block ++ [x] } line ∧ Below B w (w8.setCell ⟨rb, 13, none⟩ v8) ∧ KeepT w (w8.setCell ⟨rb, 13, none⟩ v8) ∧ w8.heap[rb]? = some (.cells (rdCells st line vs vp vk vb) 69) ∧
    ∀ (g : Nat) (c : Array Value) (t : TypeId), w.heap[g]? = some (.cells c t) → t ≠ 77 → w8.heap[g]? = some (.cells c t) := by
  have hbW : Below w.heap.size w (w.alloc O) := (Below.refl _ _).alloc (Nat.le_refl _) _
  have hW := h.below hbW
  have hos := hW.rows.ob
  have gb := fun (g : Nat) (c : Array Value) (t : TypeId) (hgc : (w.alloc O).heap[g]? = some (.cells c t)) (ht : t ≠ 77) => grown_block (E := blkT) hos hg hgc ht
  have hblk : w8.heap[rb]? = some (.cells (rdCells st line vs vp vk vb) 69) := (gb rb _ _ hW.blk (by decide)).trans hW.blk
  have hBw : B ≤ w.heap.size := by have := lt_of_block h.blk; have := h.ge; omega
  have hr8 : SRows w8 B vs vp vk v8 pv { st with block := st.block ++ [x] } :=
    ⟨hW.rows.os.at fun g hv => by obtain ⟨c, hc⟩ := own_block hW.rows.os hv; exact gb g c _ hc (by decide),
      hW.rows.op.at fun g hv => by obtain ⟨c, hc⟩ := own_block hW.rows.op hv; exact gb g c _ hc (by decide),
      hW.rows.ok.at fun g hv => by obtain ⟨c, hc⟩ := own_block hW.rows.ok hv; exact gb g c _ hc (by decide), ho,
      hW.rows.pl, fun j y p hy hp => ownsRow_at (hW.rows.pr j y p hy hp) fun g hv => by obtain ⟨c, hc⟩ := own_block (hW.rows.pr j y p hy hp) hv; exact gb g c _ hc (by decide)⟩
  have ne : ∀ (g : Nat) (c : Array Value) (t : TypeId), w8.heap[g]? = some (.cells c t) → t ≠ 69 → (w8.setCell ⟨rb, 13, none⟩ v8).heap[g]? = w8.heap[g]? := fun g c t hgc ht =>
    heap_setCell_other _ _ _ _ fun e => by
      have e2 : g = rb := e
      rw [e2, hblk] at hgc
      injection hgc with hgc
      injection hgc with _ hgc
      exact ht hgc.symm
  refine ⟨⟨?_, h.ge, hr8.at ne⟩, ?_, ?_, hblk, fun g c t hgc ht => ?_⟩
  · rw [heap_setCell_same w8 rb 13 _ _ v8 hblk]; rfl
  · exact (((Below.refl B w).alloc hBw _).grown hg (by simp; omega) (fun k hk => own_ge hos hk)).setCell (p := ⟨rb, 13, none⟩) h.ge _
  · exact ((KeepT.of_below hbW).trans (KeepT.grown hos (.inr (.inr (.inr (.inr rfl)))) hg)).trans (KeepT.set hblk (.inl rfl))
  · have h1 : (w.alloc O).heap[g]? = some (.cells c t) := (hbW.block g (lt_of_block hgc)).trans hgc
    exact (gb g c t h1 ht).trans h1
end
/-- the frame's own words for the end of a round -/
theorem postLn_go {I : Nat → World → Prop} {Ip : List PanicEntry → World → Prop} {k B : Nat} {W W' : World} {a : Act} (hI : I (k + 1) W') (hB : Below B W W') (hK : KeepT W W') : postLn I Ip k W .normal a W' :=
  ⟨hK.others hB, hK.strings, hI⟩
theorem postLn_bad {I : Nat → World → Prop} {Ip : List PanicEntry → World → Prop} {k B : Nat} {W W' : World} {a : Act} {ch : List PanicEntry} (hd : a.defers = []) (hI : Ip ch W') (hB : Below B W W') (hK : KeepT W W') : postLn I Ip k W (.panic ch) a W' :=
  ⟨hd, hK.others hB, hI⟩
end Go.Proofs.YtoiokbdipcecnaaGreatDoor
namespace Go.Proofs.YtoiokbdipcecnaaGreatDoor
open Go.RowKit
set_option maxRecDepth 100000
set_option linter.unusedSimpArgs false

theorem callsDIn_of_wpS {n : Nat} {P : Program} {f : FuncId} {fn : Func} {c : Code} {args : Array Value} {u : FrameMode} {w : World} {R : Ending → FrameMode → World → Prop}
    (hf : P.funcs[f]? = some fn) (hb : fn.body = some c)
    (h : ∀ (c₀ : Frame) (cs : List Frame), c₀.mode = u →
      c.wpS P (bodyPostS P fn c₀ cs R) { tmps := args ++ Array.replicate (fn.ntmps - args.size) undef, defers := [] } (c₀ :: cs) w) :
    CallsDIn Fence.wide n P f args u w R := by
  refine ⟨trivial, fun c₀ cs hu _ => ?_⟩
  let b : Frame := { (default : Frame) with fn := f, kind := .deferred }
  have henter : Frame.enter P f args .deferred =
      b.at { tmps := args ++ Array.replicate (fn.ntmps - args.size) undef, defers := [] } [.code c] := by
    simp [Frame.enter, Frame.at, hf, hb, b]
  obtain ⟨e, a', cs', w', hq, harr⟩ := h c₀ cs hu b [] rfl rfl
  rw [← henter] at harr
  cases e with
  | normal =>
    obtain ⟨hd, u', rfl, v, hr, hR⟩ := hq
    exact ⟨.returned v, u', w', _, hR, comesIn_wide.2 (show Comes P _ _ (.returned v) from Steps.trans harr (.one step_end)), rfl, rfl, rfl, hd, fn, hf, hr⟩
  | ret =>
    obtain ⟨hd, u', rfl, v, hr, hR⟩ := hq
    obtain ⟨todo, hs⟩ := harr
    exact ⟨.returned v, u', w', _, hR, comesIn_wide.2 (show Comes P _ _ (.returned v) from hs), rfl, rfl, rfl, hd, fn, hf, hr⟩
  | panic chain =>
    obtain ⟨hd, u', rfl, hR⟩ := hq
    obtain ⟨todo, hs⟩ := harr
    exact ⟨.panicked chain, u', w', _, hR, comesIn_wide.2 (show Comes P _ _ (.panicked chain) from hs), rfl, rfl, rfl, hd, fn, hf⟩
  | exit id => exact hq.elim
  | goto l => exact hq.elim
  | outgrown =>
    obtain ⟨u', hR⟩ := hq
    exact ⟨.outgrown, u', w', b, hR, comesIn_wide.2 (show Comes P _ _ .outgrown from harr.resolve_left (by simp [b])), rfl, rfl, trivial⟩
theorem scatch_idle (n : Nat) (p q r : Addr) (w : World) :
    CallsDIn Fence.wide n Tryz.prog 27 #[.pointer (some p), .pointer (some q), .pointer (some r)] .returning w fun e u' w' => e = .returned (.tuple #[]) ∧ u' = .returning ∧ w' = w := by
  have hnn : ∀ w, (binOp .neq 20 .nilIface .nilIface).run Tryz.prog w = .ok (.bool false) w := fun w => run_neq_nil_nil w _ (by kernel_rfl)
  refine callsDIn_of_wpS Tryz.func27 rfl fun c₀ cs hu => ?_
  apply wpS_seq
  apply wpS_region
  simp [wpOpsS, go_sem, recoverD, hu, Tryz.ntmps27, Exit.thenS]
  simp only [List.size_toArray, List.length_cons, List.length_nil, Nat.reduceAdd, Nat.reduceSub, Array.replicate_succ, Array.replicate_zero, List.push_toArray, List.append_toArray, List.nil_append, List.cons_append, List.setIfInBounds_toArray, List.set_cons_zero, List.set_cons_succ]
  refine wpS_of_wp ?_
  go_wp2
  cases c₀
  simp_all [bodyPostS, results, Tryz.results27]
def zero10 : Array Value := #[.int .i64 0, .int .i64 0, .int .i64 0, .int .i64 0, .int .i64 0, .int .i64 0, .slice none 0 0, .slice none 0 0, .slice none 0 0, .int .i64 0]
theorem ten_set {w : World} {p B : Nat} {x0 x1 x2 x3 x4 x5 x6 x7 x8 x9 v0 v1 v2 v3 v4 v5 v6 v7 v8 v9 : Value} {t : TypeId} (c : w.heap[p]? = some (.cells #[x0, x1, x2, x3, x4, x5, x6, x7, x8, x9] t)) (b1 : B ≤ p) (W : World) (hW : W = ((((((((((w.setCell ⟨p, 0, none⟩ v0).setCell ⟨p, 1, none⟩ v1).setCell ⟨p, 2, none⟩ v2).setCell ⟨p, 3, none⟩ v3).setCell ⟨p, 4, none⟩ v4).setCell ⟨p, 5, none⟩ v5).setCell ⟨p, 6, none⟩ v6).setCell ⟨p, 7, none⟩ v7).setCell ⟨p, 8, none⟩ v8).setCell ⟨p, 9, none⟩ v9)) :
    W.heap[p]? = some (.cells #[v0, v1, v2, v3, v4, v5, v6, v7, v8, v9] t) ∧ Below B w W ∧ ∀ g, g ≠ p → W.heap[g]? = w.heap[g]? := by
  have k0 : (w.setCell ⟨p, 0, none⟩ v0).heap[p]? = some (.cells #[v0, x1, x2, x3, x4, x5, x6, x7, x8, x9] t) := by rw [heap_setCell_same w p 0 _ _ _ c]; rfl
  have k1 : ((w.setCell ⟨p, 0, none⟩ v0).setCell ⟨p, 1, none⟩ v1).heap[p]? = some (.cells #[v0, v1, x2, x3, x4, x5, x6, x7, x8, x9] t) := by rw [heap_setCell_same (w.setCell ⟨p, 0, none⟩ v0) p 1 _ _ _ k0]; rfl
  have k2 : (((w.setCell ⟨p, 0, none⟩ v0).setCell ⟨p, 1, none⟩ v1).setCell ⟨p, 2, none⟩ v2).heap[p]? = some (.cells #[v0, v1, v2, x3, x4, x5, x6, x7, x8, x9] t) := by rw [heap_setCell_same ((w.setCell ⟨p, 0, none⟩ v0).setCell ⟨p, 1, none⟩ v1) p 2 _ _ _ k1]; rfl
  have k3 : ((((w.setCell ⟨p, 0, none⟩ v0).setCell ⟨p, 1, none⟩ v1).setCell ⟨p, 2, none⟩ v2).setCell ⟨p, 3, none⟩ v3).heap[p]? = some (.cells #[v0, v1, v2, v3, x4, x5, x6, x7, x8, x9] t) := by rw [heap_setCell_same (((w.setCell ⟨p, 0, none⟩ v0).setCell ⟨p, 1, none⟩ v1).setCell ⟨p, 2, none⟩ v2) p 3 _ _ _ k2]; rfl
  have k4 : (((((w.setCell ⟨p, 0, none⟩ v0).setCell ⟨p, 1, none⟩ v1).setCell ⟨p, 2, none⟩ v2).setCell ⟨p, 3, none⟩ v3).setCell ⟨p, 4, none⟩ v4).heap[p]? = some (.cells #[v0, v1, v2, v3, v4, x5, x6, x7, x8, x9] t) := by rw [heap_setCell_same ((((w.setCell ⟨p, 0, none⟩ v0).setCell ⟨p, 1, none⟩ v1).setCell ⟨p, 2, none⟩ v2).setCell ⟨p, 3, none⟩ v3) p 4 _ _ _ k3]; rfl
  have k5 : ((((((w.setCell ⟨p, 0, none⟩ v0).setCell ⟨p, 1, none⟩ v1).setCell ⟨p, 2, none⟩ v2).setCell ⟨p, 3, none⟩ v3).setCell ⟨p, 4, none⟩ v4).setCell ⟨p, 5, none⟩ v5).heap[p]? = some (.cells #[v0, v1, v2, v3, v4, v5, x6, x7, x8, x9] t) := by rw [heap_setCell_same (((((w.setCell ⟨p, 0, none⟩ v0).setCell ⟨p, 1, none⟩ v1).setCell ⟨p, 2, none⟩ v2).setCell ⟨p, 3, none⟩ v3).setCell ⟨p, 4, none⟩ v4) p 5 _ _ _ k4]; rfl
  have k6 : (((((((w.setCell ⟨p, 0, none⟩ v0).setCell ⟨p, 1, none⟩ v1).setCell ⟨p, 2, none⟩ v2).setCell ⟨p, 3, none⟩ v3).setCell ⟨p, 4, none⟩ v4).setCell ⟨p, 5, none⟩ v5).setCell ⟨p, 6, none⟩ v6).heap[p]? = some (.cells #[v0, v1, v2, v3, v4, v5, v6, x7, x8, x9] t) := by rw [heap_setCell_same ((((((w.setCell ⟨p, 0, none⟩ v0).setCell ⟨p, 1, none⟩ v1).setCell ⟨p, 2, none⟩ v2).setCell ⟨p, 3, none⟩ v3).setCell ⟨p, 4, none⟩ v4).setCell ⟨p, 5, none⟩ v5) p 6 _ _ _ k5]; rfl
  have k7 : ((((((((w.setCell ⟨p, 0, none⟩ v0).setCell ⟨p, 1, none⟩ v1).setCell ⟨p, 2, none⟩ v2).setCell ⟨p, 3, none⟩ v3).setCell ⟨p, 4, none⟩ v4).setCell ⟨p, 5, none⟩ v5).setCell ⟨p, 6, none⟩ v6).setCell ⟨p, 7, none⟩ v7).heap[p]? = some (.cells #[v0, v1, v2, v3, v4, v5, v6, v7, x8, x9] t) := by rw [heap_setCell_same (((((((w.setCell ⟨p, 0, none⟩ v0).setCell ⟨p, 1, none⟩ v1).setCell ⟨p, 2, none⟩ v2).setCell ⟨p, 3, none⟩ v3).setCell ⟨p, 4, none⟩ v4).setCell ⟨p, 5, none⟩ v5).setCell ⟨p, 6, none⟩ v6) p 7 _ _ _ k6]; rfl
  have k8 : (((((((((w.setCell ⟨p, 0, none⟩ v0).setCell ⟨p, 1, none⟩ v1).setCell ⟨p, 2, none⟩ v2).setCell ⟨p, 3, none⟩ v3).setCell ⟨p, 4, none⟩ v4).setCell ⟨p, 5, none⟩ v5).setCell ⟨p, 6, none⟩ v6).setCell ⟨p, 7, none⟩ v7).setCell ⟨p, 8, none⟩ v8).heap[p]? = some (.cells #[v0, v1, v2, v3, v4, v5, v6, v7, v8, x9] t) := by rw [heap_setCell_same ((((((((w.setCell ⟨p, 0, none⟩ v0).setCell ⟨p, 1, none⟩ v1).setCell ⟨p, 2, none⟩ v2).setCell ⟨p, 3, none⟩ v3).setCell ⟨p, 4, none⟩ v4).setCell ⟨p, 5, none⟩ v5).setCell ⟨p, 6, none⟩ v6).setCell ⟨p, 7, none⟩ v7) p 8 _ _ _ k7]; rfl
  have k9 : ((((((((((w.setCell ⟨p, 0, none⟩ v0).setCell ⟨p, 1, none⟩ v1).setCell ⟨p, 2, none⟩ v2).setCell ⟨p, 3, none⟩ v3).setCell ⟨p, 4, none⟩ v4).setCell ⟨p, 5, none⟩ v5).setCell ⟨p, 6, none⟩ v6).setCell ⟨p, 7, none⟩ v7).setCell ⟨p, 8, none⟩ v8).setCell ⟨p, 9, none⟩ v9).heap[p]? = some (.cells #[v0, v1, v2, v3, v4, v5, v6, v7, v8, v9] t) := by rw [heap_setCell_same (((((((((w.setCell ⟨p, 0, none⟩ v0).setCell ⟨p, 1, none⟩ v1).setCell ⟨p, 2, none⟩ v2).setCell ⟨p, 3, none⟩ v3).setCell ⟨p, 4, none⟩ v4).setCell ⟨p, 5, none⟩ v5).setCell ⟨p, 6, none⟩ v6).setCell ⟨p, 7, none⟩ v7).setCell ⟨p, 8, none⟩ v8) p 9 _ _ _ k8]; rfl
  subst hW
  refine ⟨k9, (((((((((((Below.refl B w).setCell (p := ⟨p, 0, none⟩) b1 _).setCell (p := ⟨p, 1, none⟩) b1 _).setCell (p := ⟨p, 2, none⟩) b1 _).setCell (p := ⟨p, 3, none⟩) b1 _).setCell (p := ⟨p, 4, none⟩) b1 _).setCell (p := ⟨p, 5, none⟩) b1 _).setCell (p := ⟨p, 6, none⟩) b1 _).setCell (p := ⟨p, 7, none⟩) b1 _).setCell (p := ⟨p, 8, none⟩) b1 _).setCell (p := ⟨p, 9, none⟩) b1 _), fun g h => ?_⟩
  exact (heap_setCell_other _ ⟨p, 9, none⟩ g _ h).trans ((heap_setCell_other _ ⟨p, 8, none⟩ g _ h).trans ((heap_setCell_other _ ⟨p, 7, none⟩ g _ h).trans ((heap_setCell_other _ ⟨p, 6, none⟩ g _ h).trans ((heap_setCell_other _ ⟨p, 5, none⟩ g _ h).trans ((heap_setCell_other _ ⟨p, 4, none⟩ g _ h).trans ((heap_setCell_other _ ⟨p, 3, none⟩ g _ h).trans ((heap_setCell_other _ ⟨p, 2, none⟩ g _ h).trans ((heap_setCell_other _ ⟨p, 1, none⟩ g _ h).trans ((heap_setCell_other _ ⟨p, 0, none⟩ g _ h))))))))))
/-- what the deferred function leaves over a fault -/
def SCaught (B p q r : Nat) (er ln : Int) (w : World) (u : FrameMode) (e : Ending) (u' : FrameMode) (w' : World) : Prop :=
  e = .returned (.tuple #[]) ∧ u' = u ∧ w'.heap[p]? = some (.cells zero10 29) ∧ w'.heap[q]? = some (.cells #[.int .i64 ln] 3) ∧ w'.heap[r]? = some (.cells #[.int .i64 er] 30) ∧ Below B w w'
theorem scatch_fault (n B p q r : Nat) (er ln : Int) (w : World) (x1 x2 : Int) (c0 : w.heap[p]? = some (.cells zero10 29)) (c1 : w.heap[q]? = some (.cells #[.int .i64 x1] 3)) (c2 : w.heap[r]? = some (.cells #[.int .i64 x2] 30)) (n1 : p ≠ q) (n2 : p ≠ r) (n3 : q ≠ r) (b1 : B ≤ p) (b2 : B ≤ q) (b3 : B ≤ r) :
    CallsDIn Fence.wide n Tryz.prog 27 #[.pointer (some ⟨p, 0, none⟩), .pointer (some ⟨q, 0, none⟩), .pointer (some ⟨r, 0, none⟩)] (.panicking [{ v := .iface 65 (.agg #[.int .i64 er, .int .i64 ln]), recovered := false }]) w
      (SCaught B p q r er ln w (.panicking [{ v := .iface 65 (.agg #[.int .i64 er, .int .i64 ln]), recovered := true }])) := by
  have C0 := Lib.hid c0
  unfold zero10 at c0
  have d0 := cell_of_row w p 0 _ _ _ c0; have e0 := frozen_of_row w p 0 _ _ c0
  have d1 := cell_of_row w q 0 _ _ _ c1; have e1 := frozen_of_row w q 0 _ _ c1
  have d2 := cell_of_row w r 0 _ _ _ c2; have e2 := frozen_of_row w r 0 _ _ c2
  have hp := lt_of_block c0
  have hq := lt_of_block c1
  have hr := lt_of_block c2
  have hta : ∀ w, (Instr.typeAssert (.iface 65 (.agg #[.int .i64 er, .int .i64 ln])) 20 65 false).run Tryz.prog w = .ok (.agg #[.int .i64 er, .int .i64 ln]) w := fun w => by kernel_rfl
  have hnn : ∀ w v, (binOp .neq 20 (.iface 65 v) .nilIface).run Tryz.prog w = .ok (.bool true) w := fun w v => run_neq_held_nil w _ _ _ (by kernel_rfl)
  refine callsDIn_of_wpS Tryz.func27 rfl fun c₀ cs hu => ?_
  apply wpS_seq
  apply wpS_region
  simp [wpOpsS, go_sem, recoverD, hu, Tryz.ntmps27, Exit.thenS]
  simp only [List.size_toArray, List.length_cons, List.length_nil, Nat.reduceAdd, Nat.reduceSub, Array.replicate_succ, Array.replicate_zero, List.push_toArray, List.append_toArray, List.nil_append, List.cons_append, List.setIfInBounds_toArray, List.set_cons_zero, List.set_cons_succ]
  refine wpS_of_wp ?_
  clear hu
  go_wp2
  have a0 := cell_of_row w p 0 _ _ _ c0
  have a1 := cell_of_row w p 1 _ _ _ c0
  have a2 := cell_of_row w p 2 _ _ _ c0
  have a3 := cell_of_row w p 3 _ _ _ c0
  have a4 := cell_of_row w p 4 _ _ _ c0
  have a5 := cell_of_row w p 5 _ _ _ c0
  have a6 := cell_of_row w p 6 _ _ _ c0
  have a7 := cell_of_row w p 7 _ _ _ c0
  have a8 := cell_of_row w p 8 _ _ _ c0
  have a9 := cell_of_row w p 9 _ _ _ c0
  have f0 := frozen_of_row w p 0 _ _ c0
  have f1 := frozen_of_row w p 1 _ _ c0
  have f2 := frozen_of_row w p 2 _ _ c0
  have f3 := frozen_of_row w p 3 _ _ c0
  have f4 := frozen_of_row w p 4 _ _ c0
  have f5 := frozen_of_row w p 5 _ _ c0
  have f6 := frozen_of_row w p 6 _ _ c0
  have f7 := frozen_of_row w p 7 _ _ c0
  have f8 := frozen_of_row w p 8 _ _ c0
  have f9 := frozen_of_row w p 9 _ _ c0
  go_region
  all_goals go_wp2
  clear a0 a1 a2 a3 a4 a5 a6 a7 a8 a9 f0 f1 f2 f3 f4 f5 f6 f7 f8 f9
  obtain ⟨W1, hW1⟩ : ∃ W1, W1 = ((((((((((w.setCell ⟨p, 0, none⟩ (.int .i64 0)).setCell ⟨p, 1, none⟩ (.int .i64 0)).setCell ⟨p, 2, none⟩ (.int .i64 0)).setCell ⟨p, 3, none⟩ (.int .i64 0)).setCell ⟨p, 4, none⟩ (.int .i64 0)).setCell ⟨p, 5, none⟩ (.int .i64 0)).setCell ⟨p, 6, none⟩ (.slice none 0 0)).setCell ⟨p, 7, none⟩ (.slice none 0 0)).setCell ⟨p, 8, none⟩ (.slice none 0 0)).setCell ⟨p, 9, none⟩ (.int .i64 0)) := ⟨_, rfl⟩
  rw [← hW1]
  obtain ⟨t1, t2, t3⟩ := ten_set c0 b1 W1 hW1
  clear hW1
  have j1 := (t3 q (Ne.symm n1)).trans c1
  have j2 := (t3 r (Ne.symm n2)).trans c2
  have m1 : (W1.setCell ⟨q, 0, none⟩ (.int .i64 ln)).heap[q]? = some (.cells #[.int .i64 ln] 3) := by rw [heap_setCell_same W1 q 0 _ _ _ j1]; rfl
  have m2 : (W1.setCell ⟨q, 0, none⟩ (.int .i64 ln)).heap[r]? = some (.cells #[.int .i64 x2] 30) := (heap_setCell_other _ ⟨q, 0, none⟩ r _ (Ne.symm n3)).trans j2
  have m0 : (W1.setCell ⟨q, 0, none⟩ (.int .i64 ln)).heap[p]? = some (.cells zero10 29) := (heap_setCell_other _ ⟨q, 0, none⟩ p _ n1).trans t1
  have l2 : ((W1.setCell ⟨q, 0, none⟩ (.int .i64 ln)).setCell ⟨r, 0, none⟩ (.int .i64 er)).heap[r]? = some (.cells #[.int .i64 er] 30) := by rw [heap_setCell_same _ r 0 _ _ _ m2]; rfl
  have l1 := (heap_setCell_other (W1.setCell ⟨q, 0, none⟩ (.int .i64 ln)) ⟨r, 0, none⟩ q (.int .i64 er) n3).trans m1
  have l0 := (heap_setCell_other (W1.setCell ⟨q, 0, none⟩ (.int .i64 ln)) ⟨r, 0, none⟩ p (.int .i64 er) n2).trans m0
  have hB2 := (t2.setCell (p := ⟨q, 0, none⟩) b2 (.int .i64 ln)).setCell (p := ⟨r, 0, none⟩) b3 (.int .i64 er)
  cases c₀
  simp only [bodyPostS]
  refine ⟨trivial, _, rfl, .tuple #[], by simp [results, Tryz.results27], rfl, rfl, (Below.heap_alloc _ _ p (lt_of_block l0)).trans l0, (Below.heap_alloc _ _ q (lt_of_block l1)).trans l1, (Below.heap_alloc _ _ r (lt_of_block l2)).trans l2, (hB2.alloc (Nat.le_trans b2 (Nat.le_of_lt (lt_of_block l1))) _).drew⟩
/-- what is asked of the frame's slots -/
structure Slots (N : Nat) (tm : Array Value) : Prop where
  s2 : tm[2]? = some (.pointer (some ⟨N, 0, none⟩))
  s3 : tm[3]? = some (.pointer (some ⟨N + 1, 0, none⟩))
  s4 : tm[4]? = some (.pointer (some ⟨N + 1 + 1, 0, none⟩))
def zeroSc : Value := .agg #[.int .i64 0, .int .i64 0, .int .i64 0, .int .i64 0, .int .i64 0, .int .i64 0, .slice none 0 0, .slice none 0 0, .slice none 0 0, .int .i64 0]
def stV (st : SS) (vs vp vk : Value) : Value := .agg #[.int .i64 (st.c.getD 0 0), .int .i64 (st.c.getD 1 0), .int .i64 (st.c.getD 2 0), .int .i64 (st.c.getD 3 0), .int .i64 (st.c.getD 4 0), .int .i64 (st.c.getD 5 0), vs, vp, vk, .int .i64 st.drain]
/-- what a call of Parse comes to -/
def PDoes (t : List UInt8) (w : World) (e : Ending) (w' : World) : Prop :=
  ∃ res, ParseR t res ∧ match res with
    | .error (er, ln) => e = .returned (.tuple #[zeroSc, .int .i64 ln, .int .i64 er]) ∧ Below w.heap.size w w'
    | .ok st => ∃ vs vp vk vb pv, e = .returned (.tuple #[stV st vs vp vk, .int .i64 0, .int .i64 0]) ∧ SRows w' w.heap.size vs vp vk vb pv st ∧ Below w.heap.size w w'
/-- the deferred calls of Parse behind its range -/
def dfs (N D : Nat) : List Deferred := [{ target := .collected D, args := #[] }, { target := .fn (.func 27) #[.pointer (some ⟨N, 0, none⟩), .pointer (some ⟨N + 1, 0, none⟩), .pointer (some ⟨N + 1 + 1, 0, none⟩)], args := #[] }]
theorem run_results {N : Nat} {tm : Array Value} {w : World} (h : Slots N tm) {c0 : Array Value} {v1 v2 : Value} (g0 : w.heap[N]? = some (.cells c0 29)) (hc : c0.size = 10) (g1 : w.heap[N + 1]? = some (.cells #[v1] 3)) (g2 : w.heap[N + 1 + 1]? = some (.cells #[v2] 30)) :
    (results Tryz.f13 tm).run Tryz.prog w = .ok (.tuple #[.agg c0, v1, v2]) w := by
  obtain ⟨s2, s3, s4⟩ := h
  obtain ⟨l0, l1, l2, l3, l4, l5, l6, l7, l8, l9, rfl⟩ : ∃ a b c d e f g h i j, c0 = #[a, b, c, d, e, f, g, h, i, j] := by
    obtain ⟨l⟩ := c0
    match l, hc with
    | [a, b, c, d, e, f, g, h, i, j], _ => exact ⟨a, b, c, d, e, f, g, h, i, j, rfl⟩
  have a0 := cell_of_row w N 0 _ _ _ g0
  have a1 := cell_of_row w N 1 _ _ _ g0
  have a2 := cell_of_row w N 2 _ _ _ g0
  have a3 := cell_of_row w N 3 _ _ _ g0
  have a4 := cell_of_row w N 4 _ _ _ g0
  have a5 := cell_of_row w N 5 _ _ _ g0
  have a6 := cell_of_row w N 6 _ _ _ g0
  have a7 := cell_of_row w N 7 _ _ _ g0
  have a8 := cell_of_row w N 8 _ _ _ g0
  have a9 := cell_of_row w N 9 _ _ _ g0
  have b0 := cell_of_row w _ 0 _ _ _ g1
  have b1 := cell_of_row w _ 0 _ _ _ g2
  simp [results, Tryz.results13, go_sem, s2, s3, s4, a0, a1, a2, a3, a4, a5, a6, a7, a8, a9, b0, b1]
  done
/-- Parse leaves over a fault -/
theorem leave_fault {t : List UInt8} {w W : World} {tm : Array Value} {D : Nat} {er ln : Int} (hs : Slots w.heap.size tm) (hK : W.heap[D]? = some (.deferred (some []))) (hD : w.heap.size + 1 + 1 + 1 ≤ D) (hB : Below (resW w).heap.size (resW w) W) (hR : ParseR t (.error (er, ln))) :
    LeavesInM Fence.wide 3 Tryz.prog Tryz.f13 tm (PDoes t w) (dfs w.heap.size D) (.panicking [{ v := .iface 65 (.agg #[.int .i64 er, .int .i64 ln]), recovered := false }]) W := by
  have hB2 := hB.trans (below_putObj (W := W) (l := D) (o' := .deferred none) (by rw [resW_size]; exact hD))
  obtain ⟨q0, q1, q2, q3⟩ := res_ends hB2
  refine ⟨by simp, .inl ⟨_, _, rfl, run_takeDeferred hK, ?_⟩⟩
  refine ⟨by simp, .inr ⟨fun h => (by cases h), .func 27, #[.pointer (some ⟨w.heap.size, 0, none⟩), .pointer (some ⟨w.heap.size + 1, 0, none⟩), .pointer (some ⟨w.heap.size + 1 + 1, 0, none⟩)], 27, #[.pointer (some ⟨w.heap.size, 0, none⟩), .pointer (some ⟨w.heap.size + 1, 0, none⟩), .pointer (some ⟨w.heap.size + 1 + 1, 0, none⟩)], rfl, by simp [go_sem], fun _ _ => trivial, ?_⟩⟩
  obtain ⟨_, hc⟩ := scatch_fault 2 w.heap.size w.heap.size (w.heap.size + 1) (w.heap.size + 1 + 1) er ln (W.putObj D (.deferred none)) 0 0 q0 q1 q2 (by omega) (by omega) (by omega) (Nat.le_refl _) (by omega) (by omega)
  refine ⟨trivial, fun c cs hm hr => ?_⟩
  obtain ⟨e, u', w', fr, ⟨rfl, rfl, g0, g1, g2, g3⟩, s, k1, k2, k3⟩ := hc c cs hm hr
  refine ⟨_, _, w', fr, ?_, s, k1, k2, k3⟩
  refine ⟨_, run_results hs g0 rfl g1 g2, _, hR, ?_⟩
  exact ⟨rfl, q3.trans g3⟩
theorem stV_cells (st : SS) (vs vp vk : Value) : stV st vs vp vk = .agg #[.int .i64 (st.c.getD 0 0), .int .i64 (st.c.getD 1 0), .int .i64 (st.c.getD 2 0), .int .i64 (st.c.getD 3 0), .int .i64 (st.c.getD 4 0), .int .i64 (st.c.getD 5 0), vs, vp, vk, .int .i64 st.drain] := rfl
theorem SRows.high {w w' : World} {B N : Nat} {vs vp vk vb : Value} {pv : List SlP} {st : SS} (h : SRows w B vs vp vk vb pv st) (hN : N ≤ B) (hk : ∀ g, B ≤ g → w'.heap[g]? = w.heap[g]?) : SRows w' N vs vp vk vb pv st :=
  ⟨(h.os.at fun g hg => hk g (own_ge h.os hg)).lower hN, (h.op.at fun g hg => hk g (own_ge h.op hg)).lower hN, (h.ok.at fun g hg => hk g (own_ge h.ok hg)).lower hN, (h.ob.at fun g hg => hk g (own_ge h.ob hg)).lower hN, h.pl,
    fun j x p hx hp => own_lower (ownsRow_at (h.pr j x p hx hp) fun g hg => hk g (own_ge (h.pr j x p hx hp) hg)) hN⟩
/-- Parse leaves over no panic -/
theorem leave_fine {t : List UInt8} {w W : World} {tm : Array Value} {D : Nat} {st : SS} {vs vp vk vb : Value} {pv : List SlP} (hs : Slots w.heap.size tm) (hK : W.heap[D]? = some (.deferred (some [])))
    (g0 : W.heap[w.heap.size]? = some (.cells #[.int .i64 (st.c.getD 0 0), .int .i64 (st.c.getD 1 0), .int .i64 (st.c.getD 2 0), .int .i64 (st.c.getD 3 0), .int .i64 (st.c.getD 4 0), .int .i64 (st.c.getD 5 0), vs, vp, vk, .int .i64 st.drain] 29))
    (g1 : W.heap[w.heap.size + 1]? = some (.cells #[.int .i64 0] 3)) (g2 : W.heap[w.heap.size + 1 + 1]? = some (.cells #[.int .i64 0] 30)) (hB : Below w.heap.size w W) (hD : w.heap.size + 1 + 1 + 1 ≤ D) (hr : SRows W w.heap.size vs vp vk vb pv st) (hR : ParseR t (.ok st)) :
    LeavesInM Fence.wide 3 Tryz.prog Tryz.f13 tm (PDoes t w) (dfs w.heap.size D) .returning W := by
  have ne : ∀ (g : Nat) (c : Array Value) (ty : TypeId), W.heap[g]? = some (.cells c ty) → (W.putObj D (.deferred none)).heap[g]? = W.heap[g]? := fun g c ty hg => World.putObj_heap_other (fun e => by
    first
      | (rw [← e, hK] at hg; cases hg)
      | (rw [e, hK] at hg; cases hg))
  refine ⟨by simp, .inl ⟨_, _, rfl, run_takeDeferred hK, ?_⟩⟩
  refine ⟨by simp, .inr ⟨fun h => (by cases h), .func 27, #[.pointer (some ⟨w.heap.size, 0, none⟩), .pointer (some ⟨w.heap.size + 1, 0, none⟩), .pointer (some ⟨w.heap.size + 1 + 1, 0, none⟩)], 27, #[.pointer (some ⟨w.heap.size, 0, none⟩), .pointer (some ⟨w.heap.size + 1, 0, none⟩), .pointer (some ⟨w.heap.size + 1 + 1, 0, none⟩)], rfl, by simp [go_sem], fun _ _ => trivial, ?_⟩⟩
  obtain ⟨_, hc⟩ := scatch_idle 2 ⟨w.heap.size, 0, none⟩ ⟨w.heap.size + 1, 0, none⟩ ⟨w.heap.size + 1 + 1, 0, none⟩ (W.putObj D (.deferred none))
  refine ⟨trivial, fun c cs hm hr' => ?_⟩
  obtain ⟨e, u', w', fr, ⟨rfl, rfl, rfl⟩, s, k1, k2, k3⟩ := hc c cs hm hr'
  refine ⟨_, _, _, fr, ?_, s, k1, k2, k3⟩
  refine ⟨_, run_results hs ((ne _ _ _ g0).trans g0) rfl ((ne _ _ _ g1).trans g1) ((ne _ _ _ g2).trans g2), _, hR, vs, vp, vk, vb, pv, rfl, hr.at fun g c ty hg _ => ne g c ty hg, hB.trans (below_putObj (by omega))⟩
end Go.Proofs.YtoiokbdipcecnaaGreatDoor
