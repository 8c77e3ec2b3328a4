/-
  PLAIN LAW: the printed script's text, its lines; no line is a deed; it is read as the script, with noise and without. Condition: its Check answers 0; its numbers lie in 64 bits.
  And: PLAIN LAW: a text with noise put in behind its lines. No condition.
  And: PLAIN LAW: a printed script, blank lines put in, is read as that script. Condition: its Check answers 0; its numbers lie in 64 bits.
  And: PLAIN LAW: a program's lines in a script, blank ones among them, read. Condition: the program's Check answers 0.
  And: PLAIN LAW: the rows of a printed script, read: config, start, thread, picks, drain. No condition but the numbers' own bounds.
  And: PLAIN LAW: a printed script with blank lines put in is read as that script. Condition: its Check answers 0.
  And: What stands between blanks in a text of ASCII: by one walk over its letters. No condition.
-/
import Derived.Test.YtoiokbdipcecnaaGreatDoorScrEndM
import Derived.Test.YtoiokbdipcecnaaGreatDoorCodePrint
import Derived.Test.YtoiokbdipcecnaaGreatDoorText
import Derived.Laws.RangeString
import Derived.Test.YtoiokbdipcecnaaGreatDoorScrAwake
import Derived.Test.YtoiokbdipcecnaaGreatDoorScrPrint
import Derived.Test.YtoiokbdipcecnaaGreatDoorBackS
namespace Go.Proofs.YtoiokbdipcecnaaGreatDoor
open Go.RowKit
set_option maxRecDepth 100000

def blankU (c : UInt8) : Bool := c == 32 || c == 9
def tokA : Option (List UInt8) → List UInt8 → List (List UInt8)
  | none, [] => []
  | some t, [] => [t]
  | none, c :: r => if blankU c then tokA none r else tokA (some [c]) r
  | some t, c :: r => if blankU c then t :: tokA none r else tokA (some (t ++ [c])) r
theorem blank_byte (c : UInt8) : blankP c.toNat = blankU c := by
  unfold blankP blankU
  have e1 : (c.toNat == 32) = (c == 32) := by
    rw [Bool.eq_iff_iff, beq_iff_eq, beq_iff_eq]
    exact ⟨fun h => UInt8.toNat_inj.1 h, fun h => by rw [h]; rfl⟩
  have e2 : (c.toNat == 9) = (c == 9) := by
    rw [Bool.eq_iff_iff, beq_iff_eq, beq_iff_eq]
    exact ⟨fun h => UInt8.toNat_inj.1 h, fun h => by rw [h]; rfl⟩
  rw [e1, e2]
theorem extract_S (l : List UInt8) (a b : Nat) : ((S l).extract a b).data.toList = (l.take b).drop a := by
  rw [ByteArray.data_extract]
  simp [S, List.extract_eq_take_drop, List.drop_take]
theorem spans_tok (l : List UInt8) (ha : Asc l) : ∀ (f pos : Nat) (st : Option Nat) (acc : List (Nat × Nat)), pos + f = l.length → (∀ a, st = some a → a < pos) →
    (Lib.closeSpans (S l) (Lib.spansFromP blankP (S l) f pos st acc)).map (fun x => (l.take x.2).drop x.1) = acc.map (fun x => (l.take x.2).drop x.1) ++ tokA (st.map fun a => (l.take pos).drop a) (l.drop pos)
  | 0, pos, st, acc, hp, _ => by
    have hsz : (S l).size = l.length := S_size _
    have e : l.drop pos = [] := List.drop_eq_nil_of_le (by omega)
    rw [e]
    unfold Lib.spansFromP Lib.closeSpans
    cases st with
    | none => simp [tokA]
    | some a =>
      have : pos = l.length := by omega
      subst this
      simp [tokA, hsz]
  | f + 1, pos, st, acc, hp, hst => by
    have hsz : (S l).size = l.length := S_size _
    have hlt : pos < l.length := by omega
    have hlt' : pos < (S l).size := by omega
    have hb : (S l)[pos]'hlt' = l[pos] := by simp [S, ByteArray.getElem_eq_getElem_data]; rfl
    have hdec : Utf8.decode (S l) pos = ((l[pos]).toNat, 1) := by
      have := decode_ascii (S l) pos hlt' (by rw [hb]; exact ha _ (List.getElem_mem _))
      rw [this, hb]
    have hd : l.drop pos = l[pos] :: l.drop (pos + 1) := List.drop_eq_getElem_cons hlt
    have htk : l.take (pos + 1) = l.take pos ++ [l[pos]] := List.take_succ_eq_append_getElem hlt
    unfold Lib.spansFromP
    rw [if_pos hlt', hdec]
    simp only
    rw [blank_byte, hd]
    cases hbl : blankU l[pos] with
    | true =>
      rw [if_pos rfl]
      cases st with
      | none =>
        simp only
        rw [spans_tok l ha f (pos + 1) none acc (by omega) (fun a h => by cases h)]
        simp [tokA, hbl]
      | some a =>
        simp only
        rw [spans_tok l ha f (pos + 1) none (acc ++ [(a, pos)]) (by omega) (fun a h => by cases h)]
        simp [tokA, hbl]
    | false =>
      rw [if_neg (by simp)]
      cases st with
      | none =>
        simp only
        rw [spans_tok l ha f (pos + 1) (some pos) acc (by omega) (fun a h => by injection h with h; omega)]
        have : (l.take (pos + 1)).drop pos = [l[pos]] := by rw [htk, List.drop_append_of_le_length (by simp; omega)]; simp
        simp [tokA, hbl, this]
      | some a =>
        have h1 := hst a rfl
        simp only
        rw [spans_tok l ha f (pos + 1) (some a) acc (by omega) (fun b h => by injection h with h; omega)]
        have : (l.take (pos + 1)).drop a = (l.take pos).drop a ++ [l[pos]] := by rw [htk, List.drop_append_of_le_length (by simp; omega)]
        simp [tokA, hbl, this]
theorem fieldsL_tok (l : List UInt8) (ha : Asc l) : fieldsL l = tokA none l := by
  have h := spans_tok l ha l.length 0 none [] (by omega) (fun a h => by cases h)
  have hsz : (S l).size = l.length := S_size _
  unfold fieldsL Lib.goFieldsP Lib.spansOfP
  rw [hsz, List.map_map]
  rw [List.map_nil, List.nil_append, List.drop_zero] at h
  rw [← show tokA (Option.map (fun a => List.drop a (List.take 0 l)) none) l = tokA none l from rfl, ← h]
  exact List.map_congr_left fun x _ => extract_S l x.1 x.2
/-- a stretch without blanks -/
theorem tokA_some : ∀ (w t : List UInt8) (r : List UInt8), (∀ b ∈ w, blankU b = false) → tokA (some t) (w ++ r) = tokA (some (t ++ w)) r
  | [], t, r, _ => by simp
  | c :: w, t, r, h => by
    rw [List.cons_append, tokA, if_neg (by rw [h c (by simp)]; simp), tokA_some w (t ++ [c]) r (fun b hb => h b (by simp [hb]))]
    simp
theorem tokA_word (w r : List UInt8) (hne : w ≠ []) (h : ∀ b ∈ w, blankU b = false) : tokA none (w ++ r) = tokA (some w) r := by
  cases w with
  | nil => exact absurd rfl hne
  | cons c w =>
    rw [List.cons_append, tokA, if_neg (by rw [h c (by simp)]; simp), tokA_some w [c] r (fun b hb => h b (by simp [hb]))]
    simp
theorem itoa_blank (n : Int) : ∀ b ∈ Lib.itoa n, blankU b = false := fun b hb => by
  have := itoa_byte n b hb
  have h1 : b ≠ 32 := byte_not this 32 (by decide)
  have h2 : b ≠ 9 := byte_not this 9 (by decide)
  simp [blankU, h1, h2]
def numsT' (ns : List Int) : List UInt8 := ns.flatMap fun n => 32 :: Lib.itoa n
theorem tokA_nums : ∀ (ns : List Int) (w : List UInt8), tokA (some w) (numsT' ns) = w :: ns.map Lib.itoa
  | [], w => rfl
  | n :: ns, w => by
    show tokA (some w) (32 :: (Lib.itoa n ++ numsT' ns)) = _
    rw [tokA, if_pos (by decide), tokA_word _ _ (itoa_ne n) (itoa_blank n), tokA_nums ns]
    rfl
end Go.Proofs.YtoiokbdipcecnaaGreatDoor
namespace Go.Proofs.YtoiokbdipcecnaaGreatDoor
open Go.RowKit
set_option maxRecDepth 100000

abbrev Ln := List UInt8
def BlankL (b : Ln) : Prop := bareL b = [] ∧ ∀ c ∈ b, c ≠ 10
/-- A with blank lines put in, of so many bytes -/
inductive Noised : Nat → List Ln → List Ln → Prop
  | nil : Noised 0 [] []
  | keep (x : Ln) {n : Nat} {A M : List Ln} : Noised n A M → Noised n (x :: A) (x :: M)
  | add (b : Ln) {n : Nat} {A M : List Ln} : BlankL b → Noised n A M → Noised (b.length + 1 + n) A (b :: M)
theorem Noised.app {n m : Nat} {A M : List Ln} (h : Noised n A M) {B N : List Ln} (h2 : Noised m B N) : Noised (n + m) (A ++ B) (M ++ N) := by
  induction h with
  | nil => rw [Nat.zero_add]; exact h2
  | keep x _ ih => exact .keep x ih
  | add b hb _ ih => rw [Nat.add_assoc]; exact .add b hb ih
theorem Noised.blank {n : Nat} {A M : List Ln} (h : Noised n A M) {b : Ln} (hb : BlankL b) : Noised (n + (b.length + 1)) A (M ++ [b]) := by
  have := h.app (.add b hb .nil)
  rwa [List.append_nil] at this
theorem Noised.line {n : Nat} {A M : List Ln} (h : Noised n A M) (x : Ln) : Noised n (A ++ [x]) (M ++ [x]) := h.app (.keep x .nil)
theorem Noised.split {n : Nat} {C M : List Ln} (h : Noised n C M) : ∀ A B, C = A ++ B → ∃ n1 n2 M1 M2, n = n1 + n2 ∧ M = M1 ++ M2 ∧ Noised n1 A M1 ∧ Noised n2 B M2 := by
  induction h with
  | nil =>
    intro A B e
    obtain ⟨rfl, rfl⟩ := List.append_eq_nil_iff.1 e.symm
    exact ⟨0, 0, [], [], rfl, rfl, .nil, .nil⟩
  | keep x hk ih =>
    intro A B e
    cases A with
    | nil =>
      simp only [List.nil_append] at e
      subst e
      exact ⟨0, _, [], _, (Nat.zero_add _).symm, rfl, .nil, .keep x hk⟩
    | cons a A =>
      simp only [List.cons_append, List.cons.injEq] at e
      obtain ⟨rfl, e⟩ := e
      obtain ⟨n1, n2, M1, M2, rfl, rfl, h1, h2⟩ := ih A B e
      exact ⟨n1, n2, x :: M1, M2, rfl, rfl, .keep x h1, h2⟩
  | add b hb _ ih =>
    intro A B e
    obtain ⟨n1, n2, M1, M2, rfl, rfl, h1, h2⟩ := ih A B e
    exact ⟨b.length + 1 + n1, n2, b :: M1, M2, (Nat.add_assoc _ _ _).symm, rfl, .add b hb h1, h2⟩
theorem linesS_app : ∀ (M N : List Ln) (st : SS) (k : Nat), linesS st k (M ++ N) = match linesS st k M with
    | .error x => .error x
    | .ok st' => linesS st' (k + M.length) N
  | [], N, st, k => rfl
  | x :: M, N, st, k => by
    rw [List.cons_append, linesS, linesS]
    cases lineS st ((k : Int) + 1) x with
    | error e => rfl
    | ok st' =>
      simp only
      rw [linesS_app M N st' (k + 1), List.length_cons, Nat.add_assoc, Nat.add_comm 1]
/-- lines, with blank ones among them, lead from one kind of state to another -/
def Walks (R : Nat → SS → Prop) (A : List Ln) (R' : Nat → SS → Prop) : Prop := ∀ n M, Noised n A M → ∀ m st k, R m st → m + n ≤ 4096 → ∃ st', linesS st k M = .ok st' ∧ R' (m + n) st'
def Still (R : Nat → SS → Prop) : Prop := ∀ m st i b, R m st → BlankL b → 0 < i → m + (b.length + 1) ≤ 4096 → ∃ st', lineS st i b = .ok st' ∧ R (m + (b.length + 1)) st'
theorem linesS_ok {st st' : SS} {k : Nat} {x : Ln} {M : List Ln} (h : lineS st ((k : Int) + 1) x = .ok st') : linesS st k (x :: M) = linesS st' (k + 1) M := by
  rw [linesS, h]
theorem walks_nil {R : Nat → SS → Prop} (hs : Still R) : Walks R [] R := fun n M h => by
  have : ∀ n C M, Noised n C M → C = [] → ∀ m st k, R m st → m + n ≤ 4096 → ∃ st', linesS st k M = .ok st' ∧ R (m + n) st' := by
    intro n C M h
    induction h with
    | nil => intro _ m st k hr _; exact ⟨st, rfl, hr⟩
    | keep x _ _ => intro e; cases e
    | add b hb _ ih =>
      intro e m st k hr hm
      obtain ⟨st1, h1, h2⟩ := hs m st ((k : Int) + 1) b hr hb (by omega) (by omega)
      rw [linesS_ok h1, ← Nat.add_assoc]
      exact ih e _ st1 (k + 1) h2 (by omega)
  exact this n [] M h rfl
theorem walks_cons {R R1 R' : Nat → SS → Prop} {t : Ln} {A : List Ln} (hs : Still R) (ht : ∀ m st i, R m st → 0 < i → m ≤ 4096 → ∃ st', lineS st i t = .ok st' ∧ R1 m st') (hw : Walks R1 A R') : Walks R (t :: A) R' := fun n M h => by
  have : ∀ n C M, Noised n C M → C = t :: A → ∀ m st k, R m st → m + n ≤ 4096 → ∃ st', linesS st k M = .ok st' ∧ R' (m + n) st' := by
    intro n C M h
    induction h with
    | nil => intro e; cases e
    | keep x hk _ =>
      intro e m st k hr hm
      injection e with e1 e2
      subst e1; subst e2
      obtain ⟨st1, h1, h2⟩ := ht m st ((k : Int) + 1) hr (by omega) (by omega)
      rw [linesS_ok h1]
      exact hw _ _ hk m st1 (k + 1) h2 hm
    | add b hb _ ih =>
      intro e m st k hr hm
      obtain ⟨st1, h1, h2⟩ := hs m st ((k : Int) + 1) b hr hb (by omega) (by omega)
      rw [linesS_ok h1, ← Nat.add_assoc]
      exact ih e _ st1 (k + 1) h2 (by omega)
  exact this n _ M h rfl
theorem Walks.app {R R1 R' : Nat → SS → Prop} {A B : List Ln} (h1 : Walks R A R1) (h2 : Walks R1 B R') : Walks R (A ++ B) R' := fun n M h m st k hr hm => by
  obtain ⟨n1, n2, M1, M2, rfl, rfl, k1, k2⟩ := h.split A B rfl
  obtain ⟨st1, e1, r1⟩ := h1 n1 M1 k1 m st k hr (by omega)
  obtain ⟨st2, e2, r2⟩ := h2 n2 M2 k2 _ st1 (k + M1.length) r1 (by omega)
  exact ⟨st2, by rw [linesS_app, e1]; exact e2, by rw [← Nat.add_assoc]; exact r2⟩
theorem fields_nil : fieldsL [] = [] := by rw [fieldsL_tok [] (fun c h => by cases h)]; rfl
theorem lineS_blank {st : SS} {i : Int} {b : Ln} (h : st.opn = 0) (hb : BlankL b) : lineS st i b = .ok st := by
  unfold lineS
  rw [if_neg (by omega), hb.1, fields_nil, if_pos rfl]
theorem lineS_blank_in {st : SS} {i : Int} {b : Ln} (h : 0 < st.opn) (hb : BlankL b) : lineS st i b = .ok { st with block := st.block ++ [(i, b, [])] } := by
  unfold lineS
  rw [if_pos h, hb.1, fields_nil, if_neg (by decide)]
/-- what a reader has read so far, no program being open -/
structure Read (c s : List Int) (P : List Prog) (k : List Int) (d stage : Int) (_m : Nat) (st : SS) : Prop where
  c : st.c = c
  s : st.start = s
  P : st.progs = P
  k : st.picks = k
  d : st.drain = d
  g : st.stage = stage
  o : st.opn = 0
theorem still_read {c s : List Int} {P : List Prog} {k : List Int} {d stage : Int} : Still (Read c s P k d stage) := fun _ st _ _ hr hb _ _ => ⟨st, lineS_blank hr.o hb, ⟨hr.c, hr.s, hr.P, hr.k, hr.d, hr.g, hr.o⟩⟩
end Go.Proofs.YtoiokbdipcecnaaGreatDoor
namespace Go.Proofs.YtoiokbdipcecnaaGreatDoor
open Go.RowKit
set_option maxRecDepth 100000

theorem numsT_same (ns : List Int) : numsT' ns = numsT ns := rfl
theorem numsT_app (a b : List Int) : numsT (a ++ b) = numsT a ++ numsT b := by unfold numsT; rw [List.flatMap_append]
theorem numsT_bytes {ns : List Int} {b : UInt8} (h : b ∈ numsT ns) : b = 32 ∨ ∃ n, b ∈ Lib.itoa n := by
  unfold numsT at h
  obtain ⟨n, _, h2⟩ := List.mem_flatMap.1 h
  rcases List.mem_cons.1 h2 with h2 | h2
  · exact .inl h2
  · exact .inr ⟨n, h2⟩
theorem itoa_asc (n : Int) : Asc (Lib.itoa n) := fun b hb => by
  have := itoa_byte n b hb
  omega
structure Wd (word : Ln) : Prop where
  ne : word ≠ []
  pl : Plain word
  asc : Asc word
theorem row_byte {word : Ln} {ns : List Int} (hw : Wd word) {b : UInt8} (h : b ∈ word ++ numsT ns) : b ≠ 10 ∧ b ≠ 59 ∧ b.toNat < 128 := by
  rcases List.mem_append.1 h with h | h
  · exact ⟨(hw.pl b h).2.2.1, (hw.pl b h).2.2.2.2, hw.asc b h⟩
  · rcases numsT_bytes h with rfl | ⟨n, h⟩
    · decide
    · exact ⟨(itoa_plain n b h).2.2.1, (itoa_plain n b h).2.2.2.2, itoa_asc n b h⟩
theorem row_last {word : Ln} {ns : List Int} (hw : Wd word) {c : UInt8} (h : (word ++ numsT ns).getLast? = some c) : [32, 9].contains c = false := by
  rcases List.eq_nil_or_concat ns with rfl | ⟨ms, n, rfl⟩
  · have e : word ++ numsT [] = word := List.append_nil _
    rw [e] at h
    exact hw.pl.blank (last_mem h)
  · rw [List.concat_eq_append, numsT_app, show numsT [n] = [32] ++ Lib.itoa n from by simp [numsT], ← List.append_assoc, ← List.append_assoc, getLast_app (itoa_ne n)] at h
    exact (itoa_plain n).blank (last_mem h)
theorem row_bare {word : Ln} {ns : List Int} (hw : Wd word) : bareL (word ++ numsT ns) = word ++ numsT ns := by
  unfold bareL
  rw [cut_absent (fun b hb => (row_byte hw hb).2.1)]
  refine trimS_ends (fun c hc => ?_) (fun c hc => row_last hw hc)
  cases hd : word with
  | nil => exact absurd hd hw.ne
  | cons a r =>
    rw [hd] at hc
    injection hc with hc
    subst hc
    exact hw.pl.blank (by rw [hd]; simp)
theorem row_fields {word : Ln} {ns : List Int} (hw : Wd word) : fieldsL (bareL (word ++ numsT ns)) = word :: ns.map Lib.itoa := by
  rw [row_bare hw, fieldsL_tok _ (fun b hb => (row_byte hw hb).2.2), tokA_word _ _ hw.ne, ← numsT_same, tokA_nums]
  intro b hb
  have := hw.pl b hb
  simp [blankU, this.1, this.2.1]
theorem numsL_itoa : ∀ {ns : List Int}, InZ ns → numsL (ns.map Lib.itoa) = some ns
  | [], _ => rfl
  | n :: ns, h => by
    have h1 := h n (by simp)
    rw [List.map_cons, numsL, numberB_itoa n h1.1 h1.2, if_pos rfl, numsL_itoa (fun x hx => h x (List.mem_cons_of_mem _ hx))]
    rfl
theorem lineS_row {st : SS} {i : Int} {word : Ln} {ns : List Int} (hw : Wd word) (ho : st.opn = 0) : lineS st i (word ++ numsT ns) = atLine i (outS st i (word :: ns.map Lib.itoa)) := by
  unfold lineS
  rw [if_neg (by omega), row_fields hw, if_neg (by simp)]
def cfgW : Ln := [99, 111, 110, 102, 105, 103]
def startW : Ln := [115, 116, 97, 114, 116]
def threadW : Ln := [116, 104, 114, 101, 97, 100]
def picksW : Ln := [112, 105, 99, 107, 115]
def drainW : Ln := [100, 114, 97, 105, 110]
theorem wd_of {l : Ln} (h1 : l ≠ []) (h2 : plainB l = true) (h3 : ascB l = true) : Wd l := ⟨h1, plain_of h2, ascB_asc h3⟩
theorem wd_cfg : Wd cfgW := wd_of (by decide) (by decide) (by decide)
theorem wd_start : Wd startW := wd_of (by decide) (by decide) (by decide)
theorem wd_thread : Wd threadW := wd_of (by decide) (by decide) (by decide)
theorem wd_picks : Wd picksW := wd_of (by decide) (by decide) (by decide)
theorem wd_drain : Wd drainW := wd_of (by decide) (by decide) (by decide)
theorem cfgB_N (c : List Int) : cfgB (cfgN c) = cfgB c := rfl
theorem walk_cfg {c : List Int} (h : cfgB c = true) : Walks (Read [] [] [] [] 0 0) [cfgW ++ numsT (cfgN c)] (Read (cfgN c) [] [] [] 0 1) :=
  walks_cons still_read (fun _ st i hr _ _ => by
    refine ⟨{ st with c := cfgN c, stage := 1 }, ?_, ⟨rfl, hr.s, hr.P, hr.k, hr.d, rfl, hr.o⟩⟩
    rw [lineS_row wd_cfg hr.o]
    unfold outS
    rw [List.tail_cons, numsL_itoa (cfgB_in h).1]
    simp only [List.headD_cons, show wordN cfgW = 1 from by decide]
    unfold configS
    rw [if_neg (by rw [hr.g]; simp [cfgN]), cfgB_N, if_pos h]
    rfl) (walks_nil still_read)
theorem walk_start {c s : List Int} (hs : s ≠ []) (hi : InZ s) (hc : ¬ c.getD 0 0 < (s.length : Int)) : Walks (Read c [] [] [] 0 1) [startW ++ numsT s] (Read c s [] [] 0 1) :=
  walks_cons still_read (fun _ st i hr _ _ => by
    refine ⟨{ st with start := s }, ?_, ⟨hr.c, rfl, hr.P, hr.k, hr.d, hr.g, hr.o⟩⟩
    rw [lineS_row wd_start hr.o]
    unfold outS
    rw [List.tail_cons, numsL_itoa hi]
    simp only [List.headD_cons, show wordN startW = 2 from by decide]
    unfold startS
    rw [if_neg (by rw [hr.g]; simp [hs]), hr.c, hr.s, List.nil_append, if_neg hc]
    rfl) (walks_nil still_read)
theorem walk_picks {c s : List Int} {P : List Prog} {k : List Int} (hk : k ≠ []) (hi : InZ k) (hl : k.length ≤ 65536) : Walks (Read c s P [] 0 2) [picksW ++ numsT k] (Read c s P k 0 3) :=
  walks_cons still_read (fun _ st i hr _ _ => by
    refine ⟨{ st with picks := k, stage := 3 }, ?_, ⟨hr.c, hr.s, hr.P, rfl, hr.d, rfl, hr.o⟩⟩
    rw [lineS_row wd_picks hr.o]
    unfold outS
    rw [List.tail_cons, numsL_itoa hi]
    simp only [List.headD_cons, show wordN picksW = 4 from by decide]
    unfold picksS
    rw [if_neg (by rw [hr.g]; simp [hk]), hr.k, List.nil_append, if_neg (by omega)]
    rfl) (walks_nil still_read)
theorem walk_drain {c s : List Int} {P : List Prog} {k : List Int} {d g : Int} (hg : g = 2 ∨ g = 3) (h0 : 0 ≤ d) (h1 : d ≤ 65536) : Walks (Read c s P k 0 g) [drainW ++ numsT [d]] (Read c s P k d 4) :=
  walks_cons still_read (fun _ st i hr _ _ => by
    refine ⟨{ st with drain := d, stage := 4 }, ?_, ⟨hr.c, hr.s, hr.P, hr.k, rfl, rfl, hr.o⟩⟩
    rw [lineS_row wd_drain hr.o]
    unfold outS
    rw [List.tail_cons, numsL_itoa (fun x hx => by simp at hx; subst hx; omega)]
    simp only [List.headD_cons, show wordN drainW = 5 from by decide]
    unfold drainS
    rw [if_neg (by rw [hr.g]; rcases hg with rfl | rfl <;> simp)]
    simp only [List.getD_cons_zero]
    rw [if_neg (by omega)]
    rfl) (walks_nil still_read)
end Go.Proofs.YtoiokbdipcecnaaGreatDoor
namespace Go.Proofs.YtoiokbdipcecnaaGreatDoor
open Go.RowKit
set_option maxRecDepth 100000

theorem Noised.no10 {n : Nat} {A M : List Ln} (h : Noised n A M) : (∀ x ∈ A, ∀ b ∈ x, b ≠ 10) → ∀ x ∈ M, ∀ b ∈ x, b ≠ 10 := by
  induction h with
  | nil => exact fun h => h
  | keep x _ ih => exact fun h y hy => (List.mem_cons.1 hy).elim (fun e => e ▸ h x (by simp)) (fun hy => ih (fun z hz => h z (List.mem_cons_of_mem _ hz)) y hy)
  | add b hb _ ih => exact fun h y hy => (List.mem_cons.1 hy).elim (fun e => e ▸ hb.2) (fun hy => ih h y hy)
theorem Noised.sum {n : Nat} {A M : List Ln} (h : Noised n A M) : sumT M = sumT A + n := by
  induction h with
  | nil => rfl
  | keep x _ ih => rw [sumT_cons, sumT_cons, ih]; omega
  | add b hb _ ih => rw [sumT_cons, ih]; omega
theorem lines_flat : ∀ M : List Ln, (∀ x ∈ M, ∀ b ∈ x, b ≠ 10) → linesL 10 (M.flatMap fun x => x ++ [10]) = M ++ [[]]
  | [], _ => rfl
  | x :: M, h => by
    rw [List.flatMap_cons, List.append_assoc, List.singleton_append, linesL_line (h x (by simp)), lines_flat M (fun y hy => h y (List.mem_cons_of_mem _ hy))]
    rfl
theorem readS_none {st : RS} {line : Int} {l0 : List UInt8} (h : Lib.trimS l0 [32, 9] = []) : readS st line l0 = .ok st := by
  unfold readS; simp only [h, List.isEmpty_nil, if_true]
theorem readAll_noised {n : Int} {l : List (Int × Int)} {q : Nat} {M : List Ln} (h : Noised q (l.map bodyOne) M) : ∀ (st : RS) (k : Nat), (∀ x ∈ l, Right n x) → st.l.length + l.length ≤ 400 → ∃ ls, readAll st k (M ++ [[]]) = .ok { st with l := st.l ++ l, lines := ls } := by
  have : ∀ q C M, Noised q C M → ∀ l : List (Int × Int), C = l.map bodyOne → ∀ (st : RS) (k : Nat), (∀ x ∈ l, Right n x) → st.l.length + l.length ≤ 400 → ∃ ls, readAll st k (M ++ [[]]) = .ok { st with l := st.l ++ l, lines := ls } := by
    intro q C M h
    induction h with
    | nil =>
      intro l e st k _ _
      obtain rfl := List.map_eq_nil_iff.1 e.symm
      exact ⟨st.lines, by rw [List.append_nil]; exact readAll_end st k⟩
    | keep x hk ih =>
      intro l e st k hR hn
      cases l with
      | nil => cases e
      | cons y r =>
        rw [List.map_cons] at e
        injection e with e1 e2
        have hx := hR y (by simp)
        have hn' : st.l.length + (r.length + 1) ≤ 400 := by simpa using hn
        have hr := hx.read st ((k + 1 : Nat) : Int)
        rw [if_neg (by omega)] at hr
        obtain ⟨ls, hls⟩ := ih r e2 { st with l := st.l ++ [y], lines := st.lines ++ [((k + 1 : Nat) : Int)] } (k + 1) (fun z hz => hR z (List.mem_cons_of_mem _ hz)) (by simp; omega)
        refine ⟨ls, ?_⟩
        rw [List.cons_append, readAll, e1, cut_absent (fun b hb => (hx.body_plain b hb).2), hr]
        simp only
        rw [hls]
        simp
    | add b hb _ ih =>
      intro l e st k hR hn
      obtain ⟨ls, hls⟩ := ih l e st (k + 1) hR hn
      refine ⟨ls, ?_⟩
      rw [List.cons_append, readAll, readS_none hb.1]
      exact hls
  exact this q _ M h l rfl
theorem sumT_body : ∀ {l : List (Int × Int)}, InI l → sumT (l.map bodyOne) ≤ l.length * 29
  | l, h => by
    have h1 := printL_len h
    have e : ∀ l : List (Int × Int), sumT (l.map bodyOne) = (printL l).length := by
      intro l
      induction l with
      | nil => rfl
      | cons x r ih =>
        have e : printL (x :: r) = bodyOne x ++ 10 :: printL r := by simp [printL, printOne_body]
        rw [List.map_cons, sumT_cons, ih, e, List.length_append, List.length_cons]
        omega
    rw [e]
    exact h1
theorem flat_len : ∀ M : List Ln, (M.flatMap fun x => x ++ [10]).length = sumT M
  | [] => rfl
  | x :: M => by rw [List.flatMap_cons, List.length_append, flat_len M, sumT_cons]; simp
theorem parse_noised {l : List (Int × Int)} (h : (checkL l).1 = 0) (hi : InI l) {q : Nat} {M : List Ln} (hM : Noised q (l.map bodyOne) M) (hq : q ≤ 4096) : parseL (M.flatMap fun x => x ++ [10]) = .ok l := by
  obtain ⟨h1, h2, _⟩ := checkL_ok h
  have hR := right_all h hi
  have hs := hM.sum
  have hb := sumT_body hi
  have h10 := hM.no10 (fun x hx b hb => by
    obtain ⟨y, hy, rfl⟩ := List.mem_map.1 hx
    exact ((hR y hy).body_plain b hb).1)
  obtain ⟨ls, hls⟩ := readAll_noised hM ⟨[], [], [], []⟩ 0 hR (by simpa using h2)
  unfold parseL
  rw [if_neg (by rw [flat_len]; omega), lines_flat M h10, hls]
  simp only [placesS, List.nil_append]
  rw [placesN_none ls l.length l.length 0 l (fun x hx h3 => by
    have := (hR x hx).may
    rw [h3] at this
    exact (place_ok this).2)]
  simp only
  rw [if_neg (by intro e; rw [List.isEmpty_iff] at e; subst e; simp at h1)]
/-- a program is open: these lines were read, blank ones among them -/
structure OpenR (c s : List Int) (P : List Prog) (A : List Ln) (m : Nat) (st : SS) : Prop where
  c : st.c = c
  s : st.start = s
  P : st.progs = P
  k : st.picks = []
  d : st.drain = 0
  g : st.stage = 2
  o : 0 < st.opn
  b : ∃ q, q ≤ m ∧ Noised q A (st.block.map fun x => x.2.1)
  v : ∀ x ∈ st.block, x.2.2 = bareL x.2.1 ∧ 0 < x.1
theorem OpenR.more {c s : List Int} {P : List Prog} {A : List Ln} {m : Nat} {st : SS} (h : OpenR c s P A m st) {A' : List Ln} {m' : Nat} {i : Int} {t : Ln} (hi : 0 < i)
    (hb : ∀ q, q ≤ m → Noised q A (st.block.map fun x => x.2.1) → ∃ q', q' ≤ m' ∧ Noised q' A' ((st.block.map fun x => x.2.1) ++ [t])) : OpenR c s P A' m' { st with block := st.block ++ [(i, t, bareL t)] } := by
  obtain ⟨q, h1, h2⟩ := h.b
  refine ⟨h.c, h.s, h.P, h.k, h.d, h.g, h.o, ?_, ?_⟩
  · simp only [List.map_append, List.map_cons, List.map_nil]
    exact hb q h1 h2
  · intro x hx
    rcases List.mem_append.1 hx with hx | hx
    · exact h.v x hx
    · simp at hx
      subst hx
      exact ⟨rfl, hi⟩
theorem still_open {c s : List Int} {P : List Prog} {A : List Ln} : Still (OpenR c s P A) := fun m st i b hr hb hi _ => by
  refine ⟨_, lineS_blank_in hr.o hb, ?_⟩
  have := hr.more (A' := A) (m' := m + (b.length + 1)) hi (t := b) (fun q h1 h2 => ⟨_, by omega, h2.blank hb⟩)
  rwa [hb.1] at this
theorem walk_thread {c s : List Int} {P : List Prog} {g : Int} (hg : g = 1 ∨ g = 2) (hP : P.length < 8) {A : List Ln} {R' : Nat → SS → Prop} (hw : Walks (OpenR c s P []) A R') : Walks (Read c s P [] 0 g) (threadW :: A) R' :=
  walks_cons still_read (fun m st i hr hi _ => by
    refine ⟨{ st with stage := 2, opn := i, block := [] }, ?_, ⟨hr.c, hr.s, hr.P, hr.k, hr.d, rfl, hi, ⟨0, by omega, .nil⟩, fun x hx => by cases hx⟩⟩
    have e : threadW = threadW ++ numsT [] := (List.append_nil _).symm
    rw [e, lineS_row wd_thread hr.o]
    unfold outS
    rw [List.tail_cons, numsL_itoa (fun x hx => by cases hx)]
    simp only [List.headD_cons, show wordN threadW = 3 from by decide]
    unfold threadS
    rw [if_neg (by rw [hr.g]; rcases hg with rfl | rfl <;> simp), if_neg (by rw [hr.P]; omega)]
    rfl) hw
theorem rows_end : ∀ k, k < 23 → 1 ≤ k → (rowAt k).1 ≠ [101, 110, 100] := by decide +kernel
theorem body_row {n : Int} {x : Int × Int} (h : Right n x) : fieldsL (bareL (bodyOne x)) ≠ endW := by
  obtain ⟨h1, h2, h3, h4⟩ := op_word h.op
  have hne : (opRow x.1).1 ≠ [101, 110, 100] := by
    have hop := h.op
    simp only [isOp, decide_eq_true_eq] at hop
    obtain ⟨k, hk⟩ := Int.eq_ofNat_of_zero_le (show 0 ≤ x.1 by omega)
    rw [hk, opRow_in (by omega) (by omega)]
    exact rows_end k (by omega) (by omega)
  obtain ⟨ns, e⟩ : ∃ ns, bodyOne x = (opRow x.1).1 ++ numsT ns := by
    unfold bodyOne
    split
    · exact ⟨[], rfl⟩
    · exact ⟨[x.2], by simp [numsT]⟩
  rw [e, row_fields ⟨h2, h3, h4⟩]
  intro e
  injection e with e _
  exact hne e
theorem body_fields {n : Int} {x : Int × Int} (h : Right n x) : fieldsL (bareL (bodyOne x)) ≠ [] := by
  obtain ⟨_, h2, h3, h4⟩ := op_word h.op
  obtain ⟨ns, e⟩ : ∃ ns, bodyOne x = (opRow x.1).1 ++ numsT ns := by
    unfold bodyOne
    split
    · exact ⟨[], rfl⟩
    · exact ⟨[x.2], by simp [numsT]⟩
  rw [e, row_fields ⟨h2, h3, h4⟩]
  intro e
  cases e
theorem walk_body {c s : List Int} {P : List Prog} {n : Int} : ∀ (l : List (Int × Int)) (A : List Ln), (∀ x ∈ l, Right n x) → ∀ {B : List Ln} {R' : Nat → SS → Prop}, Walks (OpenR c s P (A ++ l.map bodyOne)) B R' → Walks (OpenR c s P A) (l.map bodyOne ++ B) R'
  | [], A, _, B, R', hw => by
    rw [List.map_nil, List.append_nil] at hw
    exact hw
  | x :: l, A, h, B, R', hw => by
    have hx := h x (by simp)
    rw [List.map_cons, List.cons_append]
    refine walks_cons still_open (R1 := OpenR c s P (A ++ [bodyOne x])) (fun m st i hr hi _ => ?_) (walk_body l (A ++ [bodyOne x]) (fun y hy => h y (List.mem_cons_of_mem _ hy)) ?_)
    · refine ⟨{ st with block := st.block ++ [(i, bodyOne x, bareL (bodyOne x))] }, ?_, hr.more hi (fun q h1 h2 => ⟨q, h1, h2.line _⟩)⟩
      unfold lineS
      rw [if_pos hr.o, if_neg (body_row hx)]
    · rw [List.append_assoc, List.singleton_append]
      exact hw
theorem says_pos : ∀ (L : List BlkL) (a : Int), 0 ≤ a → (∀ x ∈ L, 0 < x.1) → (0 < a ∨ ∃ x ∈ L, x.2.2 ≠ []) → L.foldl (fun s x => if x.2.2 ≠ [] ∧ s = 0 then x.1 else s) a ≠ 0
  | [], a, h0, _, h => by
    rcases h with h | ⟨x, hx, _⟩
    · simp; omega
    · cases hx
  | x :: L, a, h0, hp, h => by
    rw [List.foldl_cons]
    have hx := hp x (by simp)
    by_cases e : x.2.2 ≠ [] ∧ a = 0
    · rw [if_pos e]
      exact says_pos L x.1 (by omega) (fun y hy => hp y (List.mem_cons_of_mem _ hy)) (.inl hx)
    · rw [if_neg e]
      refine says_pos L a h0 (fun y hy => hp y (List.mem_cons_of_mem _ hy)) ?_
      rcases h with h | ⟨y, hy, hne⟩
      · exact .inl h
      · rcases List.mem_cons.1 hy with rfl | hy
        · left
          have : ¬ a = 0 := fun ha => e ⟨hne, ha⟩
          omega
        · exact .inr ⟨y, hy, hne⟩
theorem Noised.mem {n : Nat} {A M : List Ln} (h : Noised n A M) : ∀ x ∈ A, x ∈ M := by
  induction h with
  | nil => exact fun _ h => h
  | keep x _ ih => exact fun y hy => (List.mem_cons.1 hy).elim (fun e => e ▸ by simp) (fun hy => List.mem_cons_of_mem _ (ih y hy))
  | add b _ _ ih => exact fun y hy => List.mem_cons_of_mem _ (ih y hy)
theorem wd_end : Wd [101, 110, 100] := wd_of (by decide) (by decide) (by decide)
theorem shift_zero (x : Int × Int) : shiftX 0 x = x := by
  unfold shiftX
  simp
theorem join_one {p : Prog} (h : (checkL p).1 = 0) : joinS [p] = (p, 0) := by
  obtain ⟨h1, h2, _⟩ := checkL_ok h
  unfold joinS
  have e1 : errFrom [p] = 0 := by rw [errFrom, if_pos h]; rfl
  have e2 : sumL [p] = p.length := by simp [sumL]
  have e3 : joinFrom [] [p] = p := by
    rw [joinFrom, joinFrom, List.nil_append]
    have : p.map (shiftX 0) = p.map id := List.map_congr_left fun x _ => shift_zero x
    rw [List.length_nil, this, List.map_id]
  rw [if_pos e1, e2, if_neg (by omega), e3]
theorem says_ne {c s : List Int} {P : List Prog} {p : Prog} {m : Nat} {st : SS} (h : (checkL p).1 = 0) (hi : InI p) (hr : OpenR c s P (p.map bodyOne) m st) : saysL st.block ≠ 0 := by
  obtain ⟨h1, _, _⟩ := checkL_ok h
  obtain ⟨q, _, hN⟩ := hr.b
  refine says_pos st.block 0 (Int.le_refl _) (fun x hx => (hr.v x hx).2) (.inr ?_)
  cases p with
  | nil => simp at h1
  | cons x r =>
    have hx := right_all h hi x (by simp)
    have hm := hN.mem (bodyOne x) (by simp)
    obtain ⟨y, hy, e⟩ := List.mem_map.1 hm
    refine ⟨y, hy, ?_⟩
    rw [(hr.v y hy).1, e]
    intro hb
    have := body_fields hx
    rw [hb, fields_nil] at this
    exact this rfl
theorem walk_end {c s : List Int} {P : List Prog} {p : Prog} (h : (checkL p).1 = 0) (hi : InI p) : Walks (OpenR c s P (p.map bodyOne)) [[101, 110, 100]] (Read c s (P ++ [p]) [] 0 2) :=
  walks_cons still_open (fun m st i hr _ hm => by
    refine ⟨{ st with progs := st.progs ++ [p], opn := 0 }, ?_, ⟨hr.c, hr.s, by simp only [hr.P], hr.k, hr.d, hr.g, rfl⟩⟩
    obtain ⟨q, hq, hN⟩ := hr.b
    have e : ([101, 110, 100] : Ln) = [101, 110, 100] ++ numsT [] := (List.append_nil _).symm
    have ef : fieldsL (bareL [101, 110, 100]) = endW := by rw [e, row_fields wd_end]; rfl
    unfold lineS
    rw [if_pos hr.o, if_pos ef]
    unfold endS partS
    rw [if_neg (says_ne h hi hr)]
    have ep : parseL (textL st.block) = .ok p := by
      have := parse_noised h hi hN (by omega)
      rw [List.flatMap_map] at this
      exact this
    rw [ep]
    simp only [Option.toList_some, join_one h, if_true]) (walks_nil still_read)
/-- a program's lines -/
theorem walk_prog {c s : List Int} {P : List Prog} {p : Prog} {g : Int} (hg : g = 1 ∨ g = 2) (hP : P.length < 8) (h : (checkL p).1 = 0) (hi : InI p) : Walks (Read c s P [] 0 g) (threadW :: (p.map bodyOne ++ [[101, 110, 100]])) (Read c s (P ++ [p]) [] 0 2) :=
  walk_thread hg hP (walk_body p [] (right_all h hi) (walk_end h hi))
end Go.Proofs.YtoiokbdipcecnaaGreatDoor
namespace Go.Proofs.YtoiokbdipcecnaaGreatDoor
open Go.RowKit
set_option maxRecDepth 100000

def progLs (p : Prog) : List Ln := threadW :: (p.map bodyOne ++ [[101, 110, 100]])
def allLs (c s : List Int) (P : List Prog) (k : List Int) (d : Int) : List Ln :=
  [cfgW ++ numsT (cfgN c)] ++ ((if s.length = 0 then [] else [startW ++ numsT s]) ++ (P.flatMap progLs ++ ((if k.length = 0 then [] else [picksW ++ numsT k]) ++ [drainW ++ numsT [d]])))
theorem walk_progs {c s : List Int} : ∀ (P Q : List Prog) (g : Int), (g = 1 ∨ g = 2) → Q.length + P.length ≤ 8 → (∀ p ∈ P, (checkL p).1 = 0 ∧ InI p) → Walks (Read c s Q [] 0 g) (P.flatMap progLs) (Read c s (Q ++ P) [] 0 (if P = [] then g else 2))
  | [], Q, g, _, _, _ => by
    rw [List.append_nil, if_pos rfl]
    exact walks_nil still_read
  | p :: P, Q, g, hg, hl, h => by
    have hp := h p (by simp)
    have hl' : Q.length + (P.length + 1) ≤ 8 := by simpa using hl
    have h1 : Walks (Read c s Q [] 0 g) (progLs p) (Read c s (Q ++ [p]) [] 0 2) := walk_prog hg (by omega) hp.1 hp.2
    have h2 := walk_progs (c := c) (s := s) P (Q ++ [p]) 2 (.inr rfl) (by simp; omega) (fun q hq => h q (List.mem_cons_of_mem _ hq))
    have e : (if P = [] then (2 : Int) else 2) = 2 := by split <;> rfl
    rw [e, List.append_assoc, List.singleton_append] at h2
    rw [List.flatMap_cons, if_neg (by simp)]
    exact h1.app h2
theorem walk_all {c s : List Int} {P : List Prog} {k : List Int} {d : Int} (h : scrCheckS c s P k d = 0) (hs : InZ s) (hk : InZ k) (hP : ∀ p ∈ P, InI p) : Walks (Read [] [] [] [] 0 0) (allLs c s P k d) (Read (cfgN c) s P k d 4) := by
  obtain ⟨h1, h2, h3, h4, h5, h6, h7, h8⟩ := scrCheck_zero h
  refine (walk_cfg h1).app ?_
  have hS : Walks (Read (cfgN c) [] [] [] 0 1) (if s.length = 0 then [] else [startW ++ numsT s]) (Read (cfgN c) s [] [] 0 1) := by
    split
    · rename_i e
      obtain rfl := List.eq_nil_of_length_eq_zero e
      exact walks_nil still_read
    · rename_i e
      exact walk_start (by intro e2; subst e2; exact e rfl) hs h2
  refine hS.app ?_
  have hG := walk_progs (c := cfgN c) (s := s) P [] 1 (.inl rfl) (by simpa using h4) (fun p hp => ⟨h5 p hp, hP p hp⟩)
  rw [List.nil_append, if_neg (by intro e; subst e; simp at h3)] at hG
  refine hG.app ?_
  split
  · rename_i e
    obtain rfl := List.eq_nil_of_length_eq_zero e
    exact walk_drain (.inl rfl) h7 h8
  · rename_i e
    exact (walk_picks (by intro e2; subst e2; exact e rfl) hk h6).app (walk_drain (.inr rfl) h7 h8)
theorem parseS_noised {c s : List Int} {P : List Prog} {k : List Int} {d : Int} (h : scrCheckS c s P k d = 0) (hs : InZ s) (hk : InZ k) (hP : ∀ p ∈ P, InI p) {t : List UInt8} {q : Nat} (hq : q ≤ 4096) (hN : Noised q (allLs c s P k d) (linesL 10 t)) (ht : t.length ≤ 1048576) :
    ∃ st, parseS t = .ok st ∧ Read (cfgN c) s P k d 4 0 st := by
  obtain ⟨st, e, hr⟩ := walk_all h hs hk hP q _ hN 0 st0 0 ⟨rfl, rfl, rfl, rfl, rfl, rfl, rfl⟩ (by omega)
  refine ⟨st, ?_, ⟨hr.c, hr.s, hr.P, hr.k, hr.d, hr.g, hr.o⟩⟩
  obtain ⟨_, _, h3, _⟩ := scrCheck_zero h
  unfold parseS
  rw [if_neg (by omega), e]
  unfold andFin finS
  simp only
  rw [if_neg (by rw [hr.o]; decide), if_neg (by rw [hr.g]; decide), if_neg (by rw [hr.P]; omega)]
end Go.Proofs.YtoiokbdipcecnaaGreatDoor
namespace Go.Proofs.YtoiokbdipcecnaaGreatDoor
open Go.RowKit
set_option maxRecDepth 100000

def noiseB : List UInt8 := [32, 59, 32, 110, 111, 116, 104, 105, 110, 103, 10, 9, 10]
def noiseA : List Int → Int → List UInt8
  | [], _ => []
  | a :: r, i => (if a = i then noiseB else []) ++ noiseA r i
def noiseT (at' : List Int) : Nat → List UInt8 → List UInt8
  | _, [] => []
  | k, b :: r => if b = 10 then 10 :: (noiseA (at'.take 50) ((k + 1 : Nat) : Int) ++ noiseT at' (k + 1) r) else b :: noiseT at' k r
def blankLs : List Int → Int → List Ln
  | [], _ => []
  | a :: r, i => (if a = i then [[32, 59, 32, 110, 111, 116, 104, 105, 110, 103], [9]] else []) ++ blankLs r i
theorem blank1 : BlankL [32, 59, 32, 110, 111, 116, 104, 105, 110, 103] := ⟨by decide, by decide⟩
theorem blank2 : BlankL [9] := ⟨by decide, by decide⟩
theorem lines_noiseA : ∀ (l : List Int) (i : Int) (r : List UInt8), linesL 10 (noiseA l i ++ r) = blankLs l i ++ linesL 10 r
  | [], _, _ => rfl
  | a :: l, i, r => by
    rw [noiseA, blankLs]
    split
    · have e : noiseB ++ noiseA l i ++ r = [32, 59, 32, 110, 111, 116, 104, 105, 110, 103] ++ 10 :: ([9] ++ 10 :: (noiseA l i ++ r)) := by simp [noiseB]
      rw [e, linesL_line blank1.2, linesL_line blank2.2, lines_noiseA l i r]
      rfl
    · rw [List.nil_append, List.nil_append, lines_noiseA l i r]
theorem noised_blankLs : ∀ (l : List Int) (i : Int), ∃ q, Noised q [] (blankLs l i)
  | [], _ => ⟨0, .nil⟩
  | a :: l, i => by
    obtain ⟨q, h⟩ := noised_blankLs l i
    rw [blankLs]
    split
    · exact ⟨_, .add _ blank1 (.add _ blank2 h)⟩
    · exact ⟨q, h⟩
theorem noiseT_line {at' : List Int} : ∀ {x : Ln} (k : Nat) (r : List UInt8), (∀ b ∈ x, b ≠ 10) → noiseT at' k (x ++ 10 :: r) = x ++ 10 :: (noiseA (at'.take 50) ((k + 1 : Nat) : Int) ++ noiseT at' (k + 1) r)
  | [], k, r, _ => by rw [List.nil_append, noiseT, if_pos rfl]; rfl
  | b :: x, k, r, h => by
    rw [List.cons_append, noiseT, if_neg (h b (by simp)), noiseT_line k r (fun c hc => h c (List.mem_cons_of_mem _ hc))]
    rfl
theorem lines_noiseT {at' : List Int} : ∀ (L : List Ln) (k : Nat), (∀ x ∈ L, ∀ b ∈ x, b ≠ 10) → ∃ q, Noised q L (linesL 10 (noiseT at' k (L.flatMap fun x => x ++ [10])))
  | [], k, _ => ⟨1, .add [] ⟨by decide, fun c h => by cases h⟩ .nil⟩
  | x :: L, k, h => by
    obtain ⟨q, hq⟩ := lines_noiseT (at' := at') L (k + 1) (fun y hy => h y (List.mem_cons_of_mem _ hy))
    obtain ⟨q1, h1⟩ := noised_blankLs (at'.take 50) ((k + 1 : Nat) : Int)
    rw [List.flatMap_cons, List.append_assoc, List.singleton_append, noiseT_line k _ (h x (by simp)), linesL_line (h x (by simp)), lines_noiseA]
    exact ⟨_, .keep x (h1.app hq)⟩
/-- entries that stand above a line's number -/
def above (l : List Int) (i : Int) : Nat := l.countP fun a => decide (i < a)
theorem noiseA_len : ∀ (l : List Int) (i : Int), (noiseA l (i + 1)).length + 13 * above l (i + 1) = 13 * above l i
  | [], _ => rfl
  | a :: l, i => by
    have ih := noiseA_len l i
    unfold above at ih ⊢
    rw [noiseA, List.length_append, List.countP_cons, List.countP_cons]
    by_cases e : a = i + 1
    · subst e
      have e1 : decide (i + 1 < i + 1) = false := by simp
      have e2 : decide (i < i + 1) = true := by simp; omega
      rw [if_pos rfl, e1, e2]
      simp only [Bool.false_eq_true, if_false, if_true]
      have : noiseB.length = 13 := rfl
      omega
    · rw [if_neg e]
      by_cases h : i < a
      · have e1 : decide (i + 1 < a) = true := by simp; omega
        have e2 : decide (i < a) = true := by simpa using h
        rw [e1, e2]
        simp only [if_true, List.length_nil]
        omega
      · have e1 : decide (i + 1 < a) = false := by simp; omega
        have e2 : decide (i < a) = false := by simpa using h
        rw [e1, e2]
        simp only [Bool.false_eq_true, if_false, List.length_nil]
        omega
theorem noiseT_len {at' : List Int} : ∀ (t : List UInt8) (k : Nat), (noiseT at' k t).length ≤ t.length + 13 * above (at'.take 50) (k : Int)
  | [], _ => by simp [noiseT]
  | b :: r, k => by
    rw [noiseT]
    split
    · have h1 := noiseA_len (at'.take 50) (k : Int)
      have h2 := noiseT_len (at' := at') r (k + 1)
      have e : ((k + 1 : Nat) : Int) = (k : Int) + 1 := by omega
      rw [e] at h2 ⊢
      rw [List.length_cons, List.length_append, List.length_cons]
      omega
    · have h2 := noiseT_len (at' := at') r k
      rw [List.length_cons, List.length_cons]
      omega
theorem noise_small (at' : List Int) (t : List UInt8) : (noiseT at' 0 t).length ≤ t.length + 650 := by
  have h := noiseT_len (at' := at') t 0
  have h1 : above (at'.take 50) ((0 : Nat) : Int) ≤ (at'.take 50).length := List.countP_le_length
  have h2 : (at'.take 50).length ≤ 50 := by rw [List.length_take]; omega
  omega
end Go.Proofs.YtoiokbdipcecnaaGreatDoor
namespace Go.Proofs.YtoiokbdipcecnaaGreatDoor
open Go.RowKit
set_option maxRecDepth 100000

theorem printL_flat : ∀ p : Prog, printL p = (p.map bodyOne).flatMap fun x => x ++ [10]
  | [] => rfl
  | x :: r => by
    have e : printL (x :: r) = bodyOne x ++ 10 :: printL r := by simp [printL, printOne_body]
    rw [e, List.map_cons, List.flatMap_cons, ← printL_flat r, List.append_assoc, List.singleton_append]
theorem linesT_flat : ∀ P : List Prog, linesT P = (P.flatMap progLs).flatMap fun x => x ++ [10]
  | [] => rfl
  | p :: P => by
    have ih := linesT_flat P
    unfold linesT at ih ⊢
    rw [List.flatMap_cons, List.flatMap_cons, List.flatMap_append, ih]
    congr 1
    unfold progLs
    rw [List.flatMap_cons, List.flatMap_append, ← printL_flat]
    rfl
theorem scrText_flat (c s : List Int) (P : List Prog) (k : List Int) (d : Int) : scrText c s P k d = (allLs c s P k d).flatMap fun x => x ++ [10] := by
  unfold scrText allLs headT startT picksT drainT
  rw [List.flatMap_append, List.flatMap_append, List.flatMap_append, List.flatMap_append, ← linesT_flat]
  have e1 : ∀ (b : Nat) (w : Ln) (ns : List Int), (if b = 0 then [] else rowL w ns) = (if b = 0 then [] else [w ++ numsT ns] : List Ln).flatMap fun x => x ++ [10] := by
    intro b w ns
    split
    · rfl
    · simp [rowL]
  rw [e1, e1]
  simp only [List.append_assoc]
  simp [rowL, cfgW, startW, picksW, drainW]
theorem lines_in {c s : List Int} {P : List Prog} {k : List Int} {d : Int} (hP : ∀ p ∈ P, (checkL p).1 = 0 ∧ InI p) : ∀ x ∈ allLs c s P k d, (∀ b ∈ x, b ≠ 10) ∧ noDo x = true := by
  have row : ∀ (w : Ln) (ns : List Int), Wd w → w ≠ [100, 111] → (∀ b ∈ w ++ numsT ns, b ≠ 10) ∧ noDo (w ++ numsT ns) = true := by
    intro w ns hw hd
    refine ⟨fun b hb => (row_byte hw hb).1, ?_⟩
    unfold noDo
    rw [row_fields hw, List.head?_cons]
    simpa using hd
  have row0 : ∀ w : Ln, Wd w → w ≠ [100, 111] → (∀ b ∈ w, b ≠ 10) ∧ noDo w = true := fun w hw hd => by
    have := row w [] hw hd
    rwa [show w ++ numsT [] = w from List.append_nil _] at this
  intro x hx
  unfold allLs at hx
  rcases List.mem_append.1 hx with hx | hx
  · rw [List.mem_singleton] at hx
    subst hx
    exact row _ _ wd_cfg (by decide)
  rcases List.mem_append.1 hx with hx | hx
  · split at hx
    · cases hx
    · rw [List.mem_singleton] at hx
      subst hx
      exact row _ _ wd_start (by decide)
  rcases List.mem_append.1 hx with hx | hx
  · obtain ⟨p, hp, hx⟩ := List.mem_flatMap.1 hx
    unfold progLs at hx
    rcases List.mem_cons.1 hx with rfl | hx
    · exact row0 _ wd_thread (by decide)
    rcases List.mem_append.1 hx with hx | hx
    · obtain ⟨y, hy, rfl⟩ := List.mem_map.1 hx
      have hR := right_all (hP p hp).1 (hP p hp).2 y hy
      refine ⟨fun b hb => (hR.body_plain b hb).1, ?_⟩
      obtain ⟨_, h2, h3, h4⟩ := op_word hR.op
      obtain ⟨ns, e⟩ : ∃ ns, bodyOne y = (opRow y.1).1 ++ numsT ns := by
        unfold bodyOne
        split
        · exact ⟨[], rfl⟩
        · exact ⟨[y.2], by simp [numsT]⟩
      rw [e]
      refine (row _ ns ⟨h2, h3, h4⟩ ?_).2
      have hop := hR.op
      simp only [isOp, decide_eq_true_eq] at hop
      obtain ⟨k, hk⟩ := Int.eq_ofNat_of_zero_le (show 0 ≤ y.1 by omega)
      rw [hk, opRow_in (by omega) (by omega)]
      have : ∀ k, k < 23 → 1 ≤ k → (rowAt k).1 ≠ [100, 111] := by decide +kernel
      exact this k (by omega) (by omega)
    · rw [List.mem_singleton] at hx
      subst hx
      exact row0 _ wd_end (by decide)
  rcases List.mem_append.1 hx with hx | hx
  · split at hx
    · cases hx
    · rw [List.mem_singleton] at hx
      subst hx
      exact row _ _ wd_picks (by decide)
  · rw [List.mem_singleton] at hx
    subst hx
    exact row _ _ wd_drain (by decide)
theorem Noised.noDo {n : Nat} {A M : List Ln} (h : Noised n A M) : (∀ x ∈ A, noDo x = true) → ∀ x ∈ M, noDo x = true := by
  induction h with
  | nil => exact fun h => h
  | keep x _ ih => exact fun h y hy => (List.mem_cons.1 hy).elim (fun e => e ▸ h x (by simp)) (fun hy => ih (fun z hz => h z (List.mem_cons_of_mem _ hz)) y hy)
  | add b hb _ ih => exact fun h y hy => (List.mem_cons.1 hy).elim (fun e => by subst e; unfold Go.Proofs.YtoiokbdipcecnaaGreatDoor.noDo; rw [hb.1, fields_nil]; rfl) (fun hy => ih h y hy)
/-- the text with noise is read as the script -/
theorem parse_noise {c s : List Int} {P : List Prog} {k : List Int} {d : Int} (h : scrCheckS c s P k d = 0) (hs : InZ s) (hk : InZ k) (hP : ∀ p ∈ P, InI p) (at' : List Int) (hl : (scrText c s P k d).length + 650 ≤ 1048576) :
    (∀ x ∈ linesL 10 (noiseT at' 0 (scrText c s P k d)), noDo x = true) ∧ ∃ st, parseS (noiseT at' 0 (scrText c s P k d)) = .ok st ∧ Read (cfgN c) s P k d 4 0 st := by
  obtain ⟨_, _, _, _, h5, _⟩ := scrCheck_zero h
  have hL := lines_in (c := c) (s := s) (k := k) (d := d) (fun p hp => ⟨h5 p hp, hP p hp⟩)
  obtain ⟨q, hN⟩ := lines_noiseT (at' := at') (allLs c s P k d) 0 (fun x hx => (hL x hx).1)
  rw [← scrText_flat] at hN
  have hlen := noise_small at' (scrText c s P k d)
  have hsum := hN.sum
  rw [sumT_lines] at hsum
  have e := flat_len (allLs c s P k d)
  rw [← scrText_flat] at e
  exact ⟨hN.noDo (fun x hx => (hL x hx).2), parseS_noised h hs hk hP (by omega) hN (by omega)⟩
/-- the text is read as the script -/
theorem parse_back {c s : List Int} {P : List Prog} {k : List Int} {d : Int} (h : scrCheckS c s P k d = 0) (hs : InZ s) (hk : InZ k) (hP : ∀ p ∈ P, InI p) (hl : (scrText c s P k d).length ≤ 1048576) :
    (∀ x ∈ linesL 10 (scrText c s P k d), noDo x = true) ∧ ∃ st, parseS (scrText c s P k d) = .ok st ∧ Read (cfgN c) s P k d 4 0 st := by
  obtain ⟨_, _, _, _, h5, _⟩ := scrCheck_zero h
  have hL := lines_in (c := c) (s := s) (k := k) (d := d) (fun p hp => ⟨h5 p hp, hP p hp⟩)
  have hN : Noised 1 (allLs c s P k d) (linesL 10 (scrText c s P k d)) := by
    rw [scrText_flat, lines_flat _ (fun x hx => (hL x hx).1)]
    have h0 : ∀ A : List Ln, Noised 0 A A := fun A => by
      induction A with
      | nil => exact .nil
      | cons x A ih => exact .keep x ih
    exact (h0 _).blank (b := []) ⟨by decide, fun c h => by cases h⟩
  exact ⟨hN.noDo (fun x hx => (hL x hx).2), parseS_noised h hs hk hP (by omega) hN hl⟩
end Go.Proofs.YtoiokbdipcecnaaGreatDoor
