/-
  (*reader).end of a script's reader: lemmas of memory. No condition.
  And: (*reader).end of a script's reader: what it comes to, and the row of a program's parts. No condition.
  And: The fields of a line: how many, how long. No condition.
-/
import Derived.Test.YtoiokbdipcecnaaGreatDoorScrRd
import Derived.Test.YtoiokbdipcecnaaGreatDoorScrPart
import Derived.Test.YtoiokbdipcecnaaGreatDoorCodeJoin
import Derived.Test.YtoiokbdipcecnaaGreatDoorScrStart
namespace Go.Proofs.YtoiokbdipcecnaaGreatDoor
open Go.RowKit

def optN : Option Nat → Nat
  | none => 0
  | some _ => 1
theorem spansP_len (p : Nat → Bool) (s : ByteArray) : ∀ (f pos : Nat) (st : Option Nat) (acc : List (Nat × Nat)), (Lib.spansFromP p s f pos st acc).1.length + optN (Lib.spansFromP p s f pos st acc).2 ≤ acc.length + optN st + f
  | 0, _, _, _ => Nat.le_refl _
  | f + 1, pos, st, acc => by
    unfold Lib.spansFromP
    split
    · split
      · cases st with
        | some a => have := spansP_len p s f (pos + (Utf8.decode s pos).2) none (acc ++ [(a, pos)]); simp [optN] at this ⊢; omega
        | none => have := spansP_len p s f (pos + (Utf8.decode s pos).2) none acc; simp [optN] at this ⊢; omega
      · cases st with
        | some a => have := spansP_len p s f (pos + (Utf8.decode s pos).2) (some a) acc; simp [optN] at this ⊢; omega
        | none => have := spansP_len p s f (pos + (Utf8.decode s pos).2) (some pos) acc; simp [optN] at this ⊢; omega
    · simp
theorem fieldsL_len (l : List UInt8) : (fieldsL l).length ≤ l.length := by
  have h := spansP_len blankP (S l) (S l).size 0 none []
  have hs : (S l).size = l.length := by simp [S, ByteArray.size]
  rw [hs] at h
  unfold fieldsL Lib.goFieldsP Lib.spansOfP
  rw [List.length_map, List.length_map, hs]
  unfold Lib.closeSpans
  split
  · rename_i a e
    rw [e] at h
    simp [optN] at h ⊢; omega
  · simp [optN] at h ⊢; omega
theorem fieldsL_each (l x : List UInt8) (h : x ∈ fieldsL l) : x.length ≤ l.length := by
  unfold fieldsL Lib.goFieldsP at h
  rw [List.map_map] at h
  obtain ⟨y, _, rfl⟩ := List.mem_map.1 h
  have : ((S l).extract y.1 y.2).size ≤ (S l).size := by rw [ByteArray.size_extract]; omega
  have hs : (S l).size = l.length := by simp [S, ByteArray.size]
  rw [hs] at this
  exact this
end Go.Proofs.YtoiokbdipcecnaaGreatDoor
namespace Go.Proofs.YtoiokbdipcecnaaGreatDoor
open Go.RowKit
set_option maxRecDepth 100000

/-- does a line name a deed? -/
def doB (x : BlkL) : Bool := (fieldsL x.2.2).head? == some [100, 111]
/-- what end comes to, of a block without deeds -/
def endS (st : SS) (line : Int) : Except (Int × Int) SS :=
  match partS st.block with
  | .error x => .error x
  | .ok o =>
    let j := joinS o.toList
    if j.2 = 0 then .ok { st with progs := st.progs ++ [j.1], opn := 0 } else .error (j.2, line)
/-- what end may come to -/
structure EndRel (st : SS) (line : Int) (res : Except (Int × Int) SS) : Prop where
  no : (∀ x ∈ st.block, doB x = false) → res = endS st line
  ok : ∀ st', res = .ok st' → ∃ q, (checkL q).1 = 0 ∧ st' = { st with progs := st.progs ++ [q], opn := 0 }
  er : ∀ er ln, res = .error (er, ln) → er ≠ 0
def EndDoes (w : World) (B rb : Nat) (line : Int) (st : SS) (e : Ending) (w' : World) : Prop :=
  ∃ res, EndRel st line res ∧ match res with
    | .error (er, ln) => e = sfault er ln ∧ Below B w w' ∧ KeepT w w'
    | .ok st' => e = .returned (.tuple #[]) ∧ (∃ vs vp vk vb pv, Sr w' B rb vs vp vk vb pv st' line) ∧ Below B w w' ∧ KeepT w w'
theorem EndDoes.bad {w w' : World} {B rb : Nat} {line er ln : Int} {st : SS} (h : EndRel st line (.error (er, ln))) (hb : Below B w w') (hk : KeepT w w') : EndDoes w B rb line st (sfault er ln) w' :=
  ⟨_, h, rfl, hb, hk⟩
theorem EndDoes.good {w w' : World} {B rb : Nat} {line : Int} {st st' : SS} {vs vp vk vb : Value} {pv : List SlP} (h : EndRel st line (.ok st')) (hs : Sr w' B rb vs vp vk vb pv st' line) (hb : Below B w w') (hk : KeepT w w') : EndDoes w B rb line st (.returned (.tuple #[])) w' :=
  ⟨_, h, rfl, ⟨vs, vp, vk, vb, pv, hs⟩, hb, hk⟩
theorem readS_len {st st' : RS} {line : Int} {l0 : List UInt8} (h : readS st line l0 = .ok st') (hl : st.l.length ≤ 400) : st'.l.length ≤ 400 := by
  unfold readS at h
  simp only at h
  repeat' split at h
  all_goals first
    | (cases h; done)
    | (injection h with h; subst h; exact hl)
    | (injection h with h; subst h; simp only [List.length_append, List.length_singleton]; omega)
theorem placesN_len {labels : List (List UInt8 × Nat)} {named : List (Nat × List UInt8)} {lines : List Int} {n : Nat} : ∀ {f k : Nat} {l l' : List (Int × Int)}, placesN labels named lines n f k l = .ok l' → l'.length = l.length
  | 0, _, _, _, h => by injection h with h; rw [h]
  | f + 1, k, l, l', h => by
    unfold placesN at h
    cases hp : placeOne labels named n k (l.getD k (0, 0)) with
    | error e => rw [hp] at h; cases h
    | ok x => rw [hp] at h; have := placesN_len h; simpa using this
theorem parseL_len {t : List UInt8} {p : List (Int × Int)} (h : parseL t = .ok p) : 1 ≤ p.length ∧ p.length ≤ 400 := by
  have key : ∀ {L : List (List UInt8)} {st st' : RS} {k : Nat}, readAll st k L = .ok st' → st.l.length ≤ 400 → st'.l.length ≤ 400 := by
    intro L
    induction L with
    | nil => intro st st' k h hl; injection h with h; subst h; exact hl
    | cons x r ih =>
      intro st st' k h hl
      unfold readAll at h
      cases hs : readS st ((k + 1 : Nat) : Int) (Lib.cut x [59]).1 with
      | error e => rw [hs] at h; cases h
      | ok s2 => rw [hs] at h; exact ih h (readS_len hs hl)
  unfold parseL at h
  split at h
  · cases h
  cases hr : readAll ⟨[], [], [], []⟩ 0 (linesL 10 t) with
  | error e => rw [hr] at h; cases h
  | ok st =>
    rw [hr] at h
    simp only at h
    cases hp : placesS st with
    | error e => rw [hp] at h; cases h
    | ok l =>
      rw [hp] at h
      simp only at h
      split at h
      · cases h
      · rename_i hne
        injection h with h
        subst h
        have h1 := key hr (by simp)
        have h2 := placesN_len hp
        refine ⟨?_, by omega⟩
        cases l with
        | nil => simp at hne
        | cons a b => simp
theorem partS_len {L : List BlkL} {p : List (Int × Int)} (h : partS L = .ok (some p)) : 1 ≤ p.length ∧ p.length ≤ 400 := by
  unfold partS at h
  split at h
  · cases h
  cases hp : parseL (textL L) with
  | error x =>
    obtain ⟨er, ln⟩ := x
    rw [hp] at h
    simp only at h
    split at h <;> cases h
  | ok q =>
    rw [hp] at h
    injection h with h
    injection h with h
    subst h
    exact parseL_len hp
theorem partS_err {L : List BlkL} {er ln : Int} (h : partS L = .error (er, ln)) : er ≠ 0 := by
  unfold partS at h
  split at h
  · cases h
  cases hp : parseL (textL L) with
  | error x =>
    obtain ⟨e2, l2⟩ := x
    rw [hp] at h
    simp only at h
    have := parseL_err hp
    split at h
    · injection h with h; injection h with h _; subst h; simpa using this
    · injection h with h; injection h with h _; subst h; simpa using this
  | ok q => rw [hp] at h; cases h
theorem checkL_joins : ∀ (P : List Prog) (acc : Prog), (∀ x ∈ P, (checkL x).1 = 0) → (P ≠ [] ∨ (checkL acc).1 = 0) → (acc = [] ∨ (checkL acc).1 = 0) → acc.length + sumL P ≤ 400 → (checkL (joinFrom acc P)).1 = 0
  | [], acc, _, h, _, _ => by
    rcases h with h | h
    · exact absurd rfl h
    · exact h
  | p :: P, acc, hp, _, ha, hs => by
    have hp0 := hp p (by simp)
    have hsum : sumL (p :: P) = p.length + sumL P := rfl
    have e : joinFrom acc (p :: P) = joinFrom (joinFrom acc [p]) P := by rw [← joinFrom_app]; rfl
    rw [e]
    have hl := joinFrom_length [p] acc
    have hs1 : sumL [p] = p.length := by simp [sumL]
    have hok : (checkL (joinFrom acc [p])).1 = 0 := by
      rcases ha with rfl | ha
      · rw [joinFrom_nil_one]; exact hp0
      · have := checkL_join ha hp0 (by omega)
        have e2 : joinFrom [] [acc, p] = joinFrom acc [p] := by
          show joinFrom [] ([acc] ++ [p]) = _
          rw [joinFrom_app, joinFrom_nil_one]
        rw [e2] at this
        exact this
    exact checkL_joins P _ (fun x hx => hp x (by simp [hx])) (.inr hok) (.inr hok) (by omega)
theorem joinS_ok {P : List Prog} (h : (joinS P).2 = 0) : (checkL (joinS P).1).1 = 0 := by
  unfold joinS at h ⊢
  split at h
  · rename_i he
    split at h
    · cases h
    · rename_i hn
      rw [if_pos he, if_neg hn]
      have hne : P ≠ [] := by intro e; subst e; simp [sumL] at hn
      exact checkL_joins P [] (errFrom_all he) (.inl hne) (.inl rfl) (by simp; omega)
  · rename_i he
    exact absurd h he
/-- the parts of a program -/
structure Parts (w : World) (B : Nat) (v : Value) (pl : List SlP) (Q : List Prog) : Prop where
  own : OwnG slT w B v pl
  len : pl.length = Q.length
  pr : ∀ (j : Nat) x q, pl[j]? = some x → Q[j]? = some q → OwnP w B (slV x) q
  sz : ∀ q ∈ Q, q.length ≤ 100000
theorem Parts.nil (w : World) (B : Nat) : Parts w B (.slice none 0 0) [] [] := ⟨OwnG.nil _ _ _, rfl, fun j x q h => by simp at h, fun q h => by cases h⟩
theorem Parts.below {w w' : World} {B : Nat} {v : Value} {pl : List SlP} {Q : List Prog} (h : Parts w B v pl Q) (hb : Below w.heap.size w w') : Parts w' B v pl Q :=
  ⟨h.own.below hb, h.len, fun j x q h1 h2 => (h.pr j x q h1 h2).below hb, h.sz⟩
/-- one part more -/
theorem Parts.push {w w8 : World} {B : Nat} {v v8 : Value} {pl : List SlP} {Q : List Prog} {x : SlP} {q : Prog} (h : Parts w B v pl Q) (hx : OwnP w B (slV x) q) (hq : q.length ≤ 100000) (ho : OwnG slT w8 B v8 (pl ++ [x])) (hg : w.grownBy w8 v.ownBlock) :
    Parts w8 B v8 (pl ++ [x]) (Q ++ [q]) := by
  have keep : ∀ {y : SlP} {p : Prog}, OwnP w B (slV y) p → OwnP w8 B (slV y) p := fun hy =>
    ownsRow_at hy fun g hv => by obtain ⟨c, hc⟩ := own_block hy hv; exact grown_block (E := slT) h.own hg hc (by decide)
  refine ⟨ho, by simp [h.len], fun j y p hy hp => ?_, fun p hp => ?_⟩
  · rcases Nat.lt_trichotomy j pl.length with hj | hj | hj
    · rw [List.getElem?_append_left hj] at hy
      rw [List.getElem?_append_left (by rw [← h.len]; exact hj)] at hp
      exact keep (h.pr j y p hy hp)
    · subst hj
      rw [List.getElem?_append_right (Nat.le_refl _)] at hy
      rw [h.len, List.getElem?_append_right (Nat.le_refl _)] at hp
      simp at hy hp
      subst hy; subst hp
      exact keep hx
    · rw [List.getElem?_append_right (by omega)] at hy
      have : 1 ≤ j - pl.length := by omega
      rw [List.getElem?_eq_none (by simp; omega)] at hy
      cases hy
  · rcases List.mem_append.1 hp with hp | hp
    · exact h.sz p hp
    · simp at hp; subst hp; exact hq
/-- the parts as Join takes them -/
def partsV (pl : List SlP) (Q : List Prog) : List PartV := (pl.zip Q).map fun x => (x.1.1.map fun g => ⟨g, 0, none⟩, x.1.2.2, x.2)
theorem partsV_progs {pl : List SlP} {Q : List Prog} (h : pl.length = Q.length) : progsV (partsV pl Q) = Q := by
  unfold progsV partsV
  rw [List.map_map]
  show (pl.zip Q).map (fun x => x.2) = Q
  exact List.map_snd_zip (by omega)
theorem partsV_len {pl : List SlP} {Q : List Prog} (h : pl.length = Q.length) : (partsV pl Q).length = Q.length := by
  simp [partsV, h]
theorem slV_form {w : World} {B : Nat} {x : SlP} {q : Prog} (h : OwnP w B (slV x) q) : slV x = .slice (x.1.map fun g => ⟨g, 0, none⟩) q.length x.2.2 ∧ SeesP w (x.1.map fun g => ⟨g, 0, none⟩) q ∧ q.length ≤ x.2.2 := by
  obtain ⟨ao, c, e, hs, hc⟩ := OwnP.slice h
  unfold slV at e
  injection e with e1 e2 e3
  subst e1
  refine ⟨by unfold slV; rw [e2], hs, ?_⟩
  rcases OwnP.form h with ⟨_, rfl⟩ | ⟨g, cap, e⟩
  · exact Nat.zero_le _
  · obtain ⟨_, hcap⟩ := h
    rcases hcap with ⟨e0, _⟩ | ⟨g1, cap1, cur, e1, _, _, hle, _⟩
    · rw [e] at e0; injection e0 with e0; cases e0
    · unfold slV at e1
      injection e1 with _ _ e4
      omega
theorem Parts.sees {w : World} {B : Nat} {v : Value} {pl : List SlP} {Q : List Prog} (h : Parts w B v pl Q) : ∃ ao c, v = .slice ao Q.length c ∧ SeesR w ao (partsV pl Q) := by
  obtain ⟨ao, c, e⟩ := h.own.slice
  refine ⟨ao, c, by rw [e, h.len], ?_⟩
  rcases h.own.form with ⟨_, hnil⟩ | ⟨g, cap, e2⟩
  · have hQ : Q = [] := List.eq_nil_of_length_eq_zero (by rw [← h.len, hnil]; rfl)
    subst hnil
    exact SeesR.nil _ _
  · rw [e2] at e
    injection e with e3 e4 e5
    subst e3
    refine ⟨g, 0, fun _ => rfl, fun j x hj => ?_⟩
    unfold partsV at hj
    rw [List.getElem?_map] at hj
    cases hz : (pl.zip Q)[j]? with
    | none => rw [hz] at hj; cases hj
    | some y =>
      obtain ⟨y1, y2⟩ := y
      rw [hz] at hj
      simp at hj
      subst hj
      rw [List.getElem?_zip_eq_some] at hz
      have hp := h.pr j y1 y2 hz.1 hz.2
      obtain ⟨f1, f2, f3⟩ := slV_form hp
      have ho := h.own
      rw [e2] at ho
      have hcell := ho.cell (i := 0) hz.1 (show (slT.cells y1)[0]? = some (slV y1) from rfl)
      refine ⟨?_, f2⟩
      rw [f1] at hcell
      simpa [slT] using hcell
theorem Parts.small {w : World} {B : Nat} {v : Value} {pl : List SlP} {Q : List Prog} (h : Parts w B v pl Q) : ∀ x ∈ partsV pl Q, x.2.2.length * 16 ≤ 140737488351232 ∧ x.2.2.length ≤ x.2.1 := fun x hx => by
  unfold partsV at hx
  obtain ⟨⟨y1, y2⟩, hy, rfl⟩ := List.mem_map.1 hx
  obtain ⟨j, hj⟩ := List.mem_iff_getElem?.1 hy
  rw [List.getElem?_zip_eq_some] at hj
  have hp := h.pr j y1 y2 hj.1 hj.2
  have h1 := h.sz y2 (List.mem_of_getElem? hj.2)
  obtain ⟨_, _, f3⟩ := slV_form hp
  exact ⟨by simp; omega, f3⟩
end Go.Proofs.YtoiokbdipcecnaaGreatDoor
namespace Go.Proofs.YtoiokbdipcecnaaGreatDoor
open Go.RowKit
set_option maxRecDepth 100000

/-- an int64 -/
def I64 (x : Int) : Prop := -9223372036854775808 ≤ x ∧ x ≤ 9223372036854775807
def deedV (d : Int × Int × Int × Int × Int) : Value := .agg #[.int .i64 d.1, .int .i64 d.2.1, .int .i64 d.2.2.1, .int .i64 d.2.2.2.1, .int .i64 d.2.2.2.2]
/-- what is asked of lines that name deeds -/
structure DoH : Prop where
  deed : ∀ (A n : Nat) (L : List (List UInt8)) (w : World), n = L.length → 0 < n → n ≤ 1048577 → SeesS w (some ⟨A, 0, none⟩) L → (∀ x ∈ L, x.length ≤ 1048576) → Env w →
    Calls Tryz.prog 53 #[.slice (some ⟨A, 0, none⟩) n n] w fun e w' => Below w.heap.size w w' ∧ ∃ (s : ByteArray) (b k d0 d1 d2 d3 d4 : Int) (ok : Bool), I64 b ∧ I64 k ∧ I64 d0 ∧ I64 d1 ∧ I64 d2 ∧ I64 d3 ∧ I64 d4 ∧
      e = .returned (.tuple #[.string s, .int .i64 b, .int .i64 k, .agg #[.int .i64 d0, .int .i64 d1, .int .i64 d2, .int .i64 d3, .int .i64 d4], .bool ok])
  prog : ∀ (s : ByteArray) (b k d0 d1 d2 d3 d4 : Int) (w : World), I64 b → I64 k → I64 d0 → I64 d1 → I64 d2 → I64 d3 → I64 d4 → Env w →
    Calls Tryz.prog 54 #[.string s, .int .i64 b, .int .i64 k, .agg #[.int .i64 d0, .int .i64 d1, .int .i64 d2, .int .i64 d3, .int .i64 d4]] w fun e w' => Below w.heap.size w w' ∧ ∃ (g : Option Nat) (n c : Nat) (er : Int) (q : Prog),
      e = .returned (.tuple #[.slice (g.map fun g => ⟨g, 0, none⟩) n c, .int .i64 er]) ∧ OwnP w' w.heap.size (slV (g, n, c)) q ∧ q.length ≤ 100000
theorem EndRel.part {st : SS} {line er ln : Int} {F : Nat} (h : partS (st.block.drop F) = .error (er, ln)) (h0 : (∀ x ∈ st.block, doB x = false) → F = 0) : EndRel st line (.error (er, ln)) := by
  refine ⟨fun hn => ?_, fun st' e => (by cases e), fun e1 e2 e => by injection e with e; injection e with e _; subst e; exact partS_err h⟩
  rw [h0 hn, List.drop_zero] at h
  unfold endS
  rw [h]
theorem EndRel.join {st : SS} {line : Int} {F : Nat} {Q : List Prog} {o : Option Prog} (h : partS (st.block.drop F) = .ok o) (h0 : (∀ x ∈ st.block, doB x = false) → F = 0 ∧ Q = []) {J : Prog} {je : Int} (hJ : joinS (Q ++ o.toList) = (J, je)) :
    EndRel st line (if je = 0 then .ok { st with progs := st.progs ++ [J], opn := 0 } else .error (je, line)) := by
  refine ⟨fun hn => ?_, fun st' e => ?_, fun e1 e2 e => ?_⟩
  · obtain ⟨rfl, rfl⟩ := h0 hn
    rw [List.drop_zero] at h
    rw [List.nil_append] at hJ
    unfold endS
    rw [h]
    simp only [hJ]
  · by_cases hz : je = 0
    · rw [if_pos hz] at e
      injection e with e
      refine ⟨J, ?_, e.symm⟩
      have := joinS_ok (P := Q ++ o.toList) (by rw [hJ]; exact hz)
      rw [hJ] at this
      exact this
    · rw [if_neg hz] at e; cases e
  · by_cases hz : je = 0
    · rw [if_pos hz] at e; cases e
    · rw [if_neg hz] at e
      injection e with e
      injection e with e _
      subst e; exact hz
theorem EndRel.deed {st : SS} {line er ln : Int} {x : BlkL} (hx : x ∈ st.block) (hd : doB x = true) (he : er ≠ 0) : EndRel st line (.error (er, ln)) :=
  ⟨fun hn => (by rw [hn x hx] at hd; cases hd), fun st' e => (by cases e), fun e1 e2 e => by injection e with e; injection e with e _; subst e; exact he⟩
theorem OwnP.slP {w : World} {B : Nat} {v : Value} {q : Prog} (h : OwnP w B v q) : ∃ x : SlP, v = slV x := by
  rcases OwnP.form h with ⟨e, _⟩ | ⟨g, cap, e⟩
  · exact ⟨(none, 0, 0), e⟩
  · exact ⟨(some g, q.length, cap), e⟩
section
variable {w : World} {B rb : Nat} {vs vp vk vb : Value} {pv : List SlP} {st : SS} {line : Int}
/-- a program is put behind -/
theorem Sr.push_prog (h : Sr w B rb vs vp vk vb pv st line) {O : Obj} {w8 : World} {v8 : Value} {x : SlP} {q : Prog} (hx : OwnP w B (slV x) q) (ho : OwnG slT w8 B v8 (pv ++ [x])) (hg : (w.alloc O).grownBy w8 vp.ownBlock) :
    Sr (w8.setCell ⟨rb, 7, none⟩ v8) B rb vs v8 vk vb (pv ++ [x]) { st with progs := st.progs ++ [q] } line ∧ Below B w (w8.setCell ⟨rb, 7, none⟩ v8) ∧ KeepT w (w8.setCell ⟨rb, 7, none⟩ v8) ∧ w8.heap[rb]? = some (.cells (rdCells st line vs vp vk vb) 69) := by
  have hbW : Below w.heap.size w (w.alloc O) := (Below.refl _ _).alloc (Nat.le_refl _) _
  have hW := h.below hbW
  have hxW := hx.below hbW
  have hos := hW.rows.op
  have gb := fun (g : Nat) (c : Array Value) (t : TypeId) (hgc : (w.alloc O).heap[g]? = some (.cells c t)) (ht : t ≠ 45) => grown_block (E := slT) hos hg hgc ht
  have hblk : w8.heap[rb]? = some (.cells (rdCells st line vs vp vk vb) 69) := (gb rb _ _ hW.blk (by decide)).trans hW.blk
  have hBw : B ≤ w.heap.size := by have := lt_of_block h.blk; have := h.ge; omega
  have keep : ∀ {y : SlP} {p : Prog}, OwnP (w.alloc O) B (slV y) p → OwnP w8 B (slV y) p := fun hy =>
    ownsRow_at hy fun g hv => by obtain ⟨c, hc⟩ := own_block hy hv; exact gb g c _ hc (by decide)
  have hr8 : SRows w8 B vs v8 vk vb (pv ++ [x]) { st with progs := st.progs ++ [q] } :=
    ⟨hW.rows.os.at fun g hv => by obtain ⟨c, hc⟩ := own_block hW.rows.os hv; exact gb g c _ hc (by decide), ho,
      hW.rows.ok.at fun g hv => by obtain ⟨c, hc⟩ := own_block hW.rows.ok hv; exact gb g c _ hc (by decide),
      hW.rows.ob.at fun g hv => by obtain ⟨c, hc⟩ := own_block hW.rows.ob hv; exact gb g c _ hc (by decide),
      by simp [hW.rows.pl], fun j y p hy hp => by
        have hpl := hW.rows.pl
        simp only at hp
        rcases Nat.lt_trichotomy j pv.length with hj | hj | hj
        · rw [List.getElem?_append_left hj] at hy
          rw [List.getElem?_append_left (by rw [← hpl]; exact hj)] at hp
          exact keep (hW.rows.pr j y p hy hp)
        · subst hj
          rw [List.getElem?_append_right (Nat.le_refl _)] at hy
          rw [hpl, List.getElem?_append_right (Nat.le_refl _)] at hp
          simp at hy hp
          subst hy; subst hp
          exact keep hxW
        · rw [List.getElem?_append_right (by omega)] at hy
          rw [List.getElem?_eq_none (by simp; omega)] at hy
          cases hy⟩
  have ne : ∀ (g : Nat) (c : Array Value) (t : TypeId), w8.heap[g]? = some (.cells c t) → t ≠ 69 → (w8.setCell ⟨rb, 7, none⟩ v8).heap[g]? = w8.heap[g]? := fun g c t hgc ht =>
    heap_setCell_other _ _ _ _ fun e => by
      have e2 : g = rb := e
      rw [e2, hblk] at hgc
      injection hgc with hgc
      injection hgc with _ hgc
      exact ht hgc.symm
  refine ⟨⟨?_, h.ge, hr8.at ne⟩, ?_, ?_, hblk⟩
  · rw [heap_setCell_same w8 rb 7 _ _ v8 hblk]; rfl
  · exact (((Below.refl B w).alloc hBw _).grown hg (by simp; omega) (fun k hk => own_ge hos hk)).setCell (p := ⟨rb, 7, none⟩) h.ge _
  · exact ((KeepT.of_below hbW).trans (KeepT.grown hos (.inr (.inr (.inl rfl))) hg)).trans (KeepT.set hblk (.inl rfl))
/-- the lines of a block as a slice -/
theorem Sr.lines (h : Sr w B rb vs vp vk vb pv st line) : ∃ ao c, vb = .slice ao st.block.length c ∧ ((ao = none ∧ c = 0 ∧ st.block = []) ∨ ∃ g, ao = some ⟨g, 0, none⟩ ∧ st.block.length ≤ c ∧ c ≤ maxLen ∧
    (∃ cc, w.heap[g]? = some (.cells cc 77)) ∧ ∀ (j : Nat) x, st.block[j]? = some x → w.cell? ⟨g, j * 3, none⟩ = some (.int .i64 x.1) ∧ w.cell? ⟨g, j * 3 + 1, none⟩ = some (.string (S x.2.1)) ∧ w.cell? ⟨g, j * 3 + 2, none⟩ = some (.string (S x.2.2))) := by
  have ho := h.rows.ob
  rcases ho.form with ⟨e, hn⟩ | ⟨g, cap, e⟩
  · rw [hn]
    exact ⟨none, 0, e, .inl ⟨rfl, rfl, rfl⟩⟩
  · refine ⟨_, _, e, .inr ⟨g, rfl, ?_⟩⟩
    rw [e] at ho
    have ho2 := ho
    obtain ⟨_, hcap⟩ := ho2
    rcases hcap with ⟨e0, _⟩ | ⟨g1, cap1, cur, e1, _, hblk, hle, hmx, _⟩
    · injection e0 with e0; cases e0
    · injection e1 with e1 _ e4
      injection e1 with e1
      injection e1 with e1 _ _
      subst e1; subst e4
      refine ⟨hle, hmx, ⟨cur, hblk⟩, fun j x hx => ⟨?_, ?_, ?_⟩⟩
      · exact ho.cell (i := 0) hx rfl
      · exact ho.cell (i := 1) hx rfl
      · exact ho.cell (i := 2) hx rfl
end
/-- a stretch of a block -/
theorem SeesL.stretch {w : World} {g : Nat} {L : List BlkL} (hb : ∃ cc, w.heap[g]? = some (.cells cc 77)) (hc : ∀ (j : Nat) x, L[j]? = some x → w.cell? ⟨g, j * 3, none⟩ = some (.int .i64 x.1) ∧ w.cell? ⟨g, j * 3 + 1, none⟩ = some (.string (S x.2.1)) ∧ w.cell? ⟨g, j * 3 + 2, none⟩ = some (.string (S x.2.2))) (F m : Nat) :
    SeesL w (some ⟨g, F * 3, none⟩) ((L.drop F).take m) := by
  refine ⟨g, F * 3, fun _ => ⟨rfl, hb⟩, fun j x hx => ?_⟩
  have hx2 : L[F + j]? = some x := by
    rw [List.getElem?_take] at hx
    split at hx
    · rw [List.getElem?_drop] at hx; exact hx
    · cases hx
  obtain ⟨a, b, c⟩ := hc _ x hx2
  rw [show F * 3 + j * 3 = (F + j) * 3 by omega]
  exact ⟨a, b, c⟩
theorem SeesL.below {w w' : World} {ao : Option Addr} {L : List BlkL} (h : SeesL w ao L) (hb : Below w.heap.size w w') : SeesL w' ao L := by
  obtain ⟨b, o, h1, h2⟩ := h
  refine ⟨b, o, fun hn => ?_, fun j x hx => ?_⟩
  · obtain ⟨e, cc, hc⟩ := h1 hn
    exact ⟨e, cc, (hb.block _ (lt_of_block hc)).trans hc⟩
  · obtain ⟨d0, d1, d2⟩ := h2 j x hx
    exact ⟨(hb.cell (p := ⟨b, _, none⟩) (block_lt_of_cell d0)).trans d0, (hb.cell (p := ⟨b, _, none⟩) (block_lt_of_cell d1)).trans d1, (hb.cell (p := ⟨b, _, none⟩) (block_lt_of_cell d2)).trans d2⟩
theorem PartDoes.ok {L : List BlkL} {w w' : World} {e : Ending} {o : Option Prog} (h : partS L = .ok o) (hd : PartDoes L w e w') : ∃ ap np cp, e = .returned (.slice ap np cp) ∧ Below w.heap.size w w' ∧
    ((o = Option.none ∧ ap = Option.none ∧ np = 0 ∧ cp = 0) ∨ ∃ p g, o = Option.some p ∧ ap = Option.some ⟨g, 0, Option.none⟩ ∧ OwnP w' w.heap.size (slV (Option.some g, np, cp)) p ∧ p.length ≤ 100000) := by
  unfold PartDoes at hd
  rw [h] at hd
  cases o with
  | none => obtain ⟨rfl, hb⟩ := hd; exact ⟨Option.none, 0, 0, rfl, hb, .inl ⟨rfl, rfl, rfl, rfl⟩⟩
  | some p =>
    obtain ⟨v, rfl, ho, hb⟩ := hd
    have hl := partS_len h
    rcases OwnP.form ho with ⟨_, e⟩ | ⟨g, cap, e⟩
    · subst e; simp at hl
    · subst e
      exact ⟨_, _, _, rfl, hb, .inr ⟨p, g, rfl, rfl, ho, by omega⟩⟩
theorem SeesL.none (w : World) (ao : Option Addr) : SeesL w ao [] := ⟨0, 0, fun h => absurd rfl h, fun j x h => by simp at h⟩
theorem textL_drop (L : List BlkL) (F m : Nat) : (textL ((L.drop F).take m)).length ≤ (textL L).length := by
  have e : textL L = textL (L.take F) ++ (textL ((L.drop F).take m) ++ textL ((L.drop F).drop m)) := by
    conv => lhs; rw [← List.take_append_drop F L, ← List.take_append_drop m (L.drop F)]
    unfold textL
    rw [List.flatMap_append, List.flatMap_append]
  rw [e, List.length_append, List.length_append]; omega
end Go.Proofs.YtoiokbdipcecnaaGreatDoor
