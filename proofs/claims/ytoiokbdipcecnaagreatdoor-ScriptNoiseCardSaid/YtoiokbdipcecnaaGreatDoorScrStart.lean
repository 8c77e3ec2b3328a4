/-
  (*reader).start, (*reader).picks of a script's reader: every call. Condition: the reader's place in memory (Sr), sizes.
  And: quash/space.Check, (*reader).config of a script's reader: every call. Condition: the reader's place in memory (Sr).
  And: (*reader).thread, (*reader).drain of a script's reader: every call. Condition: the reader's place in memory (Sr).
-/
import Derived.Test.YtoiokbdipcecnaaGreatDoorScrRd
import Derived.StillTailTactics
import Derived.BigQuiet
import Derived.Deep.QuietTactic
namespace Go.Proofs.YtoiokbdipcecnaaGreatDoor
open Go.RowKit
set_option maxRecDepth 100000

/-- a slice of ints reads as a list -/
def SeesN (w : World) (ao : Option Addr) (ns : List Int) : Prop := ∃ b o, (ns ≠ [] → ao = some ⟨b, o, none⟩ ∧ ∃ cc, w.heap[b]? = some (.cells cc 3)) ∧ ∀ (j : Nat) x, ns[j]? = some x → w.cell? ⟨b, o + j, none⟩ = some (.int .i64 x)
theorem SeesN.below {w w' : World} {ao : Option Addr} {L : List Int} (h : SeesN w ao L) (hb : Below w.heap.size w w') : SeesN w' ao L := by
  obtain ⟨b, o, h1, h2⟩ := h
  refine ⟨b, o, (fun hne => ?_), fun j x hx => ?_⟩
  · obtain ⟨e, cc, hc⟩ := h1 hne
    exact ⟨e, cc, (hb.block _ (lt_of_block hc)).trans hc⟩
  · have := h2 j x hx
    exact (hb.cell (p := ⟨b, o + j, none⟩) (block_lt_of_cell this)).trans this
theorem SeesN.of_own {w : World} {B : Nat} {v : Value} {L : List Int} (h : OwnG intT w B v L) : ∃ ao c, v = .slice ao L.length c ∧ SeesN w ao L ∧ (ao = none → c = 0) := by
  rcases h.form with ⟨rfl, rfl⟩ | ⟨g, c, rfl⟩
  · exact ⟨none, 0, rfl, ⟨0, 0, (fun e => absurd rfl e), (fun j x hx => by simp at hx)⟩, fun _ => rfl⟩
  · refine ⟨_, _, rfl, ⟨g, 0, fun _ => ⟨rfl, own_block h rfl⟩, fun j x hx => ?_⟩, fun e => by cases e⟩
    have := h.cell (i := 0) hx (u := .int .i64 x) rfl
    rw [show j * intT.size + 0 = 0 + j by show j * 1 + 0 = 0 + j; omega] at this
    exact this
def threadS (st : SS) (line : Int) (ns : List Int) : Except Int SS :=
  if (st.stage ≠ 1 ∧ st.stage ≠ 2) ∨ ns.length ≠ 0 then .error 233
  else if st.progs.length = 8 then .error 231
  else .ok { st with stage := 2, opn := line, block := [] }
def drainS (st : SS) (ns : List Int) : Except Int SS :=
  if (st.stage ≠ 2 ∧ st.stage ≠ 3) ∨ ns.length ≠ 1 then .error 233
  else if ns.getD 0 0 < 0 ∨ 65536 < ns.getD 0 0 then .error 232
  else .ok { st with stage := 4, drain := ns.getD 0 0 }
section
variable {w : World} {B rb : Nat} {vs vp vk vb : Value} {pv : List SlP} {st : SS} {line : Int}
theorem SRows.retell {st' : SS} (h : SRows w B vs vp vk vb pv st) (h1 : st'.start = st.start) (h2 : st'.progs = st.progs) (h3 : st'.picks = st.picks) (h4 : st'.block = st.block) : SRows w B vs vp vk vb pv st' :=
  ⟨by rw [h1]; exact h.os, h.op, by rw [h3]; exact h.ok, by rw [h4]; exact h.ob, by rw [h2]; exact h.pl, by rw [h2]; exact h.pr⟩
set_option maxHeartbeats 2000000 in
theorem thread_any (ao : Option Addr) (c n : Nat) (ns : List Int) (hn : n = ns.length) (hn2 : n ≤ 1048576) (h : Sr w B rb vs vp vk vb pv st line) :
    Calls Tryz.prog 58 #[.pointer (some ⟨rb, 0, none⟩), .slice ao n c] w (SrDoes w B rb line (threadS st line ns)) := by
  obtain ⟨hc, hf⟩ := h.cells
  have c7 := hc 7 vp rfl
  have c10 := hc 10 (.int .i64 st.stage) rfl
  have c11 := hc 11 (.int .i64 line) rfl
  have c12 := hc 12 (.int .i64 st.opn) rfl
  have c13 := hc 13 vb rfl
  have f10 := hf 10
  have f12 := hf 12
  have f13 := hf 13
  obtain ⟨ap, cp, rfl⟩ := h.rows.op.slice
  have hpl := h.rows.pl
  have H := Lib.hid h
  have hB : Below B w w := Below.refl _ _
  obtain ⟨res, hres⟩ : ∃ res, threadS st line ns = res := ⟨_, rfl⟩
  rw [hres]
  unfold threadS at hres
  generalize hst : st.stage = sg at c10 hres
  rw [hpl] at c7
  rw [← hn] at hres
  have HST := Lib.hid hst
  clear hc hf hn hpl h hst
  by_cases hbad : (sg ≠ 1 ∧ sg ≠ 2) ∨ n ≠ 0
  · rw [if_pos hbad] at hres
    have HR := Lib.hid hres.symm
    clear hres
    by_cases s1 : sg = 1
    · have n0 : ((n : Int) != 0) = true := by simp; omega
      subst s1
      clear hbad
      go_enter Tryz.func58, Tryz.ntmps58
      go_wp2_with (go_at_call 33; refine (sfail_any _ _ line _).mono ?_; rintro e w2 ⟨rfl, rfl⟩)
      exact ⟨rfl, SrDoes.bad HR.out hB (KeepT.refl _)⟩
    · have s11 : (sg != 1) = true := by simpa using s1
      by_cases s2 : sg = 2
      · have n0 : ((n : Int) != 0) = true := by simp; omega
        subst s2
        clear hbad s1
        go_enter Tryz.func58, Tryz.ntmps58
        go_wp2_with (go_at_call 33; refine (sfail_any _ _ line _).mono ?_; rintro e w2 ⟨rfl, rfl⟩)
        exact ⟨rfl, SrDoes.bad HR.out hB (KeepT.refl _)⟩
      · have s21 : (sg != 2) = true := by simpa using s2
        clear hbad s1 s2
        go_enter Tryz.func58, Tryz.ntmps58
        go_wp2_with (go_at_call 33; refine (sfail_any _ _ line _).mono ?_; rintro e w2 ⟨rfl, rfl⟩)
        exact ⟨rfl, SrDoes.bad HR.out hB (KeepT.refl _)⟩
  · rw [if_neg hbad] at hres
    obtain rfl : n = 0 := by omega
    have hsg : sg = 1 ∨ sg = 2 := by omega
    by_cases h8 : st.progs.length = 8
    · rw [if_pos h8] at hres
      have HR := Lib.hid hres.symm
      have h81 : ((st.progs.length : Int) == 8) = true := by rw [h8]; rfl
      clear hres hbad h8
      rcases hsg with rfl | rfl
      all_goals
        go_enter Tryz.func58, Tryz.ntmps58
        go_wp2_with (go_at_call 33; refine (sfail_any _ _ line _).mono ?_; rintro e w2 ⟨rfl, rfl⟩)
        exact ⟨rfl, SrDoes.bad HR.out hB (KeepT.refl _)⟩
    · rw [if_neg h8] at hres
      have HR := Lib.hid hres.symm
      have h81 : ((st.progs.length : Int) == 8) = false := by simp; omega
      clear hres hbad h8
      rcases hsg with rfl | rfl
      all_goals
        go_enter Tryz.func58, Tryz.ntmps58
        go_wp2
        go_end0
        have h1 := H.out.set 10 (.int .i64 2) (st' := { st with stage := 2 }) rfl (H.out.rows.retell rfl rfl rfl rfl)
        have h2 := h1.set 12 (.int .i64 line) (st' := { st with stage := 2, opn := line }) rfl (h1.rows.retell rfl rfl rfl rfl)
        have h3 := h2.set 13 (.slice none 0 0) (st' := { st with stage := 2, opn := line, block := [] }) (vb' := .slice none 0 0) rfl ⟨h2.rows.os, h2.rows.op, h2.rows.ok, OwnG.nil _ _ _, h2.rows.pl, h2.rows.pr⟩
        exact SrDoes.good HR.out h3 (((hB.setCell (p := ⟨rb, 10, none⟩) H.out.ge _).setCell (p := ⟨rb, 12, none⟩) H.out.ge _).setCell (p := ⟨rb, 13, none⟩) H.out.ge _)
          (((KeepT.set H.out.blk (.inl rfl)).trans (KeepT.set h1.blk (.inl rfl))).trans (KeepT.set h2.blk (.inl rfl)))
set_option maxHeartbeats 2000000 in
theorem drain_any (ao : Option Addr) (c n : Nat) (ns : List Int) (hn : n = ns.length) (hn2 : n ≤ 1048576) (hs : SeesN w ao ns) (h : Sr w B rb vs vp vk vb pv st line) :
    Calls Tryz.prog 60 #[.pointer (some ⟨rb, 0, none⟩), .slice ao n c] w (SrDoes w B rb line (drainS st ns)) := by
  obtain ⟨hc, hf⟩ := h.cells
  have c9 := hc 9 (.int .i64 st.drain) rfl
  have c10 := hc 10 (.int .i64 st.stage) rfl
  have c11 := hc 11 (.int .i64 line) rfl
  have f9 := hf 9
  have f10 := hf 10
  have H := Lib.hid h
  have hB : Below B w w := Below.refl _ _
  obtain ⟨res, hres⟩ : ∃ res, drainS st ns = res := ⟨_, rfl⟩
  rw [hres]
  unfold drainS at hres
  generalize hst : st.stage = sg at c10 hres
  rw [← hn] at hres
  have HST := Lib.hid hst
  clear hc hf h hst
  by_cases hbad : (sg ≠ 2 ∧ sg ≠ 3) ∨ n ≠ 1
  · rw [if_pos hbad] at hres
    have HR := Lib.hid hres.symm
    clear hres hn hs
    by_cases s1 : sg = 2
    · have n0 : ((n : Int) != 1) = true := by simp; omega
      subst s1
      clear hbad
      go_enter Tryz.func60, Tryz.ntmps60
      go_wp2_with (go_at_call 33; refine (sfail_any _ _ line _).mono ?_; rintro e w2 ⟨rfl, rfl⟩)
      exact ⟨rfl, SrDoes.bad HR.out hB (KeepT.refl _)⟩
    · have s11 : (sg != 2) = true := by simpa using s1
      by_cases s2 : sg = 3
      · have n0 : ((n : Int) != 1) = true := by simp; omega
        subst s2
        clear hbad s1
        go_enter Tryz.func60, Tryz.ntmps60
        go_wp2_with (go_at_call 33; refine (sfail_any _ _ line _).mono ?_; rintro e w2 ⟨rfl, rfl⟩)
        exact ⟨rfl, SrDoes.bad HR.out hB (KeepT.refl _)⟩
      · have s21 : (sg != 3) = true := by simpa using s2
        clear hbad s1 s2
        go_enter Tryz.func60, Tryz.ntmps60
        go_wp2_with (go_at_call 33; refine (sfail_any _ _ line _).mono ?_; rintro e w2 ⟨rfl, rfl⟩)
        exact ⟨rfl, SrDoes.bad HR.out hB (KeepT.refl _)⟩
  · rw [if_neg hbad] at hres
    obtain rfl : n = 1 := by omega
    have hsg : sg = 2 ∨ sg = 3 := by omega
    obtain ⟨x, rfl⟩ := List.length_eq_one_iff.1 hn.symm
    obtain ⟨b, o, hao, hx⟩ := hs
    obtain ⟨rfl, -⟩ := hao (by simp)
    have hx0 := hx 0 x rfl
    rw [Nat.add_zero] at hx0
    rw [show ([x] : List Int).getD 0 0 = x from rfl] at hres
    clear hx hn hao hbad
    by_cases hr : x < 0 ∨ 65536 < x
    · rw [if_pos hr] at hres
      have HR := Lib.hid hres.symm
      clear hres
      by_cases h0 : x < 0
      all_goals
        first
          | (have h1 : 65536 < x := by omega)
          | skip
        clear hr
        rcases hsg with rfl | rfl
        all_goals
          go_enter Tryz.func60, Tryz.ntmps60
          go_wp2_with (go_at_call 33; refine (sfail_any _ _ line _).mono ?_; rintro e w2 ⟨rfl, rfl⟩)
          exact ⟨rfl, SrDoes.bad HR.out hB (KeepT.refl _)⟩
    · rw [if_neg hr] at hres
      have HR := Lib.hid hres.symm
      have h0 : ¬ x < 0 := by omega
      have h1 : ¬ 65536 < x := by omega
      clear hres hr
      rcases hsg with rfl | rfl
      all_goals
        go_enter Tryz.func60, Tryz.ntmps60
        go_wp2
        go_end0
        have h1 := H.out.set 9 (.int .i64 x) (st' := { st with drain := x }) rfl (H.out.rows.retell rfl rfl rfl rfl)
        have h2 := h1.set 10 (.int .i64 4) (st' := { st with stage := 4, drain := x }) rfl (h1.rows.retell rfl rfl rfl rfl)
        exact SrDoes.good HR.out h2 ((hB.setCell (p := ⟨rb, 9, none⟩) H.out.ge _).setCell (p := ⟨rb, 10, none⟩) H.out.ge _)
          ((KeepT.set H.out.blk (.inl rfl)).trans (KeepT.set h1.blk (.inl rfl)))
end
end Go.Proofs.YtoiokbdipcecnaaGreatDoor
namespace Go.Proofs.YtoiokbdipcecnaaGreatDoor
open Go.RowKit
set_option maxRecDepth 100000

def inB (n lo hi : Int) : Bool := decide (lo ≤ n) && decide (n ≤ hi)
theorem in_any (n lo hi : Int) (w : World) : Calls Tryz.prog 34 #[.int .i64 n, .int .i64 lo, .int .i64 hi] w fun e w' => e = .returned (.bool (inB n lo hi)) ∧ w = w' := by
  by_cases h1 : lo ≤ n
  · by_cases h2 : n ≤ hi
    · have h : inB n lo hi = true := by simp [inB, h1, h2]
      rw [h]
      go_enter Tryz.func34, Tryz.ntmps34
      go_wp2
      go_ret
      exact ⟨rfl, rfl⟩
    · have h : inB n lo hi = false := by simp [inB, h2]
      rw [h]
      go_enter Tryz.func34, Tryz.ntmps34
      go_wp2
      go_ret
      exact ⟨rfl, rfl⟩
  · have h : inB n lo hi = false := by simp [inB, h1]
    rw [h]
    go_enter Tryz.func34, Tryz.ntmps34
    go_wp2
    go_ret
    exact ⟨rfl, rfl⟩
/-- may a config be? -/
def cfgB (c : List Int) : Bool := inB (c.getD 0 0) 1 256 && inB (c.getD 1 0) 1 8 && inB (c.getD 2 0) 1 128 && inB (c.getD 3 0) 1 3 && inB (c.getD 4 0) 0 8 && inB (c.getD 5 0) 0 64
def cfgV (c : List Int) : Value := .agg #[.int .i64 (c.getD 0 0), .int .i64 (c.getD 1 0), .int .i64 (c.getD 2 0), .int .i64 (c.getD 3 0), .int .i64 (c.getD 4 0), .int .i64 (c.getD 5 0)]
set_option maxHeartbeats 2000000 in
theorem spaceCheck_any (c : List Int) (w : World) : Calls Tryz.prog 15 #[cfgV c] w fun e w' => e = .returned (.int .i64 (if cfgB c then 0 else 1)) ∧ Below w.heap.size w w' := by
  unfold cfgV cfgB
  generalize c.getD 0 0 = c0
  generalize c.getD 1 0 = c1
  generalize c.getD 2 0 = c2
  generalize c.getD 3 0 = c3
  generalize c.getD 4 0 = c4
  generalize c.getD 5 0 = c5
  cases e0 : inB c0 1 256 with
  | false =>
    have He0 := Lib.hid e0
    clear e0
    go_enter Tryz.func15, Tryz.ntmps15
    go_wp2_with (go_at_call 34; refine (in_any _ _ _ _).mono ?_; rintro e w2 ⟨rfl, rfl⟩; first | rw [He0.out])
    go_ret
    exact ⟨rfl, (Below.refl _ _).alloc (Nat.le_refl _) _⟩
  | true =>
    cases e1 : inB c1 1 8 with
    | false =>
      have He0 := Lib.hid e0
      have He1 := Lib.hid e1
      clear e0 e1
      go_enter Tryz.func15, Tryz.ntmps15
      go_wp2_with (go_at_call 34; refine (in_any _ _ _ _).mono ?_; rintro e w2 ⟨rfl, rfl⟩; first | rw [He0.out] | rw [He1.out])
      go_ret
      exact ⟨rfl, (Below.refl _ _).alloc (Nat.le_refl _) _⟩
    | true =>
      cases e2 : inB c2 1 128 with
      | false =>
        have He0 := Lib.hid e0
        have He1 := Lib.hid e1
        have He2 := Lib.hid e2
        clear e0 e1 e2
        go_enter Tryz.func15, Tryz.ntmps15
        go_wp2_with (go_at_call 34; refine (in_any _ _ _ _).mono ?_; rintro e w2 ⟨rfl, rfl⟩; first | rw [He0.out] | rw [He1.out] | rw [He2.out])
        go_ret
        exact ⟨rfl, (Below.refl _ _).alloc (Nat.le_refl _) _⟩
      | true =>
        cases e3 : inB c3 1 3 with
        | false =>
          have He0 := Lib.hid e0
          have He1 := Lib.hid e1
          have He2 := Lib.hid e2
          have He3 := Lib.hid e3
          clear e0 e1 e2 e3
          go_enter Tryz.func15, Tryz.ntmps15
          go_wp2_with (go_at_call 34; refine (in_any _ _ _ _).mono ?_; rintro e w2 ⟨rfl, rfl⟩; first | rw [He0.out] | rw [He1.out] | rw [He2.out] | rw [He3.out])
          go_ret
          exact ⟨rfl, (Below.refl _ _).alloc (Nat.le_refl _) _⟩
        | true =>
          cases e4 : inB c4 0 8 with
          | false =>
            have He0 := Lib.hid e0
            have He1 := Lib.hid e1
            have He2 := Lib.hid e2
            have He3 := Lib.hid e3
            have He4 := Lib.hid e4
            clear e0 e1 e2 e3 e4
            go_enter Tryz.func15, Tryz.ntmps15
            go_wp2_with (go_at_call 34; refine (in_any _ _ _ _).mono ?_; rintro e w2 ⟨rfl, rfl⟩; first | rw [He0.out] | rw [He1.out] | rw [He2.out] | rw [He3.out] | rw [He4.out])
            go_ret
            exact ⟨rfl, (Below.refl _ _).alloc (Nat.le_refl _) _⟩
          | true =>
            cases e5 : inB c5 0 64 with
            | false =>
              have He0 := Lib.hid e0
              have He1 := Lib.hid e1
              have He2 := Lib.hid e2
              have He3 := Lib.hid e3
              have He4 := Lib.hid e4
              have He5 := Lib.hid e5
              clear e0 e1 e2 e3 e4 e5
              go_enter Tryz.func15, Tryz.ntmps15
              go_wp2_with (go_at_call 34; refine (in_any _ _ _ _).mono ?_; rintro e w2 ⟨rfl, rfl⟩; first | rw [He0.out] | rw [He1.out] | rw [He2.out] | rw [He3.out] | rw [He4.out] | rw [He5.out])
              go_ret
              exact ⟨rfl, (Below.refl _ _).alloc (Nat.le_refl _) _⟩
            | true =>
              have He0 := Lib.hid e0
              have He1 := Lib.hid e1
              have He2 := Lib.hid e2
              have He3 := Lib.hid e3
              have He4 := Lib.hid e4
              have He5 := Lib.hid e5
              clear e0 e1 e2 e3 e4 e5
              go_enter Tryz.func15, Tryz.ntmps15
              go_wp2_with (go_at_call 34; refine (in_any _ _ _ _).mono ?_; rintro e w2 ⟨rfl, rfl⟩; first | rw [He0.out] | rw [He1.out] | rw [He2.out] | rw [He3.out] | rw [He4.out] | rw [He5.out])
              go_ret
              exact ⟨rfl, (Below.refl _ _).alloc (Nat.le_refl _) _⟩
def configS (st : SS) (ns : List Int) : Except Int SS :=
  if st.stage ≠ 0 ∨ ns.length ≠ 6 then .error 233
  else if cfgB ns then .ok { st with c := ns, stage := 1 } else .error 1
section
variable {w : World} {B rb : Nat} {vs vp vk vb : Value} {pv : List SlP} {st : SS} {line : Int}
theorem Sr.set6 (h : Sr w B rb vs vp vk vb pv st line) (n0 n1 n2 n3 n4 n5 : Int) :
    Sr ((((((w.setCell ⟨rb, 0, none⟩ (.int .i64 n0)).setCell ⟨rb, 1, none⟩ (.int .i64 n1)).setCell ⟨rb, 2, none⟩ (.int .i64 n2)).setCell ⟨rb, 3, none⟩ (.int .i64 n3)).setCell ⟨rb, 4, none⟩ (.int .i64 n4)).setCell ⟨rb, 5, none⟩ (.int .i64 n5)).drew B rb vs vp vk vb pv { st with c := [n0, n1, n2, n3, n4, n5] } line ∧
    Below B w ((((((w.setCell ⟨rb, 0, none⟩ (.int .i64 n0)).setCell ⟨rb, 1, none⟩ (.int .i64 n1)).setCell ⟨rb, 2, none⟩ (.int .i64 n2)).setCell ⟨rb, 3, none⟩ (.int .i64 n3)).setCell ⟨rb, 4, none⟩ (.int .i64 n4)).setCell ⟨rb, 5, none⟩ (.int .i64 n5)).drew ∧
    KeepT w ((((((w.setCell ⟨rb, 0, none⟩ (.int .i64 n0)).setCell ⟨rb, 1, none⟩ (.int .i64 n1)).setCell ⟨rb, 2, none⟩ (.int .i64 n2)).setCell ⟨rb, 3, none⟩ (.int .i64 n3)).setCell ⟨rb, 4, none⟩ (.int .i64 n4)).setCell ⟨rb, 5, none⟩ (.int .i64 n5)).drew := by
  have h0 := h.set 0 (.int .i64 n0) (st' := { st with c := [n0, st.c.getD 1 0, st.c.getD 2 0, st.c.getD 3 0, st.c.getD 4 0, st.c.getD 5 0] }) rfl (h.rows.retell rfl rfl rfl rfl)
  have h1 := h0.set 1 (.int .i64 n1) (st' := { st with c := [n0, n1, st.c.getD 2 0, st.c.getD 3 0, st.c.getD 4 0, st.c.getD 5 0] }) rfl (h0.rows.retell rfl rfl rfl rfl)
  have h2 := h1.set 2 (.int .i64 n2) (st' := { st with c := [n0, n1, n2, st.c.getD 3 0, st.c.getD 4 0, st.c.getD 5 0] }) rfl (h1.rows.retell rfl rfl rfl rfl)
  have h3 := h2.set 3 (.int .i64 n3) (st' := { st with c := [n0, n1, n2, n3, st.c.getD 4 0, st.c.getD 5 0] }) rfl (h2.rows.retell rfl rfl rfl rfl)
  have h4 := h3.set 4 (.int .i64 n4) (st' := { st with c := [n0, n1, n2, n3, n4, st.c.getD 5 0] }) rfl (h3.rows.retell rfl rfl rfl rfl)
  have h5 := h4.set 5 (.int .i64 n5) (st' := { st with c := [n0, n1, n2, n3, n4, n5] }) rfl (h4.rows.retell rfl rfl rfl rfl)
  have hg := h.ge
  refine ⟨h5.below (Below.refl _ _).drew, ?_, ?_⟩
  · exact (((((((Below.refl B w).setCell (p := ⟨rb, 0, none⟩) hg _).setCell (p := ⟨rb, 1, none⟩) hg _).setCell (p := ⟨rb, 2, none⟩) hg _).setCell (p := ⟨rb, 3, none⟩) hg _).setCell (p := ⟨rb, 4, none⟩) hg _).setCell (p := ⟨rb, 5, none⟩) hg _).drew
  · exact ((((((KeepT.set h.blk (.inl rfl)).trans (KeepT.set h0.blk (.inl rfl))).trans (KeepT.set h1.blk (.inl rfl))).trans (KeepT.set h2.blk (.inl rfl))).trans (KeepT.set h3.blk (.inl rfl))).trans (KeepT.set h4.blk (.inl rfl))).trans (KeepT.of_below (Below.refl _ _).drew)
set_option maxHeartbeats 4000000 in
theorem config_any (ao : Option Addr) (c n : Nat) (ns : List Int) (hn : n = ns.length) (hn2 : n ≤ 1048576) (hs : SeesN w ao ns) (h : Sr w B rb vs vp vk vb pv st line) :
    Calls Tryz.prog 56 #[.pointer (some ⟨rb, 0, none⟩), .slice ao n c] w (SrDoes w B rb line (configS st ns)) := by
  obtain ⟨hc, hf⟩ := h.cells
  have c10 := hc 10 (.int .i64 st.stage) rfl
  have c11 := hc 11 (.int .i64 line) rfl
  have f10 := hf 10
  have H := Lib.hid h
  have hB : Below B w w := Below.refl _ _
  obtain ⟨res, hres⟩ : ∃ res, configS st ns = res := ⟨_, rfl⟩
  rw [hres]
  unfold configS at hres
  generalize hst : st.stage = sg at c10 hres
  rw [← hn] at hres
  have HST := Lib.hid hst
  have HC := Lib.hid hc
  have HF := Lib.hid hf
  clear hc hf h hst
  by_cases hbad : sg ≠ 0 ∨ n ≠ 6
  · rw [if_pos hbad] at hres
    have HR := Lib.hid hres.symm
    clear hres hn hs
    by_cases s1 : sg = 0
    · have n0 : ((n : Int) != 6) = true := by simp; omega
      subst s1
      clear hbad
      go_enter Tryz.func56, Tryz.ntmps56
      go_wp2_with (go_at_call 33; refine (sfail_any _ _ line _).mono ?_; rintro e w2 ⟨rfl, rfl⟩)
      exact ⟨rfl, SrDoes.bad HR.out hB (KeepT.refl _)⟩
    · have s11 : (sg != 0) = true := by simpa using s1
      clear hbad s1
      go_enter Tryz.func56, Tryz.ntmps56
      go_wp2_with (go_at_call 33; refine (sfail_any _ _ line _).mono ?_; rintro e w2 ⟨rfl, rfl⟩)
      exact ⟨rfl, SrDoes.bad HR.out hB (KeepT.refl _)⟩
  · rw [if_neg hbad] at hres
    obtain rfl : n = 6 := by omega
    obtain rfl : sg = 0 := by omega
    obtain ⟨n0, n1, n2, n3, n4, n5, rfl⟩ : ∃ a b c d e f, ns = [a, b, c, d, e, f] := by
      match ns, hn with
      | [a, b, c, d, e, f], _ => exact ⟨a, b, c, d, e, f, rfl⟩
    obtain ⟨b, o, hao, hx⟩ := hs
    obtain ⟨rfl, -⟩ := hao (by simp)
    have x0 := hx 0 n0 rfl
    have x1 := hx 1 n1 rfl
    have x2 := hx 2 n2 rfl
    have x3 := hx 3 n3 rfl
    have x4 := hx 4 n4 rfl
    have x5 := hx 5 n5 rfl
    rw [Nat.add_zero] at x0
    have q0 := HC.out 0 _ rfl
    have q1 := HC.out 1 _ rfl
    have q2 := HC.out 2 _ rfl
    have q3 := HC.out 3 _ rfl
    have q4 := HC.out 4 _ rfl
    have q5 := HC.out 5 _ rfl
    have r0 := HF.out 0
    have r1 := HF.out 1
    have r2 := HF.out 2
    have r3 := HF.out 3
    have r4 := HF.out 4
    have r5 := HF.out 5
    have HRES := Lib.hid hres
    have l6 : (0 : Int) < 6 := by decide
    clear hres hn hx hao hbad
    go_enter Tryz.func56, Tryz.ntmps56
    go_wp2
    go_still_tail 23, (by kernel_rfl)
    go_upto_region 3 with (fail)
    obtain ⟨g1, g2, g3⟩ := H.out.set6 n0 n1 n2 n3 n4 n5
    refine wp_gen (fun W => Sr W B rb vs vp vk vb pv { st with c := [n0, n1, n2, n3, n4, n5] } line ∧ Below B w W ∧ KeepT w W) ⟨g1, g2, g3⟩ ?_
    rintro W ⟨hW, hBW, hKW⟩
    clear g1 g2 g3 x0 x1 x2 x3 x4 x5 q0 q1 q2 q3 q4 q5 r0 r1 r2 r3 r4 r5 c10 c11 f10
    have HW := Lib.hid hW
    have HBW := Lib.hid hBW
    have HKW := Lib.hid hKW
    obtain ⟨hc2, hf2⟩ := hW.cells
    have q0 := hc2 0 (.int .i64 n0) rfl
    have q1 := hc2 1 (.int .i64 n1) rfl
    have q2 := hc2 2 (.int .i64 n2) rfl
    have q3 := hc2 3 (.int .i64 n3) rfl
    have q4 := hc2 4 (.int .i64 n4) rfl
    have q5 := hc2 5 (.int .i64 n5) rfl
    have hchk := fun W' => spaceCheck_any [n0, n1, n2, n3, n4, n5] W'
    have hresx := HRES.out
    cases hcf : cfgB [n0, n1, n2, n3, n4, n5] with
    | false =>
      rw [hcf] at hchk hresx
      have HCHK := Lib.hid hchk
      have HR := Lib.hid (show res = .error 1 from hresx.symm)
      clear hchk hresx hcf hW hBW hKW hc2 hf2
      go_wp2_with (first
        | (go_at_call 15; go_must (refine (HCHK.out _).mono ?_; rintro e w2 ⟨rfl, hb2⟩; have HB2 := Lib.hid hb2; have c11 := (HW.out.below hb2).cells.1 11 (.int .i64 line) rfl; clear hb2))
        | (go_at_call 33; refine (sfail_any _ _ line _).mono ?_; rintro e w3 ⟨rfl, rfl⟩))
      exact ⟨rfl, SrDoes.bad HR.out (HBW.out.trans (HB2.out.mono (by have := lt_of_block HW.out.blk; have := HW.out.ge; omega))) (HKW.out.trans (KeepT.of_below HB2.out))⟩
    | true =>
      rw [hcf] at hchk hresx
      have HCHK := Lib.hid hchk
      have HR := Lib.hid (show res = .ok { st with c := [n0, n1, n2, n3, n4, n5], stage := 1 } from hresx.symm)
      clear hchk hresx hcf hW hBW hKW hc2 hf2
      go_wp2_with (first
        | (go_at_call 15; go_must (refine (HCHK.out _).mono ?_; rintro e w2 ⟨rfl, hb2⟩; have HB2 := Lib.hid hb2; have c10 := (HW.out.below hb2).cells.1 10 (.int .i64 st.stage) rfl; have f10 := (HW.out.below hb2).cells.2 10; clear hb2)))
      go_end0
      have h2 := HW.out.below HB2.out
      have h3 := h2.set 10 (.int .i64 1) (st' := { st with c := [n0, n1, n2, n3, n4, n5], stage := 1 }) rfl (h2.rows.retell rfl rfl rfl rfl)
      exact SrDoes.good HR.out h3 ((HBW.out.trans (HB2.out.mono (by have := lt_of_block HW.out.blk; have := HW.out.ge; omega))).setCell (p := ⟨rb, 10, none⟩) HW.out.ge _)
        ((HKW.out.trans (KeepT.of_below HB2.out)).trans (KeepT.set h2.blk (.inl rfl)))
end
end Go.Proofs.YtoiokbdipcecnaaGreatDoor
namespace Go.Proofs.YtoiokbdipcecnaaGreatDoor
open Go.RowKit
set_option maxRecDepth 100000

theorem grown_block {α : Type} {E : ElemT α} {W w8 : World} {B : Nat} {v : Value} {l : List α} (ho : OwnG E W B v l) (hg : W.grownBy w8 v.ownBlock) {g : Nat} {c : Array Value} {t : TypeId} (hgc : W.heap[g]? = some (.cells c t)) (ht : t ≠ E.e) : w8.heap[g]? = W.heap[g]? :=
  hg.block g (lt_of_block hgc) fun e => by
    obtain ⟨c', hc⟩ := own_block ho e.symm
    rw [hgc] at hc
    injection hc with hc
    injection hc with _ hc
    exact ht hc
section
variable {w : World} {B rb : Nat} {vs vp vk vb : Value} {pv : List SlP} {st : SS} {line : Int}
/-- one value more of start -/
theorem Sr.push_start (h : Sr w B rb vs vp vk vb pv st line) {O : Obj} {w8 : World} {v8 : Value} {x : Int} (ho : OwnG i64T w8 B v8 (st.start ++ [x])) (hg : (w.alloc O).grownBy w8 vs.ownBlock) :
    Sr (w8.setCell ⟨rb, 6, none⟩ v8) B rb v8 vp vk vb pv { st with start := st.start ++ [x] } line ∧ Below B w (w8.setCell ⟨rb, 6, none⟩ v8) ∧ KeepT w (w8.setCell ⟨rb, 6, none⟩ v8) ∧
    (∀ (g : Nat) (cc : Array Value), w.heap[g]? = some (.cells cc 3) → (w8.setCell ⟨rb, 6, none⟩ v8).heap[g]? = some (.cells cc 3)) ∧ w8.heap[rb]? = some (.cells (rdCells st line vs vp vk vb) 69) := by
  have hbW : Below w.heap.size w (w.alloc O) := (Below.refl _ _).alloc (Nat.le_refl _) _
  have hW := h.below hbW
  have hos := hW.rows.os
  have gb := fun (g : Nat) (c : Array Value) (t : TypeId) (hgc : (w.alloc O).heap[g]? = some (.cells c t)) (ht : t ≠ 2) => grown_block (E := i64T) hos hg hgc ht
  have hblk : w8.heap[rb]? = some (.cells (rdCells st line vs vp vk vb) 69) := (gb rb _ _ hW.blk (by decide)).trans hW.blk
  have hBw : B ≤ w.heap.size := by have := lt_of_block h.blk; have := h.ge; omega
  have hr8 : SRows w8 B v8 vp vk vb pv { st with start := st.start ++ [x] } :=
    ⟨ho, hW.rows.op.at fun g hv => by obtain ⟨c, hc⟩ := own_block hW.rows.op hv; exact gb g c _ hc (by decide),
      hW.rows.ok.at fun g hv => by obtain ⟨c, hc⟩ := own_block hW.rows.ok hv; exact gb g c _ hc (by decide),
      hW.rows.ob.at fun g hv => by obtain ⟨c, hc⟩ := own_block hW.rows.ob hv; exact gb g c _ hc (by decide),
      hW.rows.pl, fun j y p hy hp => ownsRow_at (hW.rows.pr j y p hy hp) fun g hv => by obtain ⟨c, hc⟩ := own_block (hW.rows.pr j y p hy hp) hv; exact gb g c _ hc (by decide)⟩
  have ne : ∀ (g : Nat) (c : Array Value) (t : TypeId), w8.heap[g]? = some (.cells c t) → t ≠ 69 → (w8.setCell ⟨rb, 6, none⟩ v8).heap[g]? = w8.heap[g]? := fun g c t hgc ht =>
    heap_setCell_other _ _ _ _ fun e => by
      have e2 : g = rb := e
      rw [e2, hblk] at hgc
      injection hgc with hgc
      injection hgc with _ hgc
      exact ht hgc.symm
  refine ⟨⟨?_, h.ge, hr8.at ne⟩, ?_, ?_, fun g cc hgc => ?_, hblk⟩
  · rw [heap_setCell_same w8 rb 6 _ _ v8 hblk]; rfl
  · exact (((Below.refl B w).alloc hBw _).grown hg (by simp; omega) (fun k hk => own_ge hos hk)).setCell (p := ⟨rb, 6, none⟩) h.ge _
  · exact ((KeepT.of_below hbW).trans (KeepT.grown hos (.inr (.inl rfl)) hg)).trans (KeepT.set hblk (.inl rfl))
  · have h1 : (w.alloc O).heap[g]? = some (.cells cc 3) := (hbW.block g (lt_of_block hgc)).trans hgc
    have h2 := (gb g cc _ h1 (by decide)).trans h1
    exact (ne g cc _ h2 (by decide)).trans h2
def startS (st : SS) (ns : List Int) : Except Int SS :=
  if st.stage ≠ 1 ∨ ns.length = 0 then .error 233
  else if st.c.getD 0 0 < ((st.start ++ ns).length : Int) then .error 230
  else .ok { st with start := st.start ++ ns }
set_option maxHeartbeats 4000000 in
theorem start_any (ao : Option Addr) (c n : Nat) (ns : List Int) (hn : n = ns.length) (hn2 : n ≤ 1048576) (hs : SeesN w ao ns) (hsl : st.start.length ≤ 1048576) (h : Sr w B rb vs vp vk vb pv st line) :
    Calls Tryz.prog 57 #[.pointer (some ⟨rb, 0, none⟩), .slice ao n c] w (SrDoes w B rb line (startS st ns)) := by
  obtain ⟨hc, hf⟩ := h.cells
  have c10 := hc 10 (.int .i64 st.stage) rfl
  have c11 := hc 11 (.int .i64 line) rfl
  have H := Lib.hid h
  have hB : Below B w w := Below.refl _ _
  obtain ⟨res, hres⟩ : ∃ res, startS st ns = res := ⟨_, rfl⟩
  rw [hres]
  unfold startS at hres
  obtain ⟨sg, hst⟩ : ∃ sg, st.stage = sg := ⟨_, rfl⟩
  rw [hst] at c10
  rw [← hn] at hres
  have HST := Lib.hid hst
  clear hc hf h hst
  by_cases hbad : sg ≠ 1 ∨ n = 0
  · rw [if_pos (show st.stage ≠ 1 ∨ n = 0 by rw [HST.out]; exact hbad)] at hres
    have HR := Lib.hid hres.symm
    clear hres hn hs
    by_cases s1 : sg = 1
    · obtain rfl : n = 0 := by omega
      subst s1
      clear hbad
      go_enter Tryz.func57, Tryz.ntmps57
      go_wp2_with (go_at_call 33; refine (sfail_any _ _ line _).mono ?_; rintro e w2 ⟨rfl, rfl⟩)
      exact ⟨rfl, SrDoes.bad HR.out hB (KeepT.refl _)⟩
    · have s11 : (sg != 1) = true := by simpa using s1
      clear hbad s1
      go_enter Tryz.func57, Tryz.ntmps57
      go_wp2_with (go_at_call 33; refine (sfail_any _ _ line _).mono ?_; rintro e w2 ⟨rfl, rfl⟩)
      exact ⟨rfl, SrDoes.bad HR.out hB (KeepT.refl _)⟩
  · rw [if_neg (show ¬ (st.stage ≠ 1 ∨ n = 0) by rw [HST.out]; exact hbad)] at hres
    obtain rfl : sg = 1 := by omega
    have n0 : 0 < n := by omega
    have n1 : ((n : Int) == 0) = false := by simp; omega
    obtain ⟨b, o, hao, hx⟩ := hs
    obtain ⟨rfl, cc, hbc⟩ := hao (by intro e; subst e; simp at hn; omega)
    have HX := Lib.hid hx
    have HBC := Lib.hid hbc
    have HN := Lib.hid hn
    have HRES := Lib.hid hres
    clear hres hn hx hao hbad hbc
    go_enter Tryz.func57, Tryz.ntmps57
    go_wp2
    go_loopw [24] (fun i wr => ∃ (k : Nat) (vs' : Value), k ≤ n ∧ i = .int .i64 k ∧ Sr wr B rb vs' vp vk vb pv { st with start := st.start ++ ns.take k } line ∧ Below B w wr ∧ KeepT w wr ∧ wr.heap[b]? = w.heap[b]?) (fun i _ => n - (intOf i).toNat)
    case atStart => exact ⟨0, vs, Nat.zero_le _, rfl, by simpa using H.out, hB, KeepT.refl _, rfl⟩
    case round =>
      obtain ⟨k, vs', hk, rfl, hS, hBr, hKr, hbr⟩ := hrel
      have HS := Lib.hid hS
      have HBR := Lib.hid hBr
      have HKR := Lib.hid hKr
      have HBRB := Lib.hid hbr
      have c6 := hS.cells.1 6 vs' rfl
      by_cases hlt : k < n
      · obtain ⟨x, hx⟩ : ∃ x, ns[k]? = some x := ⟨_, List.getElem?_eq_getElem (by rw [← HN.out]; exact hlt)⟩
        have hx0 := HX.out k x hx
        have hxw : wr.cell? ⟨b, o + k, none⟩ = some (.int .i64 x) := by
          simp only [World.cell?, hbr]
          exact hx0
        have htk : st.start ++ ns.take (k + 1) = (st.start ++ ns.take k) ++ [x] := by rw [List.take_add_one, hx]; simp
        have hlen : (st.start ++ ns.take k).length ≤ 2097152 := by
          rw [List.length_append, List.length_take]; omega
        have HTK := Lib.hid htk
        have HLEN := Lib.hid hlen
        have hi0 : (0 : Int) ≤ (k : Int) := by omega
        have hi1 : (k : Int) < (n : Int) := by omega
        clear hS hBr hKr hbr hx hx0 htk hlen
        go_wp2_with (at_builtin; go_must (refine wpList_append1 (HS.out.rows.os.below ((Below.refl _ _).alloc (Nat.le_refl _) _)) (by have := lt_of_block HS.out.blk; have := HS.out.ge; simp; omega) wr.heap.size 1 x 2 (by exact heap_new _ _ _ rfl) (by show (_ + 1) * 8 ≤ _; have := HLEN.out; simp only at this ⊢; omega) (by unfold maxLen; have := HLEN.out; simp only at this ⊢; omega) rfl _ _ rfl rfl rfl ?_; intro v8 w8 hown8 hgrow8; obtain ⟨a8, n8, k8, rfl, hn8⟩ := hown8.sliceH; obtain ⟨p1, p2, p3, p4, p5⟩ := HS.out.push_start (x := x) hown8 hgrow8; have d6 := cell_of_row _ _ 6 _ _ _ p5; have e6 := frozen_of_row _ _ 6 _ _ p5; have HP1 := Lib.hid p1; have HP2 := Lib.hid p2; have HP3 := Lib.hid p3; have HP4 := Lib.hid p4; clear p1 p2 p3 p4 p5 hown8 hgrow8))
        go_roundw
        case rel => exact ⟨k + 1, _, by omega, by go_num, by rw [HTK.out]; exact HP1.out, HBR.out.trans HP2.out, HKR.out.trans HP3.out, by rw [HP4.out b cc (HBRB.out.trans HBC.out), HBC.out]⟩
        case measure => simp [intOf]; omega
      · obtain rfl : k = n := by omega
        have htk : ns.take k = ns := List.take_of_length_le (by rw [← HN.out]; exact Nat.le_refl _)
        rw [htk] at hS
        have HS2 := Lib.hid hS
        obtain ⟨asl, n9, csl, rfl, hn9⟩ := hS.rows.os.sliceH
        have d6 := hS.cells.1 6 (.slice asl n9 csl) rfl
        have d0 := hS.cells.1 0 (.int .i64 (st.c.getD 0 0)) rfl
        have d11 := hS.cells.1 11 (.int .i64 line) rfl
        have hresx := HRES.out
        rw [show (st.start ++ ns).length = n9 from hn9.out.symm] at hresx
        clear hS hBr hKr hbr c6 htk HS
        generalize st.c.getD 0 0 = C0 at d0 hresx
        by_cases hlong : C0 < (n9 : Int)
        · rw [if_pos hlong] at hresx
          have HR := Lib.hid hresx.symm
          clear hresx
          go_wp2
          go_quiet (fail)
          go_wp2_with (go_at_call 33; refine (sfail_any _ _ line _).mono ?_; rintro e w2 ⟨rfl, rfl⟩)
          exact ⟨rfl, SrDoes.bad HR.out (HBR.out.trans (below_drewN _ _ _)) (HKR.out.trans (KeepT.of_below (below_drewN _ _ _)))⟩
        · rw [if_neg hlong] at hresx
          have HR := Lib.hid hresx.symm
          clear hresx
          go_wp2
          go_quiet (fail)
          go_wp2
          go_end0
          exact SrDoes.good HR.out (HS2.out.below (below_drewN _ _ _)) (HBR.out.trans (below_drewN _ _ _)) (HKR.out.trans (KeepT.of_below (below_drewN _ _ _)))
/-- picks are put behind -/
theorem Sr.push_picks (h : Sr w B rb vs vp vk vb pv st line) {w8 : World} {v8 : Value} {l : List Int} (ho : OwnG intT w8 B v8 l) (hg : w.grownBy w8 vk.ownBlock) :
    Sr (w8.setCell ⟨rb, 8, none⟩ v8) B rb vs vp v8 vb pv { st with picks := l } line ∧ Below B w (w8.setCell ⟨rb, 8, none⟩ v8) ∧ KeepT w (w8.setCell ⟨rb, 8, none⟩ v8) ∧ w8.heap[rb]? = some (.cells (rdCells st line vs vp vk vb) 69) := by
  have hos := h.rows.ok
  have gb := fun (g : Nat) (c : Array Value) (t : TypeId) (hgc : w.heap[g]? = some (.cells c t)) (ht : t ≠ 3) => grown_block (E := intT) hos hg hgc ht
  have hblk : w8.heap[rb]? = some (.cells (rdCells st line vs vp vk vb) 69) := (gb rb _ _ h.blk (by decide)).trans h.blk
  have hBw : B ≤ w.heap.size := by have := lt_of_block h.blk; have := h.ge; omega
  have hr8 : SRows w8 B vs vp v8 vb pv { st with picks := l } :=
    ⟨h.rows.os.at fun g hv => by obtain ⟨c, hc⟩ := own_block h.rows.os hv; exact gb g c _ hc (by decide),
      h.rows.op.at fun g hv => by obtain ⟨c, hc⟩ := own_block h.rows.op hv; exact gb g c _ hc (by decide), ho,
      h.rows.ob.at fun g hv => by obtain ⟨c, hc⟩ := own_block h.rows.ob hv; exact gb g c _ hc (by decide),
      h.rows.pl, fun j y p hy hp => ownsRow_at (h.rows.pr j y p hy hp) fun g hv => by obtain ⟨c, hc⟩ := own_block (h.rows.pr j y p hy hp) hv; exact gb g c _ hc (by decide)⟩
  have ne : ∀ (g : Nat) (c : Array Value) (t : TypeId), w8.heap[g]? = some (.cells c t) → t ≠ 69 → (w8.setCell ⟨rb, 8, none⟩ v8).heap[g]? = w8.heap[g]? := fun g c t hgc ht =>
    heap_setCell_other _ _ _ _ fun e => by
      have e2 : g = rb := e
      rw [e2, hblk] at hgc
      injection hgc with hgc
      injection hgc with _ hgc
      exact ht hgc.symm
  refine ⟨⟨?_, h.ge, hr8.at ne⟩, ?_, ?_, hblk⟩
  · rw [heap_setCell_same w8 rb 8 _ _ v8 hblk]; rfl
  · exact ((Below.refl B w).grown hg hBw (fun k hk => own_ge hos hk)).setCell (p := ⟨rb, 8, none⟩) h.ge _
  · exact (KeepT.grown hos (.inr (.inr (.inr (.inl rfl)))) hg).trans (KeepT.set hblk (.inl rfl))
def picksS (st : SS) (ns : List Int) : Except Int SS :=
  if (st.stage ≠ 2 ∧ st.stage ≠ 3) ∨ ns.length = 0 then .error 233
  else if 65536 < (st.picks ++ ns).length then .error 232
  else .ok { st with picks := st.picks ++ ns, stage := 3 }
theorem all_int (ns : List Int) : intT.all ns = ns.map (Value.int .i64) := by
  unfold ElemT.all
  induction ns with
  | nil => rfl
  | cons x r ih => rw [List.flatMap_cons, ih]; rfl
/-- append of ints onto a row of ints -/
theorem wpList_append_ints {Bb : Nat} {v : Value} {l : List Int} (hown : OwnG intT w Bb v l) (hB : Bb ≤ w.heap.size) (b o n c : Nat) (ns : List Int) (hn : n = ns.length) (hs : ∀ (j : Nat) x, ns[j]? = some x → w.cell? ⟨b, o + j, none⟩ = some (.int .i64 x)) (hl : l.length + n ≤ 16777216)
    {ops : Array Oper} {Q : Exit → Act → World → Prop} {a : Act} {rest : List Oper} {oo : Oper} (hgd : oo.guard = none) (s y : Operand) (hop : oo.op = Op.call { callee := Callee.builtin Builtin.append, args := #[s, y], argTypes := #[27, 27] })
    (ev : a.eval s = v) (hx : a.eval y = .slice (some ⟨b, o, none⟩) n c)
    (hK : ∀ v' w', OwnG intT w' Bb v' (l ++ ns) → w.grownBy w' v.ownBlock → wpList Tryz.prog ops Q rest (a.put oo.dst v') w') : wpList Tryz.prog ops Q (oo :: rest) a w := by
  obtain ⟨i0, hi, hz0, hz1, hz2⟩ := intT.info
  have hnews : ∀ j u, (intT.all ns)[j]? = some u → w.cell? ((⟨b, o, none⟩ : Addr).add j) = some u := fun j u hj => by
    rw [all_int, List.getElem?_map] at hj
    cases hx : ns[j]? with
    | none => rw [hx] at hj; cases hj
    | some x =>
      rw [hx] at hj
      injection hj with hj
      subst hj
      have := hs j x hx
      rw [show (⟨b, o, none⟩ : Addr).add j = ⟨b, o + j, none⟩ by unfold Addr.add; simp]
      exact this
  have hlen : (intT.all ns).length = n * 1 := by rw [all_int, List.length_map, hn]; omega
  exact wpList_append_own _ hgd s y 27 hop Bb intT.e i0 intT.z intT.size intT.bytes intT.ht hi hz0 hz1 hz2 intT.zs intT.pos v l.length (intT.all l) ev hown ⟨b, o, none⟩ n c (intT.all ns) hx hlen hnews (intT.all_one ns) (by unfold maxLen; omega) (by show (l.length + n) * 8 ≤ _; omega) hB
    (fun v' w' h1 h2 _ => hK v' w' (by unfold OwnG; rw [List.length_append, ← hn, intT.all_app]; exact h1) h2)
set_option maxHeartbeats 4000000 in
theorem picks_any (ao : Option Addr) (c n : Nat) (ns : List Int) (hn : n = ns.length) (hn2 : n ≤ 1048576) (hs : SeesN w ao ns) (hpl : st.picks.length ≤ 1048576) (h : Sr w B rb vs vp vk vb pv st line) :
    Calls Tryz.prog 59 #[.pointer (some ⟨rb, 0, none⟩), .slice ao n c] w (SrDoes w B rb line (picksS st ns)) := by
  have c8 := h.cells.1 8 vk rfl
  have c10 := h.cells.1 10 (.int .i64 st.stage) rfl
  have c11 := h.cells.1 11 (.int .i64 line) rfl
  have H := Lib.hid h
  have hB : Below B w w := Below.refl _ _
  obtain ⟨res, hres⟩ : ∃ res, picksS st ns = res := ⟨_, rfl⟩
  rw [hres]
  unfold picksS at hres
  generalize hst : st.stage = sg at c10 hres
  rw [← hn] at hres
  clear h hst
  by_cases hbad : (sg ≠ 2 ∧ sg ≠ 3) ∨ n = 0
  · rw [if_pos hbad] at hres
    have HR := Lib.hid hres.symm
    clear hres hn hs
    by_cases s1 : sg = 2
    · obtain rfl : n = 0 := by omega
      subst s1
      clear hbad
      go_enter Tryz.func59, Tryz.ntmps59
      go_wp2_with (go_at_call 33; refine (sfail_any _ _ line _).mono ?_; rintro e w2 ⟨rfl, rfl⟩)
      exact ⟨rfl, SrDoes.bad HR.out hB (KeepT.refl _)⟩
    · have s11 : (sg != 2) = true := by simpa using s1
      by_cases s2 : sg = 3
      · obtain rfl : n = 0 := by omega
        subst s2
        clear hbad s1
        go_enter Tryz.func59, Tryz.ntmps59
        go_wp2_with (go_at_call 33; refine (sfail_any _ _ line _).mono ?_; rintro e w2 ⟨rfl, rfl⟩)
        exact ⟨rfl, SrDoes.bad HR.out hB (KeepT.refl _)⟩
      · have s21 : (sg != 3) = true := by simpa using s2
        clear hbad s1 s2
        go_enter Tryz.func59, Tryz.ntmps59
        go_wp2_with (go_at_call 33; refine (sfail_any _ _ line _).mono ?_; rintro e w2 ⟨rfl, rfl⟩)
        exact ⟨rfl, SrDoes.bad HR.out hB (KeepT.refl _)⟩
  · rw [if_neg hbad] at hres
    have hsg : sg = 2 ∨ sg = 3 := by omega
    have n1 : ((n : Int) == 0) = false := by simp; omega
    obtain ⟨b, o, hao, hx⟩ := hs
    obtain ⟨rfl, -⟩ := hao (by intro e; subst e; simp at hn; omega)
    have HX := Lib.hid hx
    have HN := Lib.hid hn
    have HRES := Lib.hid hres
    clear hres hn hx hao hbad
    rcases hsg with rfl | rfl
    all_goals
      go_enter Tryz.func59, Tryz.ntmps59
      go_upto_region 3 with (at_builtin; go_must (refine wpList_append_ints H.out.rows.ok (by have := lt_of_block H.out.blk; have := H.out.ge; omega) b o n c ns HN.out HX.out (by omega) rfl _ _ rfl rfl rfl ?_; intro v8 w8 hown8 hgrow8; obtain ⟨a8, n8, k8, rfl, hn8⟩ := hown8.sliceH; obtain ⟨p1, p2, p3, p5⟩ := H.out.push_picks hown8 hgrow8; have d6 := cell_of_row _ _ 8 _ _ _ p5; have e6 := frozen_of_row _ _ 8 _ _ p5; have HP1 := Lib.hid p1; have HP2 := Lib.hid p2; have HP3 := Lib.hid p3; clear p1 p2 p3 p5 hown8 hgrow8))
      obtain ⟨W, hW⟩ : ∃ W, W = w8.setCell ⟨rb, 8, none⟩ (.slice a8 n8 k8) := ⟨_, rfl⟩
      rw [← hW] at HP1 HP2 HP3 ⊢
      clear hW d6 e6 c8 c10 c11
      have c8 := HP1.out.cells.1 8 (.slice a8 n8 k8) rfl
      have c10 := HP1.out.cells.1 10 (.int .i64 st.stage) rfl
      have c11 := HP1.out.cells.1 11 (.int .i64 line) rfl
      have f10 := HP1.out.cells.2 10
      have hresx := HRES.out
      rw [← hn8.out] at hresx
      by_cases hlong : 65536 < n8
      · rw [if_pos hlong] at hresx
        have HR := Lib.hid hresx.symm
        clear hresx
        go_wp2_with (go_at_call 33; refine (sfail_any _ _ line _).mono ?_; rintro e w2 ⟨rfl, rfl⟩)
        exact ⟨rfl, SrDoes.bad HR.out HP2.out HP3.out⟩
      · rw [if_neg hlong] at hresx
        have HR := Lib.hid hresx.symm
        clear hresx
        go_wp2
        go_end0
        have h2 := HP1.out.set 10 (.int .i64 3) (st' := { st with picks := st.picks ++ ns, stage := 3 }) rfl (HP1.out.rows.retell rfl rfl rfl rfl)
        exact SrDoes.good HR.out h2 (HP2.out.setCell (p := ⟨rb, 10, none⟩) HP1.out.ge _) (HP3.out.trans (KeepT.set HP1.out.blk (.inl rfl)))
end
end Go.Proofs.YtoiokbdipcecnaaGreatDoor
