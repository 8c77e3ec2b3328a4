/-
  quash/quashlaw23.awake answers true. Condition: the library's variables (Env).
  And: quash/script.Parse of a text whose lines name no deeds: what it comes to, as a function. Condition: the library's variables (Env).
-/
import Derived.Test.YtoiokbdipcecnaaGreatDoorScrParse
import Derived.Test.YtoiokbdipcecnaaGreatDoorScrEnd
import Derived.Test.YtoiokbdipcecnaaGreatDoorScrPrint
namespace Go.Proofs.YtoiokbdipcecnaaGreatDoor
open Go.RowKit
set_option maxRecDepth 100000

def lineS (st : SS) (i : Int) (t : List UInt8) : Except (Int × Int) SS :=
  if 0 < st.opn then
    if fieldsL (bareL t) = endW then endS st i else .ok { st with block := st.block ++ [(i, t, bareL t)] }
  else if fieldsL (bareL t) = [] then .ok st
  else atLine i (outS st i (fieldsL (bareL t)))
def linesS : SS → Nat → List (List UInt8) → Except (Int × Int) SS
  | st, _, [] => .ok st
  | st, k, t :: r => match lineS st ((k : Int) + 1) t with
    | .error x => .error x
    | .ok st' => linesS st' (k + 1) r
def parseS (t : List UInt8) : Except (Int × Int) SS :=
  if 1048576 < t.length then .error (234, 0) else andFin (linesS st0 0 (linesL 10 t))
/-- a line names no deed -/
def noDo (t : List UInt8) : Bool := !((fieldsL (bareL t)).head? == some [100, 111])
theorem lineR_det {st : SS} {i : Int} {t : List UInt8} {res : Except (Int × Int) SS} (hb : ∀ x ∈ st.block, doB x = false) (h : LineR st i t res) : res = lineS st i t := by
  unfold LineR at h
  unfold lineS
  split
  · rename_i h0
    rw [if_pos h0] at h
    split
    · rename_i h1
      rw [if_pos h1] at h
      exact h.no hb
    · rename_i h1
      rw [if_neg h1] at h
      exact h
  · rename_i h0
    rw [if_neg h0] at h
    split
    · rename_i h1
      rw [if_pos h1] at h
      exact h
    · rename_i h1
      rw [if_neg h1] at h
      exact h
theorem blk_line {st st' : SS} {i : Int} {t : List UInt8} (hn : noDo t = true) (hb : ∀ x ∈ st.block, doB x = false) (hr : LineR st i t (.ok st')) : ∀ x ∈ st'.block, doB x = false := by
  unfold LineR at hr
  split at hr
  · split at hr
    · obtain ⟨q, _, rfl⟩ := hr.ok st' rfl
      exact hb
    · injection hr with hr
      subst hr
      intro x hx
      rcases List.mem_append.1 hx with hx | hx
      · exact hb x hx
      · simp at hx
        subst hx
        unfold doB
        unfold noDo at hn
        simpa using hn
  · split at hr
    · injection hr with hr
      subst hr; exact hb
    · cases hs : outS st i (fieldsL (bareL t)) with
      | error e => rw [hs] at hr; cases hr
      | ok s2 =>
        rw [hs] at hr
        injection hr with hr
        subst hr
        rcases outS_block hs with e | e
        · intro x hx; rw [e] at hx; exact hb x hx
        · intro x hx; rw [e] at hx; cases hx
theorem linesR_det {st : SS} {k : Nat} {L : List (List UInt8)} {res : Except (Int × Int) SS} (h : LinesR st k L res) : (∀ x ∈ L, noDo x = true) → (∀ x ∈ st.block, doB x = false) → res = linesS st k L := by
  induction h with
  | nil st k => intro _ _; rfl
  | err h1 =>
    intro _ hb
    unfold linesS
    rw [← lineR_det hb h1]
  | ok h1 _ ih =>
    intro hn hb
    unfold linesS
    rw [← lineR_det hb h1]
    exact ih (fun x hx => hn x (List.mem_cons_of_mem _ hx)) (blk_line (hn _ (List.mem_cons_self ..)) hb h1)
theorem parseR_det {t : List UInt8} {res : Except (Int × Int) SS} (hn : ∀ x ∈ linesL 10 t, noDo x = true) (h : ParseR t res) : res = parseS t := by
  unfold ParseR at h
  unfold parseS
  split
  · rename_i h1; rw [if_pos h1] at h; exact h
  · rename_i h1
    rw [if_neg h1] at h
    obtain ⟨r1, h2, h3⟩ := h
    rw [h3, linesR_det h2 hn (fun x hx => by cases hx)]
theorem endC_no {T : List (List UInt8)} (hn : ∀ x ∈ T, noDo x = true) : EndC T := fun w B rb vs vp vk vb pv st line he h1 h2 h3 h4 h5 h6 =>
  end_no (fun x hx => by
    obtain ⟨e1, e2⟩ := h5 x hx
    have := hn _ e1
    unfold noDo at this
    unfold doB
    rw [e2]
    simpa using this) he h1 h2 h3 h4 h6
/-- what a call of Parse at a text without deeds comes to -/
def PSDoes (t : List UInt8) (w : World) (e : Ending) (w' : World) : Prop :=
  match parseS t with
  | .error (er, ln) => e = .returned (.tuple #[zeroSc, .int .i64 ln, .int .i64 er]) ∧ Below w.heap.size w w'
  | .ok st => ∃ vs vp vk vb pv, e = .returned (.tuple #[stV st vs vp vk, .int .i64 0, .int .i64 0]) ∧ SRows w' w.heap.size vs vp vk vb pv st ∧ Fine st ∧ Below w.heap.size w w'
theorem Parse_no (t : List UInt8) (w : World) (ht : t.length ≤ 140737488355328) (he : Env w) (hn : ∀ x ∈ linesL 10 t, noDo x = true) : Calls Tryz.prog 13 #[.string (S t)] w (PSDoes t w) := by
  have h : Calls Tryz.prog 13 #[.string (S t)] w (PDoes t w) := by
    by_cases hl : 1048576 < t.length
    · exact scrParse_long t hl ht w
    · exact scrParse_in t (by omega) w he (endC_no hn)
  refine h.mono ?_
  rintro e w' ⟨res, hR, hd⟩
  have hdet := parseR_det hn hR
  unfold PSDoes
  rw [← hdet]
  cases res with
  | error x => exact hd
  | ok st =>
    obtain ⟨vs, vp, vk, vb, pv, h1, h2, h3⟩ := hd
    exact ⟨vs, vp, vk, vb, pv, h1, h2, hR.fine, h3⟩
/-- what was read, as a script's value -/
theorem SRows.sv {w : World} {B : Nat} {vs vp vk vb : Value} {pv : List SlP} {st : SS} (h : SRows w B vs vp vk vb pv st) (hf : Fine st) :
    ∃ x : SV, stV st vs vp vk = x.v ∧ x.Sees w ∧ x.c = st.c ∧ x.s = st.start ∧ progsV x.P = st.progs ∧ x.k = st.picks ∧ x.d = st.drain := by
  have hparts : Parts w B vp pv st.progs := ⟨h.op, h.pl, h.pr, fun q hq => by have := (checkL_ok (hf.ck q hq)).2.1; omega⟩
  obtain ⟨aS, cs, rfl⟩ := h.os.slice
  obtain ⟨ak, ck, rfl⟩ := h.ok.slice
  obtain ⟨ap, cp, rfl, hsp⟩ := hparts.sees
  have hs := Sees.of_own (show w.ownsRow B 2 1 (.slice aS st.start.length cs) st.start.length (st.start.map (Value.int .i64)) by
    have := h.os
    unfold OwnG at this
    have e : i64T.all st.start = st.start.map (Value.int .i64) := by
      unfold ElemT.all
      induction st.start with
      | nil => rfl
      | cons x r ih => rw [List.flatMap_cons, ih]; rfl
    rw [e] at this
    exact this)
  have hk := Sees.of_own (show w.ownsRow B 3 1 (.slice ak st.picks.length ck) st.picks.length (st.picks.map (Value.int .i64)) by
    have := h.ok
    unfold OwnG at this
    rw [all_int] at this
    exact this)
  have hpl := hf.pg
  have hc0 := cfgB_first hf.cfg
  have hsl := hf.s
  refine ⟨⟨st.c, aS, cs, st.start, ap, cp, partsV pv st.progs, ak, ck, st.picks, st.drain⟩, ?_, ⟨hs, hsp, hk, fun y hy => ?_, by unfold maxLen; simp only; omega, by unfold maxLen; simp only; rw [partsV_len h.pl]; omega, by have := hf.pk; unfold maxLen; simp only; omega⟩, rfl, rfl, partsV_progs h.pl, rfl, rfl⟩
  · unfold stV SV.v
    simp only
    rw [partsV_len h.pl]
  · have := (hparts.small y hy).1
    unfold maxLen
    omega
end Go.Proofs.YtoiokbdipcecnaaGreatDoor
namespace Go.Proofs.YtoiokbdipcecnaaGreatDoor
open Go.RowKit
set_option maxRecDepth 100000

def text1 : List UInt8 := [99, 111, 110, 102, 105, 103, 32, 52, 32, 50, 32, 56, 32, 49, 32, 48, 32, 48, 10, 115, 116, 97, 114, 116, 32, 53, 32, 45, 49, 10, 116, 104, 114, 101, 97, 100, 10, 104, 97, 108, 116, 10, 101, 110, 100, 10, 112, 105, 99, 107, 115, 32, 48, 32, 49, 10, 100, 114, 97, 105, 110, 32, 57]
def text2 : List UInt8 := [99, 111, 110, 102, 105, 103, 32, 49, 32, 49, 32, 56, 32, 49, 32, 48, 32, 48, 10, 115, 116, 97, 114, 116, 32, 49, 10, 115, 116, 97, 114, 116, 32, 50]
def state1 : SS := ⟨[4, 2, 8, 1, 0, 0], [5, -1], [[(22, 0)]], [0, 1], 9, 4, 0, [(4, [104, 97, 108, 116], [104, 97, 108, 116])]⟩
theorem text1_parse : parseS text1 = .ok state1 := by kernel_rfl
theorem text2_parse : parseS text2 = .error (230, 3) := by kernel_rfl
theorem text1_no : ((linesL 10 text1).all fun x => noDo x) = true := by kernel_rfl
theorem text2_no : ((linesL 10 text2).all fun x => noDo x) = true := by kernel_rfl
theorem text1_print : scrPrintS [4, 2, 8, 1, 0, 0] [5, -1] [[(22, 0)]] [0, 1] 9 = (text1 ++ [10], 0) := by kernel_rfl
def zeroSV : SV := ⟨[0, 0, 0, 0, 0, 0], none, 0, [], none, 0, [], none, 0, [], 0⟩
theorem zero_check : zeroSV.check = 1 := by kernel_rfl
theorem awake23_any (w : World) (he : Env w) : Calls Tryz.prog 8 #[] w fun e w' => e = .returned (.bool true) ∧ Below w.heap.size w w' := by
  have hp1 := fun W (hE : Env W) => (Parse_no text1 W (by decide) hE (fun x hx => List.all_eq_true.1 text1_no x hx)).mono (fun e w' hd => (show ∃ x : SV, e = Ending.returned (.tuple #[.agg #[.int .i64 4, .int .i64 2, .int .i64 8, .int .i64 1, .int .i64 0, .int .i64 0, .slice x.so 2 x.sc, .slice x.po 1 x.pc, .slice x.ko 2 x.kc, .int .i64 9], .int .i64 0, .int .i64 0]) ∧ Hid (x.Sees w' ∧ x.c = [4, 2, 8, 1, 0, 0] ∧ x.s = [5, -1] ∧ progsV x.P = [[(22, 0)]] ∧ x.k = [0, 1] ∧ x.d = 9) ∧ Below W.heap.size W w' by
    unfold PSDoes at hd
    rw [text1_parse] at hd
    obtain ⟨vs, vp, vk, vb, pv, h1, h2, h3, h4⟩ := hd
    obtain ⟨x, e1, e2, e3, e4, e5, e6, e7⟩ := h2.sv h3
    refine ⟨x, ?_, Lib.hid ⟨e2, e3, e4, e5, e6, e7⟩, h4⟩
    have hP : x.P.length = 1 := by rw [← progsV_length, e5]; rfl
    rw [h1, e1]
    unfold SV.v
    rw [e3, e4, e6, e7, hP]
    rfl))
  have hp2 := fun W (hE : Env W) => (Parse_no text2 W (by decide) hE (fun x hx => List.all_eq_true.1 text2_no x hx)).mono (fun e w' hd => (show e = Ending.returned (.tuple #[.agg #[.int .i64 0, .int .i64 0, .int .i64 0, .int .i64 0, .int .i64 0, .int .i64 0, .slice none 0 0, .slice none 0 0, .slice none 0 0, .int .i64 0], .int .i64 3, .int .i64 230]) ∧ Below W.heap.size W w' by
    unfold PSDoes at hd
    rw [text2_parse] at hd
    exact hd))
  have hck := fun W => scrCheck_any zeroSV W ⟨Sees.nil _ _, SeesR.nil _ _, Sees.nil _ _, fun y hy => (by cases hy), (by decide), (by decide), (by decide)⟩
  rw [zero_check] at hck
  have hck2 : ∀ W, Calls Tryz.prog 9 #[.agg #[.int .i64 0, .int .i64 0, .int .i64 0, .int .i64 0, .int .i64 0, .int .i64 0, .slice none 0 0, .slice none 0 0, .slice none 0 0, .int .i64 0]] W fun e w' => e = .returned (.int .i64 1) ∧ Below W.heap.size W w' := hck
  have HP1 := Lib.hid (hp1 w he)
  have HP2 := Lib.hid hp2
  have HCK := Lib.hid hck2
  have HE := Lib.hid he
  clear hp1 hp2 hck hck2 he
  go_enter Tryz.func8, Tryz.ntmps8
  go_upto_region 2 with (go_at_call 13; go_must (refine HP1.out.mono ?_; rintro e w1 ⟨x, rfl, hx, hb1⟩))
  obtain ⟨hxs, hxc, hxt, hxp, hxk, hxd⟩ := hx.out
  have hP : x.P.length = 1 := by rw [← progsV_length, hxp]; rfl
  have hxv : x.v = .agg #[.int .i64 4, .int .i64 2, .int .i64 8, .int .i64 1, .int .i64 0, .int .i64 0, .slice x.so 2 x.sc, .slice x.po 1 x.pc, .slice x.ko 2 x.kc, .int .i64 9] := by
    unfold SV.v
    rw [hxc, hxt, hxk, hxd, hP]
    rfl
  have hin : x.In := ⟨by rw [hxt]; intro y hy; simp at hy; rcases hy with rfl | rfl <;> decide, by rw [hxk]; intro y hy; simp at hy; rcases hy with rfl | rfl <;> decide, fun y hy => by
    have hm : y.2.2 ∈ progsV x.P := List.mem_map.2 ⟨y, hy, rfl⟩
    rw [hxp] at hm
    simp at hm
    rw [hm]
    intro z hz
    simp at hz
    subst hz
    decide⟩
  have hprt := fun W (hb : Below w1.heap.size w1 W) (hE : Env W) => scrPrint_any x W hE (hxs.below hb) hin
  rw [hxv] at hprt
  have hpp : x.print = (text1 ++ [10], 0) := by
    unfold SV.print
    rw [hxc, hxt, hxp, hxk, hxd]
    exact text1_print
  rw [hpp] at hprt
  obtain ⟨bs, os, hso, hcs⟩ := hxs.s
  have hso2 := hso (by rw [hxt]; simp)
  have hc1 := hcs 1 (by rw [hxt]; decide)
  rw [hxt] at hc1
  have HPRT := Lib.hid hprt
  have HC1 := Lib.hid (show w1.cell? ⟨bs, os + 1, none⟩ = some (.int .i64 (-1)) from hc1)
  have HB1 := Lib.hid hb1
  have hltb : bs < w1.heap.size := block_lt_of_cell hc1
  rw [hso2]
  rw [hso2] at HPRT
  generalize x.sc = sc at *
  generalize x.po = po at *
  generalize x.pc = pc at *
  generalize x.ko = ko at *
  generalize x.kc = kc at *
  clear hx hxs hxc hxt hxp hxk hxd hP hxv hin hprt hpp hso hcs hso2 hc1 hb1
  refine wp_gen (fun W => W.heap[w1.heap.size]? = some (.cells #[.int .i64 4, .int .i64 2, .int .i64 8, .int .i64 1, .int .i64 0, .int .i64 0, .slice (some ⟨bs, os, none⟩) 2 sc, .slice po 1 pc, .slice ko 2 kc, .int .i64 9] 29) ∧ Below w1.heap.size w1 W) ⟨heap_new _ _ _ rfl, (Below.refl _ _).alloc (Nat.le_refl _) _⟩ ?_
  rintro W ⟨hq, hBW⟩
  have HQ := Lib.hid hq
  have HBW := Lib.hid hBW
  clear hq hBW
  go_upto_region 3 with (go_at_call 13; go_must (refine (HP2.out _ (HE.out.below (HB1.out.trans (HBW.out.mono HB1.out.size)))).mono ?_; rintro e w2 ⟨rfl, hb2⟩; have HB2 := Lib.hid hb2; clear hb2))
  have hlw : w1.heap.size < W.heap.size := lt_of_block HQ.out
  refine wp_gen (fun W2 => W2.heap[w1.heap.size]? = some (.cells #[.int .i64 4, .int .i64 2, .int .i64 8, .int .i64 1, .int .i64 0, .int .i64 0, .slice (some ⟨bs, os, none⟩) 2 sc, .slice po 1 pc, .slice ko 2 kc, .int .i64 9] 29) ∧ Below w1.heap.size w1 W2) ⟨(Below.heap_alloc _ _ _ (by have := HB2.out.size; omega)).trans ((HB2.out.block _ hlw).trans HQ.out), (HBW.out.trans (HB2.out.mono HBW.out.size)).alloc (by have := HB2.out.size; omega) _⟩ ?_
  rintro W2 ⟨hq2, hBW2⟩
  have HQ2 := Lib.hid hq2
  have HBW2 := Lib.hid hBW2
  have k0 := cell_of_row _ _ 0 _ _ _ hq2
  have k1 := cell_of_row _ _ 1 _ _ _ hq2
  have k2 := cell_of_row _ _ 2 _ _ _ hq2
  have k3 := cell_of_row _ _ 3 _ _ _ hq2
  have k4 := cell_of_row _ _ 4 _ _ _ hq2
  have k5 := cell_of_row _ _ 5 _ _ _ hq2
  have k6 := cell_of_row _ _ 6 _ _ _ hq2
  have k7 := cell_of_row _ _ 7 _ _ _ hq2
  have k8 := cell_of_row _ _ 8 _ _ _ hq2
  have k9 := cell_of_row _ _ 9 _ _ _ hq2
  have hlw2 : w1.heap.size < W2.heap.size := lt_of_block hq2
  clear hq2 hBW2
  go_upto_region 5 with (first
    | (go_at_call 11; go_must (refine (HPRT.out _ HBW2.out (HE.out.below (HB1.out.trans (HBW2.out.mono HB1.out.size)))).mono ?_; rintro e w3 ⟨rfl, hb3⟩; have HB3 := Lib.hid hb3; clear hb3))
    | (go_at_call 9; go_must (refine (HCK.out _).mono ?_; rintro e w4 ⟨rfl, hb4⟩; have HB4 := Lib.hid hb4; clear hb4)))
  have hBf : Below w1.heap.size w1 w4 := (HBW2.out.trans (HB3.out.mono HBW2.out.size)).trans (HB4.out.mono (by have := HB3.out.size; omega))
  have hqf := (HB4.out.block _ (by have := HB3.out.size; omega)).trans ((HB3.out.block _ hlw2).trans HQ2.out)
  have r0 := cell_of_row _ _ 0 _ _ _ hqf
  have r6 := cell_of_row _ _ 6 _ _ _ hqf
  have r7 := cell_of_row _ _ 7 _ _ _ hqf
  have r8 := cell_of_row _ _ 8 _ _ _ hqf
  have r9 := cell_of_row _ _ 9 _ _ _ hqf
  have rs := (hBf.cell (p := ⟨bs, os + 1, none⟩) hltb).trans HC1.out
  have htx : (S (text1 ++ [10])).toList = text1 ++ [10] := S_toL _
  have HBF := Lib.hid (HB1.out.trans (hBf.mono HB1.out.size))
  clear hBf hqf k0 k1 k2 k3 k4 k5 k6 k7 k8 k9
  have hcmp : ((S (text1 ++ [10])).toList == [99, 111, 110, 102, 105, 103, 32, 52, 32, 50, 32, 56, 32, 49, 32, 48, 32, 48, 10, 115, 116, 97, 114, 116, 32, 53, 32, 45, 49, 10, 116, 104, 114, 101, 97, 100, 10, 104, 97, 108, 116, 10, 101, 110, 100, 10, 112, 105, 99, 107, 115, 32, 48, 32, 49, 10, 100, 114, 97, 105, 110, 32, 57, 10]) = true := by rw [htx]; kernel_rfl
  generalize S (text1 ++ [10]) = T1 at *
  clear htx
  go_wp2
  go_ret
  exact ⟨rfl, HBF.out⟩
end Go.Proofs.YtoiokbdipcecnaaGreatDoor
