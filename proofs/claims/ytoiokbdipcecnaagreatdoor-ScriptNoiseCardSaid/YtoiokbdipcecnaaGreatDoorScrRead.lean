/-
  (*reader).read of a script's reader: every line. Condition: the reader's place in memory (Sr), the library's variables (Env), sizes.
-/
import Derived.Test.YtoiokbdipcecnaaGreatDoorScrStart
import Derived.Test.YtoiokbdipcecnaaGreatDoorCodeRd
import Derived.Laws.ByValue
namespace Go.Proofs.YtoiokbdipcecnaaGreatDoor
open Go.RowKit Go.Maps Go.WideMaps
set_option maxRecDepth 100000

/-- which of the words a line begins with; 0: none -/
def wordN (l : List UInt8) : Nat :=
  if l = [99, 111, 110, 102, 105, 103] then 1 else if l = [115, 116, 97, 114, 116] then 2 else if l = [116, 104, 114, 101, 97, 100] then 3 else if l = [112, 105, 99, 107, 115] then 4 else if l = [100, 114, 97, 105, 110] then 5 else 0
/-- a line outside a program -/
def outS (st : SS) (line : Int) (L : List (List UInt8)) : Except Int SS :=
  match numsL L.tail with
  | none => .error 233
  | some ns => match wordN (L.headD []) with
    | 1 => configS st ns
    | 2 => startS st ns
    | 3 => threadS st line ns
    | 4 => picksS st ns
    | 5 => drainS st ns
    | _ => .error 233
/-- a reader's method as a value -/
def mth (f : Nat) (p : Addr) : Value := .func (.func f) #[.pointer (some p)] #[]
def numD (k : Nat) : DataW Unit := .lit (.int .i64 (k : Int))
/-- how a method's value reads -/
noncomputable def fnR (p : Addr) (v : Value) : Option (DataW Unit × List MemPlace) :=
  haveI := Classical.propDecidable
  if v = mth 56 p then some (numD 1, [])
  else if v = mth 57 p then some (numD 2, [])
  else if v = mth 58 p then some (numD 3, [])
  else if v = mth 59 p then some (numD 4, [])
  else if v = mth 60 p then some (numD 5, [])
  else if v = .nilFunc then some (numD 0, [])
  else none
theorem fnR_1 (p : Addr) : fnR p (mth 56 p) = some (numD 1, []) := by unfold fnR; rw [if_pos rfl]
theorem mth_ne {f g : Nat} (h : f ≠ g) (p : Addr) : mth f p ≠ mth g p := fun e => h (by unfold mth at e; injection e with e; injection e)
theorem fnR_2 (p : Addr) : fnR p (mth 57 p) = some (numD 2, []) := by
  unfold fnR; rw [if_neg (mth_ne (by decide) p), if_pos rfl]
theorem fnR_3 (p : Addr) : fnR p (mth 58 p) = some (numD 3, []) := by
  unfold fnR; rw [if_neg (mth_ne (by decide) p), if_neg (mth_ne (by decide) p), if_pos rfl]
theorem fnR_4 (p : Addr) : fnR p (mth 59 p) = some (numD 4, []) := by
  unfold fnR; rw [if_neg (mth_ne (by decide) p), if_neg (mth_ne (by decide) p), if_neg (mth_ne (by decide) p), if_pos rfl]
theorem fnR_5 (p : Addr) : fnR p (mth 60 p) = some (numD 5, []) := by
  unfold fnR; rw [if_neg (mth_ne (by decide) p), if_neg (mth_ne (by decide) p), if_neg (mth_ne (by decide) p), if_neg (mth_ne (by decide) p), if_pos rfl]
theorem fnR_0 (p : Addr) : fnR p .nilFunc = some (numD 0, []) := by
  unfold fnR
  rw [if_neg (by intro e; cases e), if_neg (by intro e; cases e), if_neg (by intro e; cases e), if_neg (by intro e; cases e), if_neg (by intro e; cases e), if_pos rfl]
theorem numD_inj {a b : Nat} (h : numD a = numD b) : a = b := by
  unfold numD at h
  injection h with h
  injection h with _ h
  omega
/-- what a reading tells -/
theorem fnR_back {p : Addr} {v : Value} {k : Nat} {ps : List MemPlace} (h : fnR p v = some (numD k, ps)) :
    (k = 0 ∧ v = .nilFunc) ∨ (k = 1 ∧ v = mth 56 p) ∨ (k = 2 ∧ v = mth 57 p) ∨ (k = 3 ∧ v = mth 58 p) ∨ (k = 4 ∧ v = mth 59 p) ∨ (k = 5 ∧ v = mth 60 p) := by
  have inj : ∀ m : Nat, (some (numD m, ([] : List MemPlace)) : Option (DataW Unit × List MemPlace)) = some (numD k, ps) → k = m := fun m e => by
    injection e with e; injection e with e _; exact (numD_inj e).symm
  unfold fnR at h
  split at h
  · rename_i e; exact .inr (.inl ⟨inj 1 h, e⟩)
  split at h
  · rename_i e; exact .inr (.inr (.inl ⟨inj 2 h, e⟩))
  split at h
  · rename_i e; exact .inr (.inr (.inr (.inl ⟨inj 3 h, e⟩)))
  split at h
  · rename_i e; exact .inr (.inr (.inr (.inr (.inl ⟨inj 4 h, e⟩))))
  split at h
  · rename_i e; exact .inr (.inr (.inr (.inr (.inr ⟨inj 5 h, e⟩))))
  split at h
  · rename_i e; exact .inl ⟨inj 0 h, e⟩
  · cases h
/-- the map of words -/
def wordsD : DataW Unit := (((((DataW.map []).put (.string [99, 111, 110, 102, 105, 103]) (numD 1)).put (.string [115, 116, 97, 114, 116]) (numD 2)).put (.string [116, 104, 114, 101, 97, 100]) (numD 3)).put (.string [112, 105, 99, 107, 115]) (numD 4)).put (.string [100, 114, 97, 105, 110]) (numD 5)
theorem words_at (l : List UInt8) : Maps.has wordsD (.string l) = decide (wordN l ≠ 0) ∧ wordsD.atKey (.string l) (numD 0) = numD (wordN l) := by
  have m0 : IsMap (DataW.map [] : DataW Unit) := isMap_empty
  have m1 := m0.put (.string [99, 111, 110, 102, 105, 103]) (numD 1)
  have m2 := m1.put (.string [115, 116, 97, 114, 116]) (numD 2)
  have m3 := m2.put (.string [116, 104, 114, 101, 97, 100]) (numD 3)
  have m4 := m3.put (.string [112, 105, 99, 107, 115]) (numD 4)
  unfold wordsD
  by_cases e5 : l = [100, 114, 97, 105, 110]
  · subst e5
    rw [has_put_same m4 (strKey _), atKey_put_same m4 (strKey _)]
    exact ⟨by decide, rfl⟩
  have n5 : (Lit.string l) ≠ .string [100, 114, 97, 105, 110] := fun h => e5 (by injection h)
  rw [has_put_other n5, atKey_put_other n5]
  by_cases e4 : l = [112, 105, 99, 107, 115]
  · subst e4
    rw [has_put_same m3 (strKey _), atKey_put_same m3 (strKey _)]
    exact ⟨by decide, rfl⟩
  have n4 : (Lit.string l) ≠ .string [112, 105, 99, 107, 115] := fun h => e4 (by injection h)
  rw [has_put_other n4, atKey_put_other n4]
  by_cases e3 : l = [116, 104, 114, 101, 97, 100]
  · subst e3
    rw [has_put_same m2 (strKey _), atKey_put_same m2 (strKey _)]
    exact ⟨by decide, rfl⟩
  have n3 : (Lit.string l) ≠ .string [116, 104, 114, 101, 97, 100] := fun h => e3 (by injection h)
  rw [has_put_other n3, atKey_put_other n3]
  by_cases e2 : l = [115, 116, 97, 114, 116]
  · subst e2
    rw [has_put_same m1 (strKey _), atKey_put_same m1 (strKey _)]
    exact ⟨by decide, rfl⟩
  have n2 : (Lit.string l) ≠ .string [115, 116, 97, 114, 116] := fun h => e2 (by injection h)
  rw [has_put_other n2, atKey_put_other n2]
  by_cases e1 : l = [99, 111, 110, 102, 105, 103]
  · subst e1
    rw [has_put_same m0 (strKey _), atKey_put_same m0 (strKey _)]
    exact ⟨by decide, rfl⟩
  have n1 : (Lit.string l) ≠ .string [99, 111, 110, 102, 105, 103] := fun h => e1 (by injection h)
  rw [has_put_other n1, atKey_put_other n1]
  have hw : wordN l = 0 := by unfold wordN; rw [if_neg e1, if_neg e2, if_neg e3, if_neg e4, if_neg e5]
  rw [hw]
  exact ⟨rfl, rfl⟩
theorem wpList_insert_own {H : Type} {P : Program} (w : World) {ops : Array Oper} {rest : List Oper} {o : Oper} {a : Act} {Q : Exit → Act → World → Prop}
    (hg : o.guard = none) (m x v : Operand) (t : TypeId) (hop : o.op = Op.insert t m x v)
    (k e : TypeId) (K : Keyed P k) (ht : P.underlying t = some (.map k e)) (R : Value → Option (DataW H × List MemPlace)) (b n : Nat) (D : DataW H)
    (hm : a.eval m = .map (some b)) (hown : w.ownsMap P k R b n D) (hn : n < maxLen) (key val : Value) (kl : Lit) (hx : a.eval x = key) (hv : a.eval v = val) (hkey : keyOf P k key = some kl)
    (d : DataW H) (ps : List MemPlace) (hval : R val = some (d, ps))
    (hK : ∀ w', w'.ownsMap P k R b (n + 1) (D.put kl d) → w.grownBy w' (some b) → wpList P ops Q rest (a.put o.dst undef) w') :
    wpList P ops Q (o :: rest) a w := by
  refine wpList_plain hg fun K' hK' => ?_
  obtain ⟨w', hrun, r1, r2⟩ := hown.update K ht hn hkey hval
  unfold Oper.wp
  simp [execOp, hop, hm, hx, hv, hrun, Result.andThen]
  exact hK' _ _ (hK w' r1 r2)
theorem zeroFn (w : World) : (zeroValue 110).run Tryz.prog w = .ok .nilFunc w := by kernel_rfl
theorem numsL_length : ∀ {L : List (List UInt8)} {ns : List Int}, numsL L = some ns → ns.length = L.length
  | [], ns, h => by injection h with h; subst h; rfl
  | x :: r, ns, h => by
    unfold numsL at h
    split at h
    · cases hr : numsL r with
      | none => rw [hr] at h; cases h
      | some m =>
        rw [hr] at h
        injection h with h
        subst h
        simp [numsL_length hr]
    · cases h
section
variable {w : World} {B rb : Nat} {vs vp vk vb : Value} {pv : List SlP} {st : SS} {line : Int}
theorem SrDoes.behind {w6 w' : World} {res : Except Int SS} {e : Ending} (h : SrDoes w6 B rb line res e w') (hb : Below w.heap.size w w6) (hB : B ≤ w.heap.size) : SrDoes w B rb line res e w' := by
  unfold SrDoes at h ⊢
  cases res with
  | error er => exact ⟨h.1, (hb.mono hB).trans h.2.1, (KeepT.of_below hb).trans h.2.2⟩
  | ok st' => exact ⟨h.1, h.2.1, (hb.mono hB).trans h.2.2.1, (KeepT.of_below hb).trans h.2.2.2⟩
set_option maxHeartbeats 4000000 in
theorem read_walk (A n : Nat) (L : List (List UInt8)) (hn : n = L.length) (h0 : 0 < n) (hn2 : n ≤ 1048576) (hs : SeesS w (some ⟨A, 0, none⟩) L) (hz : ∀ x ∈ L, x.length ≤ 1048576) (he : Env w) (h1 : st.start.length ≤ 1048576) (h2 : st.picks.length ≤ 1048576) (h : Sr w B rb vs vp vk vb pv st line) :
    Calls Tryz.prog 32 #[.pointer (some ⟨rb, 0, none⟩), .slice (some ⟨A, 0, none⟩) n n] w (SrDoes w B rb line (outS st line L)) := by
  have hmm := @run_makeMap Tryz.prog
  have ho0 := World.ownsMap_made (H := Unit) w Tryz.prog 9 (fnR ⟨rb, 0, none⟩)
  have H := Lib.hid h
  have k1 : ∀ (l : List UInt8), l.length ≤ 1048576 → keyOf Tryz.prog 9 (.string (S l)) = some (.string l) := fun l hl => keyOf_string_mk (s := S l) Tryz.underlying9 (by simp [S, ByteArray.size]; unfold maxLen; omega)
  have K1 := Lib.hid k1
  have HN := Lib.hid hn
  have HS := Lib.hid hs
  have HE := Lib.hid he
  have HZ := Lib.hid hz
  obtain ⟨res, hres⟩ : ∃ res, outS st line L = res := ⟨_, rfl⟩
  rw [hres]
  have HRES := Lib.hid hres
  clear k1 hn hs he hz h hres
  go_enter Tryz.func32, Tryz.ntmps32
  go_upto_region 1 with (first
    | (refine wpList_insert_own (H := Unit) _ rfl _ _ _ 111 rfl 9 110 strLaw Tryz.underlying111 (fnR ⟨rb, 0, none⟩) w.heap.size 0 _ rfl ho0 (by unfold maxLen; omega) (.string (S [99, 111, 110, 102, 105, 103])) (mth 56 ⟨rb, 0, none⟩) (.string [99, 111, 110, 102, 105, 103]) rfl rfl (K1.out _ (by decide)) _ _ (fnR_1 _) ?_; intro w1 ho1 hg1)
    | (refine wpList_insert_own (H := Unit) _ rfl _ _ _ 111 rfl 9 110 strLaw Tryz.underlying111 (fnR ⟨rb, 0, none⟩) w.heap.size 1 _ rfl ho1 (by unfold maxLen; omega) (.string (S [115, 116, 97, 114, 116])) (mth 57 ⟨rb, 0, none⟩) (.string [115, 116, 97, 114, 116]) rfl rfl (K1.out _ (by decide)) _ _ (fnR_2 _) ?_; intro w2 ho2 hg2)
    | (refine wpList_insert_own (H := Unit) _ rfl _ _ _ 111 rfl 9 110 strLaw Tryz.underlying111 (fnR ⟨rb, 0, none⟩) w.heap.size 2 _ rfl ho2 (by unfold maxLen; omega) (.string (S [116, 104, 114, 101, 97, 100])) (mth 58 ⟨rb, 0, none⟩) (.string [116, 104, 114, 101, 97, 100]) rfl rfl (K1.out _ (by decide)) _ _ (fnR_3 _) ?_; intro w3 ho3 hg3)
    | (refine wpList_insert_own (H := Unit) _ rfl _ _ _ 111 rfl 9 110 strLaw Tryz.underlying111 (fnR ⟨rb, 0, none⟩) w.heap.size 3 _ rfl ho3 (by unfold maxLen; omega) (.string (S [112, 105, 99, 107, 115])) (mth 59 ⟨rb, 0, none⟩) (.string [112, 105, 99, 107, 115]) rfl rfl (K1.out _ (by decide)) _ _ (fnR_4 _) ?_; intro w4 ho4 hg4)
    | (refine wpList_insert_own (H := Unit) _ rfl _ _ _ 111 rfl 9 110 strLaw Tryz.underlying111 (fnR ⟨rb, 0, none⟩) w.heap.size 4 _ rfl ho4 (by unfold maxLen; omega) (.string (S [100, 114, 97, 105, 110])) (mth 60 ⟨rb, 0, none⟩) (.string [100, 114, 97, 105, 110]) rfl rfl (K1.out _ (by decide)) _ _ (fnR_5 _) ?_; intro w5 ho5 hg5))
  obtain ⟨l0, hl0⟩ : ∃ x, L[0]? = some x := ⟨_, List.getElem?_eq_getElem (by rw [← HN.out]; exact h0)⟩
  have own : ∀ k, some w.heap.size = some k → w.heap.size ≤ k := fun k hk => by injection hk with hk; omega
  have b0 : Below w.heap.size w (w.alloc (.map #[] 0)) := (Below.refl _ _).alloc (Nat.le_refl _) _
  have b1 := b0.grown hg1 b0.size own
  have b2 := b1.grown hg2 b1.size own
  have b3 := b2.grown hg3 b2.size own
  have b4 := b3.grown hg4 b3.size own
  have hb5 := b4.grown hg5 b4.size own
  have hhd : L.headD [] = l0 := by
    cases L with
    | nil => simp at hl0
    | cons x r => simpa using hl0
  have hl0z := HZ.out l0 (List.mem_of_getElem? hl0)
  obtain ⟨v, ps, hlook, hrv⟩ := ho5.look_ok strLaw Tryz.underlying111 (zeroFn w5) (fnR_0 ⟨rb, 0, none⟩) (K1.out l0 hl0z)
  have hwa := words_at l0
  unfold wordsD at hwa
  obtain ⟨bk, hbk⟩ : ∃ bk, decide (wordN l0 ≠ 0) = bk := ⟨_, rfl⟩
  rw [hwa.1, hbk] at hlook
  rw [hwa.2] at hrv
  have hS5 := HS.out.below hb5
  obtain ⟨b, o, hao, hcell⟩ := hS5
  have hao2 := hao (by intro e; subst e; simp at hl0)
  injection hao2 with hao2
  injection hao2 with hbb hoo _
  subst hbb; subst hoo
  have c0 := hcell 0 l0 hl0
  rw [Nat.zero_add] at c0
  have hn0 : (0 : Int) < (n : Int) := by omega
  have HB5 := Lib.hid hb5
  have HCELL := Lib.hid hcell
  have HRV := Lib.hid hrv
  have hBw : B ≤ w.heap.size := by have := lt_of_block H.out.blk; have := H.out.ge; omega
  have hout : outS st line L = match numsL L.tail with
    | none => .error 233
    | some ns => match wordN l0 with
      | 1 => configS st ns
      | 2 => startS st ns
      | 3 => threadS st line ns
      | 4 => picksS st ns
      | 5 => drainS st ns
      | _ => .error 233 := by unfold outS; rw [hhd]
  rw [HRES.out] at hout
  have HOUT := Lib.hid hout
  have hz5 := hb5.size
  clear ho0 ho1 ho2 ho3 ho4 ho5 hg1 hg2 hg3 hg4 hg5 hwa hb5 hhd hl0z hao hcell hrv hout hmm own b0 b1 b2 b3 b4
  have HBK := Lib.hid hbk
  clear hbk
  go_upto_region 2 with (fail)
  have hS5 := H.out.below HB5.out
  have HS5 := Lib.hid hS5
  have hE5 := HE.out.below HB5.out
  have HE5 := Lib.hid hE5
  clear hS5 hE5 c0 hl0 hlook
  have htl : L.tail.length = n - 1 := by rw [List.length_tail, ← HN.out]
  have hnums : ∀ ao, SeesS w5 ao L.tail → Calls Tryz.prog 61 #[.slice ao (n - 1) (n - 1)] w5 (NumsDo L.tail w5) := fun ao hse =>
    numbers_any ao (n - 1) (n - 1) L.tail w5 htl.symm hse (by omega) (fun x hx => HZ.out x (List.mem_of_mem_tail hx)) HE5.out
  have htc : ∀ (j : Nat) x, L.tail[j]? = some x → w5.cell? ⟨A, 1 + j, none⟩ = some (.string (S x)) := fun j x hx => by
    have := HCELL.out (j + 1) x (by rw [← hx, List.getElem?_tail])
    rw [show 0 + (j + 1) = 1 + j by omega] at this
    exact this
  have HNUMS := Lib.hid hnums
  have HTC := Lib.hid htc
  clear hnums htc htl
  cases hnl : numsL L.tail with
  | none =>
    have hno : ∀ ao', Calls Tryz.prog 61 #[.slice ao' (n - 1) (n - 1)] w5 (NumsDo L.tail w5) → Calls Tryz.prog 61 #[.slice ao' (n - 1) (n - 1)] w5 (fun e w' => e = .returned (.tuple #[.slice none 0 0, .bool false]) ∧ Below w5.heap.size w5 w') := fun ao' hc =>
      hc.mono fun e w' hd => by unfold NumsDo at hd; rw [hnl] at hd; exact hd
    have hrx := HOUT.out
    rw [hnl] at hrx
    have HR := Lib.hid (show res = .error 233 from hrx)
    have HNO := Lib.hid hno
    clear hrx hno hnl
    by_cases hn1 : n = 1
    · subst hn1
      have hnumx := HNO.out _ (HNUMS.out (some ⟨A, 0, none⟩) ⟨A, 1, (fun e => absurd (List.eq_nil_of_length_eq_zero (by rw [List.length_tail, ← HN.out])) e), HTC.out⟩)
      have HNX := Lib.hid hnumx
      clear hnumx
      cases bk
      all_goals
        go_wp2_with (first
          | (go_at_call 61; go_must (refine HNX.out.mono ?_; rintro e w6 ⟨rfl, hb6⟩; have HB6 := Lib.hid hb6; have c11 := (HS5.out.below hb6).cells.1 11 (.int .i64 line) rfl; clear hb6))
          | (go_at_call 33; refine (sfail_any _ _ line _).mono ?_; rintro e w7 ⟨rfl, rfl⟩))
        exact ⟨rfl, SrDoes.bad HR.out ((HB5.out.mono hBw).trans (HB6.out.mono (by omega))) ((KeepT.of_below HB5.out).trans (KeepT.of_below HB6.out))⟩
    · have hn2' : (1 : Int) ≤ (n : Int) := by omega
      have hnumx := HNO.out _ (HNUMS.out (some ⟨A, 1, none⟩) ⟨A, 1, fun _ => rfl, HTC.out⟩)
      have HNX := Lib.hid hnumx
      clear hnumx
      cases bk
      all_goals
        go_wp2_with (first
          | (go_at_call 61; go_must (refine HNX.out.mono ?_; rintro e w6 ⟨rfl, hb6⟩; have HB6 := Lib.hid hb6; have c11 := (HS5.out.below hb6).cells.1 11 (.int .i64 line) rfl; clear hb6))
          | (go_at_call 33; refine (sfail_any _ _ line _).mono ?_; rintro e w7 ⟨rfl, rfl⟩))
        exact ⟨rfl, SrDoes.bad HR.out ((HB5.out.mono hBw).trans (HB6.out.mono (by omega))) ((KeepT.of_below HB5.out).trans (KeepT.of_below HB6.out))⟩
  | some ns =>
    have hyes : ∀ ao', Calls Tryz.prog 61 #[.slice ao' (n - 1) (n - 1)] w5 (NumsDo L.tail w5) → Calls Tryz.prog 61 #[.slice ao' (n - 1) (n - 1)] w5 (fun e w' => ∃ v', e = .returned (.tuple #[v', .bool true]) ∧ OwnG intT w' w5.heap.size v' ns ∧ Below w5.heap.size w5 w') := fun ao' hc =>
      hc.mono fun e w' hd => by unfold NumsDo at hd; rw [hnl] at hd; exact hd
    have hnsl := numsL_length hnl
    rw [List.length_tail, ← HN.out] at hnsl
    have hrx := HOUT.out
    rw [hnl] at hrx
    simp only at hrx
    have HYES := Lib.hid hyes
    clear hyes hnl
    rcases fnR_back HRV.out with ⟨hk, rfl⟩ | hk5
    · rw [hk] at hrx
      have HR := Lib.hid (show res = .error 233 from hrx)
      obtain rfl : bk = false := by rw [← HBK.out, hk]; rfl
      clear hrx hk hnsl
      by_cases hn1 : n = 1
      · subst hn1
        have hnumx := HYES.out _ (HNUMS.out (some ⟨A, 0, none⟩) ⟨A, 1, (fun e => absurd (List.eq_nil_of_length_eq_zero (by rw [List.length_tail, ← HN.out])) e), HTC.out⟩)
        have HNX := Lib.hid hnumx
        clear hnumx
        go_wp2_with (first
          | (go_at_call 61; go_must (refine HNX.out.mono ?_; rintro e w6 ⟨v6, rfl, ho6, hb6⟩; obtain ⟨ao6, c6, rfl, hs6, -⟩ := SeesN.of_own ho6; have HS6 := Lib.hid hs6; have HB6 := Lib.hid hb6; have c11 := (HS5.out.below hb6).cells.1 11 (.int .i64 line) rfl; clear hb6 hs6 ho6))
          | (go_at_call 33; refine (sfail_any _ _ line _).mono ?_; rintro e w7 ⟨rfl, rfl⟩))
        exact ⟨rfl, SrDoes.bad HR.out ((HB5.out.mono hBw).trans (HB6.out.mono (by omega))) ((KeepT.of_below HB5.out).trans (KeepT.of_below HB6.out))⟩
      · have hn2x : (1 : Int) ≤ (n : Int) := by omega
        have hnumx := HYES.out _ (HNUMS.out (some ⟨A, 1, none⟩) ⟨A, 1, fun _ => rfl, HTC.out⟩)
        have HNX := Lib.hid hnumx
        clear hnumx
        go_wp2_with (first
          | (go_at_call 61; go_must (refine HNX.out.mono ?_; rintro e w6 ⟨v6, rfl, ho6, hb6⟩; obtain ⟨ao6, c6, rfl, hs6, -⟩ := SeesN.of_own ho6; have HS6 := Lib.hid hs6; have HB6 := Lib.hid hb6; have c11 := (HS5.out.below hb6).cells.1 11 (.int .i64 line) rfl; clear hb6 hs6 ho6))
          | (go_at_call 33; refine (sfail_any _ _ line _).mono ?_; rintro e w7 ⟨rfl, rfl⟩))
        exact ⟨rfl, SrDoes.bad HR.out ((HB5.out.mono hBw).trans (HB6.out.mono (by omega))) ((KeepT.of_below HB5.out).trans (KeepT.of_below HB6.out))⟩
    · have hbk : bk = true := by
        rw [← HBK.out]
        rcases hk5 with ⟨hk, _⟩ | ⟨hk, _⟩ | ⟨hk, _⟩ | ⟨hk, _⟩ | ⟨hk, _⟩ <;> rw [hk] <;> rfl
      subst hbk
      have hmeth : ∃ f : Nat, v = mth f ⟨rb, 0, none⟩ ∧ (f = 56 ∨ f = 57 ∨ f = 58 ∨ f = 59 ∨ f = 60) ∧ ∀ (W : World) ao' c', SeesN W ao' ns → Sr W B rb vs vp vk vb pv st line → Calls Tryz.prog f #[.pointer (some ⟨rb, 0, none⟩), .slice ao' ns.length c'] W (SrDoes W B rb line res) := by
        rcases hk5 with ⟨hk, e⟩ | ⟨hk, e⟩ | ⟨hk, e⟩ | ⟨hk, e⟩ | ⟨hk, e⟩ <;> rw [hk] at hrx
        · exact ⟨_, e, .inl rfl, fun W ao' c' h1 h2 => by rw [show res = configS st ns from hrx]; exact config_any ao' c' _ ns rfl (by omega) h1 h2⟩
        · exact ⟨_, e, .inr (.inl rfl), fun W ao' c' h1 h2 => by rw [show res = startS st ns from hrx]; exact start_any ao' c' _ ns rfl (by omega) h1 (by assumption) h2⟩
        · exact ⟨_, e, .inr (.inr (.inl rfl)), fun W ao' c' _ h2 => by rw [show res = threadS st line ns from hrx]; exact thread_any ao' c' _ ns rfl (by omega) h2⟩
        · exact ⟨_, e, .inr (.inr (.inr (.inl rfl))), fun W ao' c' h1 h2 => by rw [show res = picksS st ns from hrx]; exact picks_any ao' c' _ ns rfl (by omega) h1 (by assumption) h2⟩
        · exact ⟨_, e, .inr (.inr (.inr (.inr rfl))), fun W ao' c' h1 h2 => by rw [show res = drainS st ns from hrx]; exact drain_any ao' c' _ ns rfl (by omega) h1 h2⟩
      obtain ⟨f, rfl, hf, hcall⟩ := hmeth
      unfold mth
      clear hrx hk5 hnsl HRV HOUT HRES
      cases hrr : res with
      | error er =>
        have hcb : ∀ (W : World) ao' c', SeesN W ao' ns → Sr W B rb vs vp vk vb pv st line → Calls Tryz.prog f #[.pointer (some ⟨rb, 0, none⟩), .slice ao' ns.length c'] W fun e w' => e = .panicked [{ v := .iface 65 (.agg #[.int .i64 er, .int .i64 line]), recovered := false }] ∧ Below B W w' ∧ KeepT W w' := fun W ao' c' h1 h2 =>
          (hcall W ao' c' h1 h2).mono fun e w' hd => by unfold SrDoes at hd; rw [hrr] at hd; exact hd
        have HCB := Lib.hid hcb
        have HR := Lib.hid hrr
        clear hcall hcb hrr
        rcases hf with rfl | rfl | rfl | rfl | rfl
        all_goals
          by_cases hn1 : n = 1
          · subst hn1
            have hnumx := HYES.out _ (HNUMS.out (some ⟨A, 0, none⟩) ⟨A, 1, (fun e => absurd (List.eq_nil_of_length_eq_zero (by rw [List.length_tail, ← HN.out])) e), HTC.out⟩)
            have HNX := Lib.hid hnumx
            clear hnumx
            go_wp2_with (first
              | (go_at_call 61; go_must (refine HNX.out.mono ?_; rintro e w6 ⟨v6, rfl, ho6, hb6⟩; obtain ⟨ao6, c6, rfl, hs6, -⟩ := SeesN.of_own ho6; have HS6 := Lib.hid hs6; have HB6 := Lib.hid hb6; have c11 := (HS5.out.below hb6).cells.1 11 (.int .i64 line) rfl; clear hb6 hs6 ho6))
              | (refine (HCB.out _ ao6 c6 HS6.out (HS5.out.below HB6.out)).mono ?_; rintro e w7 ⟨rfl, hb7, hk7⟩))
            exact ⟨rfl, SrDoes.bad HR.out (((HB5.out.mono hBw).trans (HB6.out.mono (by omega))).trans hb7) (((KeepT.of_below HB5.out).trans (KeepT.of_below HB6.out)).trans hk7)⟩
          · have hn2x : (1 : Int) ≤ (n : Int) := by omega
            have hnumx := HYES.out _ (HNUMS.out (some ⟨A, 1, none⟩) ⟨A, 1, fun _ => rfl, HTC.out⟩)
            have HNX := Lib.hid hnumx
            clear hnumx
            go_wp2_with (first
              | (go_at_call 61; go_must (refine HNX.out.mono ?_; rintro e w6 ⟨v6, rfl, ho6, hb6⟩; obtain ⟨ao6, c6, rfl, hs6, -⟩ := SeesN.of_own ho6; have HS6 := Lib.hid hs6; have HB6 := Lib.hid hb6; have c11 := (HS5.out.below hb6).cells.1 11 (.int .i64 line) rfl; clear hb6 hs6 ho6))
              | (refine (HCB.out _ ao6 c6 HS6.out (HS5.out.below HB6.out)).mono ?_; rintro e w7 ⟨rfl, hb7, hk7⟩))
            exact ⟨rfl, SrDoes.bad HR.out (((HB5.out.mono hBw).trans (HB6.out.mono (by omega))).trans hb7) (((KeepT.of_below HB5.out).trans (KeepT.of_below HB6.out)).trans hk7)⟩
      | ok st' =>
        have hcb : ∀ (W : World) ao' c', SeesN W ao' ns → Sr W B rb vs vp vk vb pv st line → Calls Tryz.prog f #[.pointer (some ⟨rb, 0, none⟩), .slice ao' ns.length c'] W fun e w' => e = .returned (.tuple #[]) ∧ (∃ vs vp vk vb pv, Sr w' B rb vs vp vk vb pv st' line) ∧ Below B W w' ∧ KeepT W w' := fun W ao' c' h1 h2 =>
          (hcall W ao' c' h1 h2).mono fun e w' hd => by unfold SrDoes at hd; rw [hrr] at hd; exact hd
        have HCB := Lib.hid hcb
        have HR := Lib.hid hrr
        clear hcall hcb hrr
        rcases hf with rfl | rfl | rfl | rfl | rfl
        all_goals
          by_cases hn1 : n = 1
          · subst hn1
            have hnumx := HYES.out _ (HNUMS.out (some ⟨A, 0, none⟩) ⟨A, 1, (fun e => absurd (List.eq_nil_of_length_eq_zero (by rw [List.length_tail, ← HN.out])) e), HTC.out⟩)
            have HNX := Lib.hid hnumx
            clear hnumx
            go_wp2_with (first
              | (go_at_call 61; go_must (refine HNX.out.mono ?_; rintro e w6 ⟨v6, rfl, ho6, hb6⟩; obtain ⟨ao6, c6, rfl, hs6, -⟩ := SeesN.of_own ho6; have HS6 := Lib.hid hs6; have HB6 := Lib.hid hb6; have c11 := (HS5.out.below hb6).cells.1 11 (.int .i64 line) rfl; clear hb6 hs6 ho6))
              | (refine (HCB.out _ ao6 c6 HS6.out (HS5.out.below HB6.out)).mono ?_; rintro e w7 ⟨rfl, ⟨us, up, uk, ub, uv, h7⟩, hb7, hk7⟩))
            go_end0
            exact SrDoes.good HR.out h7 (((HB5.out.mono hBw).trans (HB6.out.mono (by omega))).trans hb7) (((KeepT.of_below HB5.out).trans (KeepT.of_below HB6.out)).trans hk7)
          · have hn2x : (1 : Int) ≤ (n : Int) := by omega
            have hnumx := HYES.out _ (HNUMS.out (some ⟨A, 1, none⟩) ⟨A, 1, fun _ => rfl, HTC.out⟩)
            have HNX := Lib.hid hnumx
            clear hnumx
            go_wp2_with (first
              | (go_at_call 61; go_must (refine HNX.out.mono ?_; rintro e w6 ⟨v6, rfl, ho6, hb6⟩; obtain ⟨ao6, c6, rfl, hs6, -⟩ := SeesN.of_own ho6; have HS6 := Lib.hid hs6; have HB6 := Lib.hid hb6; have c11 := (HS5.out.below hb6).cells.1 11 (.int .i64 line) rfl; clear hb6 hs6 ho6))
              | (refine (HCB.out _ ao6 c6 HS6.out (HS5.out.below HB6.out)).mono ?_; rintro e w7 ⟨rfl, ⟨us, up, uk, ub, uv, h7⟩, hb7, hk7⟩))
            go_end0
            exact SrDoes.good HR.out h7 (((HB5.out.mono hBw).trans (HB6.out.mono (by omega))).trans hb7) (((KeepT.of_below HB5.out).trans (KeepT.of_below HB6.out)).trans hk7)
end
end Go.Proofs.YtoiokbdipcecnaaGreatDoor
