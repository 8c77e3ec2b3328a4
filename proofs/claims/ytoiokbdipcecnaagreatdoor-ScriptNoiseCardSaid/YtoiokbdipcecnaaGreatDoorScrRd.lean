/-
  THE READER OF A SCRIPT: its state as data, how it lies in memory. No condition.
  And: quash/script.numbers: for every row of texts of at most 1048576 bytes each. Condition: the library's variables (Env).
  And: quash/script.bare, fields, fail: for every text of at most 1048576 bytes. Condition: the library's variables (Env).
-/
import Derived.Test.YtoiokbdipcecnaaGreatDoorCodeTrim
import Derived.Test.YtoiokbdipcecnaaGreatDoorCodeLines
import Derived.Test.YtoiokbdipcecnaaGreatDoorRowO
import Derived.Shelf.Strings.FieldsFuncAny
import Derived.Test.YtoiokbdipcecnaaGreatDoorCodeInstrs
namespace Go.Proofs.YtoiokbdipcecnaaGreatDoor
open Go.RowKit
set_option maxRecDepth 100000

/-- rows of strings -/
def strT : ElemT (List UInt8) where
  t := 74
  e := 9
  size := 1
  bytes := 16
  z := .string .empty
  cells := fun x => [.string (S x)]
  ht := Tryz.underlying74
  info := ⟨_, rfl, rfl, rfl, rfl⟩
  zs := rfl
  pos := by decide
  len := fun _ => rfl
  one := fun x v hv => by simp at hv; subst hv; rfl
theorem Trim_big (s : ByteArray) (w : World) (hs : s.size ≤ 1048576) :
    Calls Tryz.prog 49 #[.string s, .string ⟨#[32, 9]⟩] w fun e w' => e = .returned (.string (S (Lib.trimS s.data.toList [32, 9]))) ∧ Below w.heap.size w w' :=
  Any.strings_Trim_laid Tryz.lays160 (by kernel_rfl) s ⟨#[32, 9]⟩ w (by omega) (by decide) (ascii_of_all (by decide))
theorem Cut_big (s : ByteArray) (w : World) (hs : s.size ≤ 1048576) (he : Env w) :
    Calls Tryz.prog 48 #[.string s, .string ⟨#[59]⟩] w fun e w' => ∃ t b, e = .returned (.tuple #[.string (S (Lib.cut s.data.toList [59]).1), .string t, .bool b]) ∧ Below w.heap.size w w' := by
  obtain ⟨m, hm⟩ := he.len
  refine (Tryz.strings_Cut s ⟨#[59]⟩ m w (by omega) hm).mono ?_
  rintro e w' ⟨rfl, n, rfl⟩
  exact ⟨_, _, rfl, below_drewN _ _ _⟩
theorem Split_big (l : List UInt8) (c : UInt8) (w : World) (hs : l.length ≤ 1048576) (he : Env w) :
    Calls Tryz.prog 47 #[.string (S l), .string ⟨#[c]⟩] w fun e w' =>
      e = .returned (.slice (some ⟨w.heap.size, 0, none⟩) (linesL c l).length (linesL c l).length) ∧ w' = w.alloc (.cells ((linesL c l).map fun x => Value.string (S x)).toArray 9) := by
  obtain ⟨m, hm⟩ := he.len
  refine (Tryz.strings_Split (S l) ⟨#[c]⟩ m w (by simp [S, ByteArray.size]; omega) hm (Nat.le_refl 1)).mono ?_
  rintro e w' ⟨rfl, rfl⟩
  have h1 : (linesL c l).length = Lib.countB (S l) ⟨#[c]⟩ + 1 := by
    have := Lib.splitB_all ⟨#[c]⟩ (Nat.le_refl 1) 0 _ (S l) rfl
    rw [splitB_lines] at this
    simpa using this
  rw [h1, splitB_lines, List.map_map]
  exact ⟨rfl, rfl⟩
/-- a line without its remark and its blanks -/
def bareL (l : List UInt8) : List UInt8 := Lib.trimS (Lib.cut l [59]).1 [32, 9]
theorem cut1_length (l : List UInt8) : (Lib.cut l [59]).1.length ≤ l.length := by
  unfold Lib.cut
  split
  · simp; omega
  · exact Nat.le_refl _
theorem trimS_len' (l cs : List UInt8) : (Lib.trimS l cs).length ≤ l.length := by
  unfold Lib.trimS Lib.trimLeftS Lib.trimRightS
  have h1 := (List.dropWhile_sublist (fun x => cs.contains x) (l := (l.reverse.dropWhile fun x => cs.contains x).reverse)).length_le
  have h2 := (List.dropWhile_sublist (fun x => cs.contains x) (l := l.reverse)).length_le
  simp only [List.length_reverse] at h1 h2
  omega
theorem bareL_length (l : List UInt8) : (bareL l).length ≤ l.length := Nat.le_trans (trimS_len' _ _) (cut1_length l)
theorem scrBare_any (l : List UInt8) (w : World) (hs : l.length ≤ 1048576) (he : Env w) :
    Calls Tryz.prog 29 #[.string (S l)] w fun e w' => e = .returned (.string (S (bareL l))) ∧ Below w.heap.size w w' := by
  have hz : (S l).size ≤ 1048576 := by simpa [S, ByteArray.size] using hs
  have hc := Cut_big (S l) w hz he
  have ht := fun W => Trim_big (S (Lib.cut l [59]).1) W (by have := cut1_length l; simp [S, ByteArray.size]; omega)
  have HC := Lib.hid hc
  have HT := Lib.hid ht
  clear hc ht he hz hs
  go_enter Tryz.func29, Tryz.ntmps29
  go_wp2_with (first
    | (go_at_call 48; go_must (refine HC.out.mono ?_; rintro e w1 ⟨t, b, rfl, hb1⟩))
    | (go_at_call 49; go_must (refine (HT.out _).mono ?_; rintro e w2 ⟨rfl, hb2⟩)))
  go_ret
  exact ⟨rfl, hb1.trans (hb2.mono hb1.size)⟩
/-- is the rune a blank? -/
def blankP (c : Nat) : Bool := c == 32 || c == 9
theorem isBlank_any (c : Nat) (w : World) : Calls Tryz.prog 51 #[.int .i32 (c : Int)] w fun e w' => e = .returned (.bool (blankP c)) ∧ w = w' := by
  by_cases h1 : c = 32
  · subst h1
    go_enter Tryz.func51, Tryz.ntmps51
    go_wp2
    go_ret
    exact ⟨rfl, rfl⟩
  · have n1 : ((c : Int) == 32) = false := by rw [beq_eq_false_iff_ne]; omega
    by_cases h2 : c = 9
    · subst h2
      go_enter Tryz.func51, Tryz.ntmps51
      go_wp2
      go_ret
      exact ⟨rfl, rfl⟩
    · have n2 : ((c : Int) == 9) = false := by rw [beq_eq_false_iff_ne]; omega
      have hb : blankP c = false := by simp [blankP, h1, h2]
      rw [hb]
      clear h1 h2 hb
      go_enter Tryz.func51, Tryz.ntmps51
      go_wp2
      go_ret
      exact ⟨rfl, rfl⟩
/-- what stands between blanks -/
def fieldsL (l : List UInt8) : List (List UInt8) := (Lib.goFieldsP blankP (S l)).map (·.data.toList)
theorem fieldsL_S (l : List UInt8) : (Lib.goFieldsP blankP (S l)).map Value.string = strT.all (fieldsL l) := by
  unfold fieldsL ElemT.all
  induction Lib.goFieldsP blankP (S l) with
  | nil => rfl
  | cons x r ih =>
    rw [List.map_cons, List.map_cons, List.flatMap_cons, ← ih]
    show _ = [Value.string (S x.data.toList)] ++ _
    rw [S_eta]; rfl
theorem fields_any (l : List UInt8) (w : World) (hs : l.length ≤ 1048576) :
    Calls Tryz.prog 30 #[.string (S l)] w fun e w' => ∃ A, e = .returned (.slice (some ⟨A, 0, none⟩) (fieldsL l).length (fieldsL l).length) ∧ OwnG strT w' w.heap.size (.slice (some ⟨A, 0, none⟩) (fieldsL l).length (fieldsL l).length) (fieldsL l) ∧ Below w.heap.size w w' := by
  have hf := fun W => Tryz.strings_FieldsFunc_runes 51 #[] (enters_of Tryz.func51 (by kernel_rfl) rfl) blankP (S l) W (by simp [S, ByteArray.size]; omega)
    (fun W' x _ _ => (isBlank_any x W').mono fun e w' ⟨h1, h2⟩ => ⟨h1, 0, h2.symm⟩)
  have hlen : (Lib.goFieldsP blankP (S l)).length = (fieldsL l).length := by unfold fieldsL; simp
  have hcell := fieldsL_S l
  have HF := Lib.hid hf
  have HL := Lib.hid hlen
  have HC := Lib.hid hcell
  clear hf hlen hcell hs
  go_enter Tryz.func30, Tryz.ntmps30
  go_wp2_with (go_at_call 50; go_must (refine (HF.out _).mono ?_; rintro e w1 ⟨A, rfl, hA, ho, hb⟩))
  go_ret
  rw [HC.out, HL.out] at ho
  exact ⟨A, by rw [HL.out]; rfl, ho, hb⟩
/-- the fault of a script's reader -/
def sfault (e line : Int) : Ending := .panicked [{ v := .iface 65 (.agg #[.int .i64 e, .int .i64 line]), recovered := false }]
theorem sfail_any (p : Option Addr) (e line : Int) (w : World) :
    Calls Tryz.prog 33 #[.pointer p, .int .i64 e, .int .i64 line] w fun en w' => en = .panicked [{ v := .iface 65 (.agg #[.int .i64 e, .int .i64 line]), recovered := false }] ∧ w = w' := by
  go_enter Tryz.func33, Tryz.ntmps33
  go_wp2
  exact ⟨rfl, rfl, rfl⟩
end Go.Proofs.YtoiokbdipcecnaaGreatDoor
namespace Go.Proofs.YtoiokbdipcecnaaGreatDoor
open Go.RowKit
set_option maxRecDepth 100000

/-- rows of ints -/
def intT : ElemT Int where
  t := 27
  e := 3
  size := 1
  bytes := 8
  z := .int .i64 0
  cells := fun x => [.int .i64 x]
  ht := Tryz.underlying27
  info := ⟨_, rfl, rfl, rfl, rfl⟩
  zs := rfl
  pos := by decide
  len := fun _ => rfl
  one := fun x v hv => by simp at hv; subst hv; rfl
/-- a slice of strings reads as a list -/
def SeesS (w : World) (ao : Option Addr) (L : List (List UInt8)) : Prop := ∃ b o, (L ≠ [] → ao = some ⟨b, o, none⟩) ∧ ∀ (j : Nat) x, L[j]? = some x → w.cell? ⟨b, o + j, none⟩ = some (.string (S x))
theorem SeesS.below {w w' : World} {ao : Option Addr} {L : List (List UInt8)} (h : SeesS w ao L) (hb : Below w.heap.size w w') : SeesS w' ao L := by
  obtain ⟨b, o, h1, h2⟩ := h
  exact ⟨b, o, h1, fun j x hx => by
    have := h2 j x hx
    exact (hb.cell (p := ⟨b, o + j, none⟩) (block_lt_of_cell this)).trans this⟩
theorem SeesS.of_own {w : World} {B : Nat} {A n c : Nat} {L : List (List UInt8)} (h : OwnG strT w B (.slice (some ⟨A, 0, none⟩) n c) L) : SeesS w (some ⟨A, 0, none⟩) L :=
  ⟨A, 0, fun _ => rfl, fun j x hx => by
    have := h.cell (i := 0) hx (u := .string (S x)) rfl
    rw [show j * strT.size + 0 = 0 + j by show j * 1 + 0 = 0 + j; omega] at this
    exact this⟩
/-- the numbers that texts are -/
def numsL : List (List UInt8) → Option (List Int)
  | [] => some []
  | x :: r => if (numberB x).2 = true then (numsL r).map ((numberB x).1 :: ·) else none
def NumsDo (L : List (List UInt8)) (w : World) (e : Ending) (w' : World) : Prop :=
  match numsL L with
  | none => e = .returned (.tuple #[.slice none 0 0, .bool false]) ∧ Below w.heap.size w w'
  | some ns => ∃ v, e = .returned (.tuple #[v, .bool true]) ∧ OwnG intT w' w.heap.size v ns ∧ Below w.heap.size w w'
theorem NumsDo.no {L : List (List UInt8)} {w w' : World} (h : numsL L = none) (hb : Below w.heap.size w w') : NumsDo L w (.returned (.tuple #[.slice none 0 0, .bool false])) w' := by
  unfold NumsDo; rw [h]; exact ⟨rfl, hb⟩
theorem NumsDo.yes {L : List (List UInt8)} {w w' : World} {ns : List Int} {v : Value} (h : numsL L = some ns) (ho : OwnG intT w' w.heap.size v ns) (hb : Below w.heap.size w w') : NumsDo L w (.returned (.tuple #[v, .bool true])) w' := by
  unfold NumsDo; rw [h]; exact ⟨v, rfl, ho, hb⟩
theorem numsL_from {L : List (List UInt8)} {k : Nat} {out : List Int} (h : numsL L = (numsL (L.drop k)).map (out ++ ·)) {x : List UInt8} (hx : L[k]? = some x) :
    numsL L = if (numberB x).2 = true then (numsL (L.drop (k + 1))).map ((out ++ [(numberB x).1]) ++ ·) else none := by
  obtain ⟨h1, h2⟩ := List.getElem?_eq_some_iff.1 hx
  rw [h, List.drop_eq_getElem_cons h1, h2, numsL]
  split
  · cases numsL (L.drop (k + 1)) with
    | none => rfl
    | some r => simp
  · rfl
theorem S_toL (l : List UInt8) : (S l).toList = l := by rw [ByteArray.toList_eq]; rfl
theorem ParseInt_big (s : ByteArray) (v : Int) (w : World) (hs : s.size ≤ 1048576) (h : Lib.parseIntB 64 s.data.toList = .ok v) :
    Calls Tryz.prog 82 #[.string s, .int .i64 10, .int .i64 64] w fun e w' => e = .returned (.tuple #[.int .i64 v, .nilIface]) ∧ Below w.heap.size w w' := by
  refine (Tryz.strconv_ParseInt_10_at64_ok s (by omega) v h w).mono ?_
  rintro e w' ⟨rfl, rfl | ⟨t, rfl⟩⟩
  · exact ⟨rfl, Below.refl _ _⟩
  · exact ⟨rfl, Lib.bytesWorld_below _ _ _⟩
set_option maxHeartbeats 4000000 in
theorem numbers_any (ao : Option Addr) (c n : Nat) (L : List (List UInt8)) (w : World) (hn : n = L.length) (hs : SeesS w ao L) (hlen : L.length ≤ 1048576) (hz : ∀ x ∈ L, x.length ≤ 1048576) (he : Env w) :
    Calls Tryz.prog 61 #[.slice ao n c] w (NumsDo L w) := by
  have hnn := fun W => @run_neq_nil_nil Tryz.prog W 54
  have hhn := @run_neq_held_nil Tryz.prog
  have HN := Lib.hid hn
  have HS := Lib.hid hs
  have HE := Lib.hid he
  have HZ := Lib.hid hz
  rw [← hn] at hlen
  clear hn hs he hz
  go_enter Tryz.func61, Tryz.ntmps61
  go_wp2
  go_loopw [4, 11] (fun v i wr => ∃ (k : Nat) (out : List Int), k ≤ n ∧ i = .int .i64 k ∧ out.length = k ∧ OwnG intT wr w.heap.size v out ∧ Below w.heap.size w wr ∧ numsL L = (numsL (L.drop k)).map (out ++ ·)) (fun _ i _ => n - (intOf i).toNat)
  case atStart => exact ⟨0, [], Nat.zero_le _, rfl, rfl, OwnG.nil _ _ _, Below.refl _ _, by cases h : numsL L with | none => simp [h] | some r => simp [h]⟩
  case round =>
    obtain ⟨k, out, hk, rfl, hol, hoo, hB, hgo⟩ := hrel
    have HOL := Lib.hid hol
    have HOO := Lib.hid hoo
    have HB := Lib.hid hB
    have HGO := Lib.hid hgo
    have hzr := hB.size
    clear hol hoo hB hgo
    by_cases hlt : k < n
    · obtain ⟨x, hx⟩ : ∃ x, L[k]? = some x := ⟨_, List.getElem?_eq_getElem (by rw [← HN.out]; exact hlt)⟩
      obtain ⟨b, o, hao, hcell⟩ := HS.out.below HB.out
      obtain rfl := hao (by intro e; subst e; simp at hx)
      have hc0 := hcell k x hx
      have hxs : (S x).size ≤ 1048576 := by
        have := HZ.out x (List.mem_of_getElem? hx)
        simpa [S, ByteArray.size] using this
      have hstep := numsL_from HGO.out hx
      have hE := HE.out.below HB.out
      have HEV := Lib.hid hE
      have hi0 : (0 : Int) ≤ (k : Int) := by omega
      have hi1 : (k : Int) < (n : Int) := by omega
      clear hx hcell hao HGO hE
      have hdat : (S x).data.toList = x := rfl
      cases hp : Lib.parseIntB 64 x with
      | ok v =>
        obtain ⟨b1, b2⟩ := parse_ok_bounds hp
        have hnb : numberB x = (v, decide (Lib.itoa v = x)) := by unfold numberB; rw [hp]
        have hpar := fun W => ParseInt_big (S x) v W hxs hp
        have HPAR := Lib.hid hpar
        rw [hnb] at hstep
        simp only [decide_eq_true_eq] at hstep
        clear hp hpar hnb hdat
        by_cases hq : Lib.itoa v = x
        · rw [if_pos hq] at hstep
          have hqe : ((S (Lib.itoa v)).toList == (S x).toList) = true := by rw [hq]; simp
          have HST := Lib.hid hstep
          clear hstep hq
          go_wp2_with (first
            | (go_at_call 82; go_must (refine (HPAR.out _).mono ?_; rintro e w1 ⟨rfl, hb1⟩; have hz1 := hb1.size))
            | (go_at_call 40; go_must (refine (FormatInt_any v _ b1 b2 (HEV.out.below hb1)).mono ?_; rintro e w2 ⟨rfl, hb2⟩; have hz2 := hb2.size; have HB2 := Lib.hid (hb1.trans (hb2.mono hz1)); clear hb1 hb2))
            | (at_builtin; go_must (refine wpList_append1 (HOO.out.below (HB2.out.alloc (by omega) _)) (by simp; omega) w2.heap.size 1 v 3 (by exact heap_new _ _ _ rfl) (by show (_ + 1) * 8 ≤ _; rw [HOL.out]; omega) (by unfold maxLen; rw [HOL.out]; omega) rfl _ _ rfl rfl rfl ?_; intro v8 w8 hown8 hgrow8)))
          go_roundw
          case rel => exact ⟨k + 1, out ++ [v], by omega, by go_num, by simp [HOL.out], hown8, ((HB.out.trans (HB2.out.mono hzr)).alloc (by omega) _).grown hgrow8 (by simp; omega) (fun k hk => own_ge HOO.out hk), HST.out⟩
          case measure => simp [intOf]; omega
        · rw [if_neg hq] at hstep
          have hqe : ((S (Lib.itoa v)).toList == (S x).toList) = false := by rw [S_toL, S_toL]; simpa using hq
          have HST := Lib.hid hstep
          clear hstep hq
          go_wp2_with (first
            | (go_at_call 82; go_must (refine (HPAR.out _).mono ?_; rintro e w1 ⟨rfl, hb1⟩; have hz1 := hb1.size))
            | (go_at_call 40; go_must (refine (FormatInt_any v _ b1 b2 (HEV.out.below hb1)).mono ?_; rintro e w2 ⟨rfl, hb2⟩; have HB2 := Lib.hid (hb1.trans (hb2.mono hz1)); clear hb1 hb2)))
          go_ret2
          exact NumsDo.no HST.out (HB.out.trans (HB2.out.mono hzr))
      | _ =>
        have hnb : (numberB x).2 = false := by unfold numberB; rw [hp]
        rw [hnb, if_neg (by decide)] at hstep
        have HST := Lib.hid hstep
        have HP := Lib.hid hp
        obtain ⟨tp, p, hv⟩ := HEV.out.syn
        obtain ⟨tp2, p2, hv2⟩ := HEV.out.rng
        clear hstep hnb hp hdat
        go_wp2_with (go_at_call 82; first
          | (refine (Any.strconv_ParseInt_10_at64_syntax_var Tryz.laysC174 (S x) (by omega) HP.out tp p _ hv).mono ?_; rintro e w1 ⟨n1, rfl, h1, h2, hb1⟩; clear h2)
          | (refine (Tryz.strconv_ParseInt_10_at64_range_var (S x) (by omega) HP.out tp2 p2 _ hv2).mono ?_; rintro e w1 ⟨n1, rfl, h1, h2, hb1⟩; clear h2))
        go_ret2
        exact NumsDo.no HST.out (HB.out.trans (hb1.mono hzr))
    · obtain rfl : k = n := by omega
      have hend : numsL L = some out := by
        rw [HGO.out, List.drop_eq_nil_of_le (by rw [← HN.out]; exact Nat.le_refl _)]; simp [numsL]
      have HEND := Lib.hid hend
      clear hend
      go_wp2
      go_ret2
      exact NumsDo.yes HEND.out HOO.out HB.out
end Go.Proofs.YtoiokbdipcecnaaGreatDoor
namespace Go.Proofs.YtoiokbdipcecnaaGreatDoor
open Go.RowKit
set_option maxRecDepth 100000

def i64T : ElemT Int where
  t := 25
  e := 2
  size := 1
  bytes := 8
  z := .int .i64 0
  cells := fun x => [.int .i64 x]
  ht := Tryz.underlying25
  info := ⟨_, rfl, rfl, rfl, rfl⟩
  zs := rfl
  pos := by decide
  len := fun _ => rfl
  one := fun x v hv => by simp at hv; subst hv; rfl
/-- a slice of instructions as a value: its block, length, capacity -/
abbrev SlP := Option Nat × Nat × Nat
def slV (x : SlP) : Value := .slice (x.1.map fun g => ⟨g, 0, none⟩) x.2.1 x.2.2
def slT : ElemT SlP where
  t := 26
  e := 45
  size := 1
  bytes := 24
  z := .slice none 0 0
  cells := fun x => [slV x]
  ht := Tryz.underlying26
  info := ⟨_, rfl, rfl, rfl, rfl⟩
  zs := rfl
  pos := by decide
  len := fun _ => rfl
  one := fun x v hv => by simp at hv; subst hv; rfl
/-- a line of a program: its number, what it was, what it says -/
abbrev BlkL := Int × List UInt8 × List UInt8
def blkT : ElemT BlkL where
  t := 67
  e := 77
  size := 3
  bytes := 40
  z := .agg #[.int .i64 0, .string .empty, .string .empty]
  cells := fun x => [.int .i64 x.1, .string (S x.2.1), .string (S x.2.2)]
  ht := Tryz.underlying67
  info := ⟨_, rfl, rfl, rfl, rfl⟩
  zs := rfl
  pos := by decide
  len := fun _ => rfl
  one := fun x v hv => by
    simp at hv
    rcases hv with rfl | rfl | rfl <;> rfl
theorem OwnG.sliceH {α : Type} {E : ElemT α} {w : World} {B : Nat} {v : Value} {l : List α} (h : OwnG E w B v l) : ∃ ao n c, v = .slice ao n c ∧ Hid (n = l.length) := by
  obtain ⟨ao, c, e⟩ := h.slice
  exact ⟨ao, _, c, e, Lib.hid rfl⟩
/-- the state of a reader -/
structure SS where
  c : List Int
  start : List Int
  progs : List (List (Int × Int))
  picks : List Int
  drain : Int
  stage : Int
  opn : Int
  block : List BlkL
/-- the rows that a reader owns -/
structure SRows (w : World) (B : Nat) (vs vp vk vb : Value) (pv : List SlP) (st : SS) : Prop where
  os : OwnG i64T w B vs st.start
  op : OwnG slT w B vp pv
  ok : OwnG intT w B vk st.picks
  ob : OwnG blkT w B vb st.block
  pl : pv.length = st.progs.length
  pr : ∀ (j : Nat) x p, pv[j]? = some x → st.progs[j]? = some p → OwnP w B (slV x) p
def rdCells (st : SS) (line : Int) (vs vp vk vb : Value) : Array Value :=
  #[.int .i64 (st.c.getD 0 0), .int .i64 (st.c.getD 1 0), .int .i64 (st.c.getD 2 0), .int .i64 (st.c.getD 3 0), .int .i64 (st.c.getD 4 0), .int .i64 (st.c.getD 5 0), vs, vp, vk, .int .i64 st.drain, .int .i64 st.stage, .int .i64 line, .int .i64 st.opn, vb]
/-- how a reader lies in memory -/
structure Sr (w : World) (B rb : Nat) (vs vp vk vb : Value) (pv : List SlP) (st : SS) (line : Int) : Prop where
  blk : w.heap[rb]? = some (.cells (rdCells st line vs vp vk vb) 69)
  ge : B ≤ rb
  rows : SRows w B vs vp vk vb pv st
theorem SRows.at {w w' : World} {B : Nat} {vs vp vk vb : Value} {pv : List SlP} {st : SS} (h : SRows w B vs vp vk vb pv st)
    (hk : ∀ (g : Nat) (c : Array Value) (t : TypeId), w.heap[g]? = some (.cells c t) → t ≠ 69 → w'.heap[g]? = w.heap[g]?) : SRows w' B vs vp vk vb pv st :=
  ⟨h.os.at fun g hg => by obtain ⟨c, hc⟩ := own_block h.os hg; exact hk g c _ hc (by decide),
   h.op.at fun g hg => by obtain ⟨c, hc⟩ := own_block h.op hg; exact hk g c _ hc (by decide),
   h.ok.at fun g hg => by obtain ⟨c, hc⟩ := own_block h.ok hg; exact hk g c _ hc (by decide),
   h.ob.at fun g hg => by obtain ⟨c, hc⟩ := own_block h.ob hg; exact hk g c _ hc (by decide),
   h.pl, fun j x p hx hp => ownsRow_at (h.pr j x p hx hp) fun g hg => by obtain ⟨c, hc⟩ := own_block (h.pr j x p hx hp) hg; exact hk g c _ hc (by decide)⟩
theorem SRows.below {w w' : World} {B : Nat} {vs vp vk vb : Value} {pv : List SlP} {st : SS} (h : SRows w B vs vp vk vb pv st) (hb : Below w.heap.size w w') : SRows w' B vs vp vk vb pv st :=
  h.at fun g _ _ hg _ => hb.block g (lt_of_block hg)
section
variable {w w' : World} {B rb : Nat} {vs vp vk vb : Value} {pv : List SlP} {st : SS} {line : Int}
theorem Sr.below (h : Sr w B rb vs vp vk vb pv st line) (hb : Below w.heap.size w w') : Sr w' B rb vs vp vk vb pv st line :=
  ⟨(hb.block _ (lt_of_block h.blk)).trans h.blk, h.ge, h.rows.below hb⟩
/-- a field of the reader is written -/
theorem Sr.set (h : Sr w B rb vs vp vk vb pv st line) (k : Nat) (u : Value) {st' : SS} {line' : Int} {vs' vp' vk' vb' : Value} (hc : (rdCells st line vs vp vk vb).setIfInBounds k u = rdCells st' line' vs' vp' vk' vb')
    (hr : SRows w B vs' vp' vk' vb' pv st') : Sr (w.setCell ⟨rb, k, none⟩ u) B rb vs' vp' vk' vb' pv st' line' := by
  refine ⟨?_, h.ge, hr.at fun g c t hg ht => heap_setCell_other _ _ _ _ fun e => ?_⟩
  · rw [heap_setCell_same w rb k _ _ u h.blk, hc]
  · have e2 : g = rb := e
    rw [e2, h.blk] at hg
    injection hg with hg
    injection hg with _ hg
    exact ht hg.symm
theorem Sr.cells (h : Sr w B rb vs vp vk vb pv st line) : (∀ k u, (rdCells st line vs vp vk vb)[k]? = some u → w.cell? ⟨rb, k, none⟩ = some u) ∧ ∀ k, w.frozen? ⟨rb, k, none⟩ = false :=
  ⟨fun k u hu => by simp [World.cell?, h.blk, hu], fun k => by simp [World.frozen?, h.blk]⟩
end
/-- the types of what a reader may turn -/
def RT (t : TypeId) : Prop := t = 69 ∨ t = 2 ∨ t = 45 ∨ t = 3 ∨ t = 77
/-- what is none of a reader's blocks is as it was -/
def KeepT (w w' : World) : Prop := ∀ (g : Nat) (o : Obj), w.heap[g]? = some o → (∀ c t fz, o = .cells c t fz → ¬ RT t) → w'.heap[g]? = some o
theorem KeepT.refl (w : World) : KeepT w w := fun _ _ h _ => h
theorem KeepT.trans {a b c : World} (h : KeepT a b) (k : KeepT b c) : KeepT a c := fun g o hg hn => k g o (h g o hg hn) hn
theorem KeepT.of_below {w w' : World} (h : Below w.heap.size w w') : KeepT w w' := fun g _o hg _ => (h.block g (lt_of_block hg)).trans hg
theorem KeepT.set {w : World} {b k : Nat} {c : Array Value} {t : TypeId} {u : Value} (h : w.heap[b]? = some (.cells c t)) (ht : RT t) : KeepT w (w.setCell ⟨b, k, none⟩ u) := fun g o hg hn =>
  (heap_setCell_other _ _ _ _ fun e => by
    have e2 : g = b := e
    rw [e2, h] at hg
    injection hg with hg
    exact hn c t _ hg.symm ht).trans hg
theorem KeepT.grown {α : Type} {E : ElemT α} {w w' : World} {B : Nat} {v : Value} {l : List α} (ho : OwnG E w B v l) (ht : RT E.e) (hg : w.grownBy w' v.ownBlock) : KeepT w w' := fun g o hgo hn =>
  (hg.block g (lt_of_block hgo) fun e => by
    obtain ⟨c, hc⟩ := own_block ho e.symm
    rw [hgo] at hc
    injection hc with hc
    exact hn c _ _ hc ht).trans hgo
/-- what a call of a reader's method comes to -/
def SrDoes (w : World) (B rb : Nat) (line : Int) (res : Except Int SS) (e : Ending) (w' : World) : Prop :=
  match res with
  | .error er => e = sfault er line ∧ Below B w w' ∧ KeepT w w'
  | .ok st' => e = .returned (.tuple #[]) ∧ (∃ vs vp vk vb pv, Sr w' B rb vs vp vk vb pv st' line) ∧ Below B w w' ∧ KeepT w w'
theorem SrDoes.bad {w w' : World} {B rb : Nat} {line er : Int} {res : Except Int SS} (h : res = .error er) (hb : Below B w w') (hk : KeepT w w') : SrDoes w B rb line res (sfault er line) w' := by
  unfold SrDoes; rw [h]; exact ⟨rfl, hb, hk⟩
theorem SrDoes.good {w w' : World} {B rb : Nat} {line : Int} {res : Except Int SS} {st' : SS} {vs vp vk vb : Value} {pv : List SlP} (h : res = .ok st') (hs : Sr w' B rb vs vp vk vb pv st' line) (hb : Below B w w') (hk : KeepT w w') : SrDoes w B rb line res (.returned (.tuple #[])) w' := by
  unfold SrDoes; rw [h]; exact ⟨rfl, ⟨vs, vp, vk, vb, pv, hs⟩, hb, hk⟩
end Go.Proofs.YtoiokbdipcecnaaGreatDoor
