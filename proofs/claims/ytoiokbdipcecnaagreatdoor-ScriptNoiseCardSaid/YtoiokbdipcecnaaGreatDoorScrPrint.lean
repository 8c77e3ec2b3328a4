/-
  quash/script.Print: every script. Condition: what it sees in memory (SV.Sees), numbers within int64 (SV.In), the library's variables (Env).
  And: quash/script.row at int and at int64: every word of at most eight letters, at most 65536 numbers. Condition: the library's variables (Env).
-/
import Derived.Test.YtoiokbdipcecnaaGreatDoorScrVal
import Derived.Test.YtoiokbdipcecnaaGreatDoorCodePrint
import Derived.Test.YtoiokbdipcecnaaGreatDoorScrPart
import Derived.Deep.CutRange
namespace Go.Proofs.YtoiokbdipcecnaaGreatDoor
open Go.RowKit
set_option maxRecDepth 100000

def numsT (ns : List Int) : List UInt8 := ns.flatMap fun n => 32 :: Lib.itoa n
/-- a line of a word and numbers -/
def rowL (word : List UInt8) (ns : List Int) : List UInt8 := word ++ numsT ns ++ [10]
/-- numbers within int64 -/
def InZ (ns : List Int) : Prop := ∀ x ∈ ns, -9223372036854775808 ≤ x ∧ x ≤ 9223372036854775807
theorem numsT_snoc {ns : List Int} {k : Nat} {x : Int} (h : ns[k]? = some x) : numsT (ns.take (k + 1)) = numsT (ns.take k) ++ 32 :: Lib.itoa x := by
  unfold numsT
  rw [List.take_add_one, h, List.flatMap_append]
  simp
theorem numsT_len : ∀ {ns : List Int}, InZ ns → (numsT ns).length ≤ ns.length * 22
  | [], _ => by simp [numsT]
  | x :: r, h => by
    have ih := numsT_len (ns := r) (fun y hy => h y (List.mem_cons_of_mem _ hy))
    have h1 := h x (List.mem_cons_self ..)
    have := Lib.itoa_length_le x h1.1 h1.2
    unfold numsT at ih ⊢
    rw [List.flatMap_cons, List.length_append]
    simp only [List.length_cons]
    omega
theorem InZ.take {ns : List Int} (h : InZ ns) (k : Nat) : InZ (ns.take k) := fun x hx => h x (List.mem_of_mem_take hx)
theorem getD_at {ns : List Int} {k : Nat} (h : k < ns.length) : ns[k]? = some (ns.getD k 0) := by
  rw [List.getD_eq_getElem?_getD, List.getElem?_eq_getElem h]; rfl
set_option maxHeartbeats 4000000 in
theorem row_int (ao : Option Addr) (c n : Nat) (word : List UInt8) (ns : List Int) (w : World) (he : Env w) (hn : n = ns.length) (hn2 : n ≤ 65536) (hwl : word.length ≤ 8) (hs : Sees w ao ns) (hi : InZ ns) :
    Calls Tryz.prog 20 #[.string (S word), .slice ao n c] w fun e w' => e = .returned (.string (S (rowL word ns))) ∧ Below w.heap.size w w' := by
  have HN := Lib.hid hn
  have HE := Lib.hid he
  have HS := Lib.hid hs
  have HI := Lib.hid hi
  have hws : (S word).size = word.length := S_size _
  have HIB := Lib.hid (Lib.fresh_isBuilder 52 5 w)
  clear hn he hs hi
  go_enter Tryz.func20, Tryz.ntmps20
  go_wp2_with (go_at_call 19; go_must (refine (WriteString_any w.heap.size w.heap.size _ _ _ HIB.out (by rw [hws]; simp; omega) (by simp)).mono ?_; rintro e w1 ⟨rfl, hI1, hB1, hz1, hk1⟩; rw [List.nil_append, Lib.strCells_eq, S_data] at hI1; have HI1 := Lib.hid hI1; have HB1 := Lib.hid (((Below.refl w.heap.size w).alloc (Nat.le_refl _) _).trans hB1); clear hI1 hB1 hk1))
  go_loopw [12] (fun i wr => ∃ k : Nat, k ≤ n ∧ i = .int .i64 k ∧ Lib.IsBuilder 52 5 w.heap.size w.heap.size (Lib.byteCells (word ++ numsT (ns.take k))) wr ∧ Below w.heap.size w wr) (fun i _ => n - (intOf i).toNat)
  case atStart => exact ⟨0, Nat.zero_le _, rfl, by simpa [numsT] using HI1.out, HB1.out⟩
  case round =>
    obtain ⟨k, hk, rfl, hI, hB⟩ := hrel
    have HIK := Lib.hid hI
    have HBK := Lib.hid hB
    have hzr := hB.size
    clear hI hB
    by_cases hlt : k < n
    · have hkl : k < ns.length := by rw [← HN.out]; exact hlt
      obtain ⟨b, o, hao, hcell⟩ := HS.out
      obtain rfl := hao (by intro e; subst e; simp at hkl)
      have d0 := hcell k hkl
      have c0 := (HBK.out.cell (p := ⟨b, _, none⟩) (block_lt_of_cell d0)).trans d0
      have hat := getD_at hkl
      have hin := HI.out _ (List.mem_of_getElem? hat)
      have hsn := numsT_snoc hat
      generalize ns.getD k 0 = x at c0 hat hin hsn
      obtain ⟨x1, x2⟩ := hin
      have hil := Lib.itoa_length_le x x1 x2
      have hnl := numsT_len (HI.out.take k)
      have hnk : (ns.take k).length ≤ 65536 := by simp; omega
      have HNL := Lib.hid (show (numsT (ns.take k)).length ≤ 1441792 by omega)
      have HSN := Lib.hid hsn
      have hi0 : (0 : Int) ≤ (k : Int) := by omega
      have hi1 : (k : Int) < (n : Int) := by omega
      have hsz : ¬ 9223372036854775807 < 1 + (S (Lib.itoa x)).size := by rw [S_size]; omega
      clear hcell d0 hat hsn hnl hnk hkl hao
      go_wp2_with (first
        | (go_at_call 40; go_must (refine (FormatInt_any x _ x1 x2 (HE.out.below HBK.out)).mono ?_; rintro e w2 ⟨rfl, hb2⟩; have hz2 := hb2.size; have HB2 := Lib.hid hb2; clear hb2))
        | (go_at_call 19; go_must (refine (WriteString_any w.heap.size w.heap.size _ _ _ (printB_below HIK.out HB2.out) (by rw [cat_size, Lib.byteCells_length, List.length_append]; have := HNL.out; omega) (by omega)).mono ?_; rintro e w3 ⟨rfl, hI3, hB3, hz3, hk3⟩; rw [cat_cells, ← byteCells_app, List.append_assoc, ← HSN.out] at hI3; have HI3 := Lib.hid hI3; have HB3 := Lib.hid ((HBK.out.trans (HB2.out.mono hzr)).trans hB3); clear hI3 hB3 hk3)))
      go_roundw
      case rel => exact ⟨k + 1, by omega, by go_num, HI3.out, HB3.out⟩
      case measure => simp [intOf]; omega
    · obtain rfl : k = n := by omega
      have htk : ns.take k = ns := List.take_of_length_le (by rw [← HN.out]; exact Nat.le_refl _)
      have hI2 := HIK.out
      rw [htk] at hI2
      have hnl := numsT_len HI.out
      rw [← HN.out] at hnl
      have hsz : (word ++ numsT ns).length ≤ 1441800 := by rw [List.length_append]; omega
      have HI2 := Lib.hid hI2
      have HST := Lib.hid (show S (word ++ numsT ns) ++ ⟨#[10]⟩ = S (rowL word ns) from S_app' _ [10])
      clear htk hI2 hnl
      go_wp2_with (go_at_call 24; go_must (refine ((Tryz.Builder_String_any w.heap.size w.heap.size (word ++ numsT ns) _ HI2.out hzr).mono (fun e w' h => (show ∃ s : ByteArray, s.size = (word ++ numsT ns).length ∧ Hid (s = S (word ++ numsT ns)) ∧ e = Ending.returned (.string s) ∧ Below w.heap.size wr w' from ⟨S _, S_size _, Lib.hid rfl, h.1, h.2⟩))).mono ?_; rintro e w3 ⟨s3, hs3, HS3, rfl, hb3⟩; have n3 : ¬ 9223372036854775807 < s3.size + 1 := (by omega); clear hs3))
      go_ret
      exact ⟨by rw [← HST.out, HS3.out]; rfl, HBK.out.trans hb3⟩
set_option maxHeartbeats 4000000 in
theorem row_i64 (ao : Option Addr) (c n : Nat) (word : List UInt8) (ns : List Int) (w : World) (he : Env w) (hn : n = ns.length) (hn2 : n ≤ 65536) (hwl : word.length ≤ 8) (hs : Sees w ao ns) (hi : InZ ns) :
    Calls Tryz.prog 21 #[.string (S word), .slice ao n c] w fun e w' => e = .returned (.string (S (rowL word ns))) ∧ Below w.heap.size w w' := by
  have HN := Lib.hid hn
  have HE := Lib.hid he
  have HS := Lib.hid hs
  have HI := Lib.hid hi
  have hws : (S word).size = word.length := S_size _
  have HIB := Lib.hid (Lib.fresh_isBuilder 52 5 w)
  clear hn he hs hi
  go_enter Tryz.func21, Tryz.ntmps21
  go_wp2_with (go_at_call 19; go_must (refine (WriteString_any w.heap.size w.heap.size _ _ _ HIB.out (by rw [hws]; simp; omega) (by simp)).mono ?_; rintro e w1 ⟨rfl, hI1, hB1, hz1, hk1⟩; rw [List.nil_append, Lib.strCells_eq, S_data] at hI1; have HI1 := Lib.hid hI1; have HB1 := Lib.hid (((Below.refl w.heap.size w).alloc (Nat.le_refl _) _).trans hB1); clear hI1 hB1 hk1))
  go_loopw [12] (fun i wr => ∃ k : Nat, k ≤ n ∧ i = .int .i64 k ∧ Lib.IsBuilder 52 5 w.heap.size w.heap.size (Lib.byteCells (word ++ numsT (ns.take k))) wr ∧ Below w.heap.size w wr) (fun i _ => n - (intOf i).toNat)
  case atStart => exact ⟨0, Nat.zero_le _, rfl, by simpa [numsT] using HI1.out, HB1.out⟩
  case round =>
    obtain ⟨k, hk, rfl, hI, hB⟩ := hrel
    have HIK := Lib.hid hI
    have HBK := Lib.hid hB
    have hzr := hB.size
    clear hI hB
    by_cases hlt : k < n
    · have hkl : k < ns.length := by rw [← HN.out]; exact hlt
      obtain ⟨b, o, hao, hcell⟩ := HS.out
      obtain rfl := hao (by intro e; subst e; simp at hkl)
      have d0 := hcell k hkl
      have c0 := (HBK.out.cell (p := ⟨b, _, none⟩) (block_lt_of_cell d0)).trans d0
      have hat := getD_at hkl
      have hin := HI.out _ (List.mem_of_getElem? hat)
      have hsn := numsT_snoc hat
      generalize ns.getD k 0 = x at c0 hat hin hsn
      obtain ⟨x1, x2⟩ := hin
      have hil := Lib.itoa_length_le x x1 x2
      have hnl := numsT_len (HI.out.take k)
      have hnk : (ns.take k).length ≤ 65536 := by simp; omega
      have HNL := Lib.hid (show (numsT (ns.take k)).length ≤ 1441792 by omega)
      have HSN := Lib.hid hsn
      have hi0 : (0 : Int) ≤ (k : Int) := by omega
      have hi1 : (k : Int) < (n : Int) := by omega
      have hsz : ¬ 9223372036854775807 < 1 + (S (Lib.itoa x)).size := by rw [S_size]; omega
      clear hcell d0 hat hsn hnl hnk hkl hao
      go_wp2_with (first
        | (go_at_call 40; go_must (refine (FormatInt_any x _ x1 x2 (HE.out.below HBK.out)).mono ?_; rintro e w2 ⟨rfl, hb2⟩; have hz2 := hb2.size; have HB2 := Lib.hid hb2; clear hb2))
        | (go_at_call 19; go_must (refine (WriteString_any w.heap.size w.heap.size _ _ _ (printB_below HIK.out HB2.out) (by rw [cat_size, Lib.byteCells_length, List.length_append]; have := HNL.out; omega) (by omega)).mono ?_; rintro e w3 ⟨rfl, hI3, hB3, hz3, hk3⟩; rw [cat_cells, ← byteCells_app, List.append_assoc, ← HSN.out] at hI3; have HI3 := Lib.hid hI3; have HB3 := Lib.hid ((HBK.out.trans (HB2.out.mono hzr)).trans hB3); clear hI3 hB3 hk3)))
      go_roundw
      case rel => exact ⟨k + 1, by omega, by go_num, HI3.out, HB3.out⟩
      case measure => simp [intOf]; omega
    · obtain rfl : k = n := by omega
      have htk : ns.take k = ns := List.take_of_length_le (by rw [← HN.out]; exact Nat.le_refl _)
      have hI2 := HIK.out
      rw [htk] at hI2
      have hnl := numsT_len HI.out
      rw [← HN.out] at hnl
      have hsz : (word ++ numsT ns).length ≤ 1441800 := by rw [List.length_append]; omega
      have HI2 := Lib.hid hI2
      have HST := Lib.hid (show S (word ++ numsT ns) ++ ⟨#[10]⟩ = S (rowL word ns) from S_app' _ [10])
      clear htk hI2 hnl
      go_wp2_with (go_at_call 24; go_must (refine ((Tryz.Builder_String_any w.heap.size w.heap.size (word ++ numsT ns) _ HI2.out hzr).mono (fun e w' h => (show ∃ s : ByteArray, s.size = (word ++ numsT ns).length ∧ Hid (s = S (word ++ numsT ns)) ∧ e = Ending.returned (.string s) ∧ Below w.heap.size wr w' from ⟨S _, S_size _, Lib.hid rfl, h.1, h.2⟩))).mono ?_; rintro e w3 ⟨s3, hs3, HS3, rfl, hb3⟩; have n3 : ¬ 9223372036854775807 < s3.size + 1 := (by omega); clear hs3))
      go_ret
      exact ⟨by rw [← HST.out, HS3.out]; rfl, HBK.out.trans hb3⟩
end Go.Proofs.YtoiokbdipcecnaaGreatDoor
namespace Go.Proofs.YtoiokbdipcecnaaGreatDoor
open Go.RowKit
set_option maxRecDepth 100000

def threadT : List UInt8 := [116, 104, 114, 101, 97, 100, 10]
def endT : List UInt8 := [101, 110, 100, 10]
def linesT (P : List Prog) : List UInt8 := P.flatMap fun p => threadT ++ (printL p ++ endT)
def cfgN (c : List Int) : List Int := [c.getD 0 0, c.getD 1 0, c.getD 2 0, c.getD 3 0, c.getD 4 0, c.getD 5 0]
def headT (c : List Int) : List UInt8 := rowL [99, 111, 110, 102, 105, 103] (cfgN c)
def startT (s : List Int) : List UInt8 := if s.length = 0 then [] else rowL [115, 116, 97, 114, 116] s
def picksT (k : List Int) : List UInt8 := if k.length = 0 then [] else rowL [112, 105, 99, 107, 115] k
def drainT (d : Int) : List UInt8 := rowL [100, 114, 97, 105, 110] [d]
/-- a script as text -/
def scrText (c s : List Int) (P : List Prog) (k : List Int) (d : Int) : List UInt8 := headT c ++ startT s ++ linesT P ++ picksT k ++ drainT d
def scrPrintS (c s : List Int) (P : List Prog) (k : List Int) (d : Int) : List UInt8 × Int :=
  if scrCheckS c s P k d = 0 then if 1048576 < (scrText c s P k d).length then ([], 234) else (scrText c s P k d, 0) else ([], scrCheckS c s P k d)
def SV.text (x : SV) : List UInt8 := scrText x.c x.s (progsV x.P) x.k x.d
def SV.print (x : SV) : List UInt8 × Int := scrPrintS x.c x.s (progsV x.P) x.k x.d
structure SV.In (x : SV) : Prop where
  s : InZ x.s
  k : InZ x.k
  p : ∀ y ∈ x.P, InI y.2.2
theorem linesT_snoc {P : List Prog} {k : Nat} {p : Prog} (h : P[k]? = some p) : linesT (P.take (k + 1)) = linesT (P.take k) ++ (threadT ++ (printL p ++ endT)) := by
  unfold linesT
  rw [List.take_add_one, h, List.flatMap_append]
  simp
theorem Sees.of_block {w : World} {g : Nat} {zs : List Int} {t : TypeId} (h : w.heap[g]? = some (.cells (zs.map (Value.int .i64)).toArray t)) : Sees w (some ⟨g, 0, none⟩) zs :=
  Sees.cells fun j hj => by
    have e : w.cell? ⟨g, 0 + j, none⟩ = (zs.map (Value.int .i64)).toArray[j]? := by simp only [World.cell?, h, Nat.zero_add]; rfl
    rw [e, List.getElem?_toArray, List.getElem?_map, getD_at hj]
    rfl
theorem scrCheck_zero {c s : List Int} {P : List Prog} {k : List Int} {d : Int} (h : scrCheckS c s P k d = 0) :
    cfgB c = true ∧ ¬ c.getD 0 0 < (s.length : Int) ∧ 1 ≤ P.length ∧ P.length ≤ 8 ∧ (∀ p ∈ P, (checkL p).1 = 0) ∧ k.length ≤ 65536 ∧ 0 ≤ d ∧ d ≤ 65536 := by
  unfold scrCheckS at h
  split at h
  · cases h
  rename_i h1
  split at h
  · cases h
  rename_i h2
  split at h
  · cases h
  rename_i h3
  split at h
  · rename_i h4; exact absurd h h4
  rename_i h4
  split at h
  · cases h
  rename_i h5
  exact ⟨by simpa using h1, h2, by omega, by omega, badP_zero.1 (by simpa using h4), by omega, by omega, by omega⟩
theorem cfgB_in {c : List Int} (h : cfgB c = true) : InZ (cfgN c) ∧ 1 ≤ c.getD 0 0 ∧ c.getD 0 0 ≤ 256 := by
  unfold cfgB at h
  simp only [Bool.and_eq_true] at h
  obtain ⟨⟨⟨⟨⟨h0, h1⟩, h2⟩, h3⟩, h4⟩, h5⟩ := h
  simp only [inB, Bool.and_eq_true, decide_eq_true_eq] at h0 h1 h2 h3 h4 h5
  refine ⟨fun x hx => ?_, h0⟩
  simp only [cfgN, List.mem_cons, List.not_mem_nil, or_false] at hx
  rcases hx with rfl | rfl | rfl | rfl | rfl | rfl <;> omega
theorem rowL_len {word : List UInt8} {ns : List Int} (h : InZ ns) : (rowL word ns).length ≤ word.length + ns.length * 22 + 1 := by
  have := numsT_len h
  unfold rowL
  simp only [List.length_append, List.length_singleton]
  omega
theorem linesT_len : ∀ {P : List Prog}, (∀ p ∈ P, InI p ∧ p.length ≤ 400) → (linesT P).length ≤ P.length * 11611
  | [], _ => by simp [linesT]
  | p :: r, h => by
    have ih := linesT_len (P := r) (fun q hq => h q (List.mem_cons_of_mem _ hq))
    have h1 := h p (List.mem_cons_self ..)
    have h2 := printL_len h1.1
    unfold linesT at ih ⊢
    rw [List.flatMap_cons, List.length_append]
    have : (threadT ++ (printL p ++ endT)).length = (printL p).length + 11 := by simp [threadT, endT]
    simp only [List.length_cons]
    omega
theorem str3 (a : List UInt8) : (⟨#[116, 104, 114, 101, 97, 100, 10]⟩ : ByteArray) ++ S a ++ ⟨#[101, 110, 100, 10]⟩ = S (threadT ++ (a ++ endT)) := by
  have h1 : (⟨#[116, 104, 114, 101, 97, 100, 10]⟩ : ByteArray) ++ S a = S (threadT ++ a) := S_app' threadT a
  rw [h1, ← List.append_assoc]
  exact S_app' (threadT ++ a) endT
theorem scrPrint_bad (x : SV) (w : World) (h : x.Sees w) (h0 : x.check ≠ 0) :
    Calls Tryz.prog 11 #[x.v] w fun e w' => e = .returned (.tuple #[.string ⟨#[]⟩, .int .i64 x.check]) ∧ Below w.heap.size w w' := by
  have HC := Lib.hid (fun W (hb : Below w.heap.size w W) => scrCheck_any x W (h.below hb))
  have h1 : (x.check != 0) = true := by simpa using h0
  generalize x.check = K at h1 HC ⊢
  unfold SV.v at HC ⊢
  generalize x.c.getD 0 0 = c0 at *
  generalize x.c.getD 1 0 = c1 at *
  generalize x.c.getD 2 0 = c2 at *
  generalize x.c.getD 3 0 = c3 at *
  generalize x.c.getD 4 0 = c4 at *
  generalize x.c.getD 5 0 = c5 at *
  generalize x.s.length = ns at *
  generalize x.P.length = np at *
  generalize x.k.length = nk at *
  clear h h0
  go_enter Tryz.func11, Tryz.ntmps11
  go_wp2_with (go_at_call 9; go_must (refine (HC.out _ ((Below.refl _ _).alloc (Nat.le_refl _) _)).mono ?_; rintro e w1 ⟨rfl, hb1⟩))
  go_ret2
  exact ⟨rfl, ((Below.refl _ _).alloc (Nat.le_refl _) _).trans (hb1.mono (by simp))⟩
set_option maxHeartbeats 8000000 in
theorem scrPrint_good (x : SV) (w : World) (he : Env w) (h : x.Sees w) (hi : x.In) (h0 : x.check = 0) :
    Calls Tryz.prog 11 #[x.v] w fun e w' => e = .returned (if 1048576 < x.text.length then .tuple #[.string ⟨#[]⟩, .int .i64 234] else .tuple #[.string (S x.text), .int .i64 0]) ∧ Below w.heap.size w w' := by
  obtain ⟨g1, g2, g3, g4, g5, g6, g7, g8⟩ := scrCheck_zero h0
  obtain ⟨hci, hc0, hc1⟩ := cfgB_in g1
  rw [progsV_length] at g3 g4
  have HC := Lib.hid (fun W (hb : Below w.heap.size w W) => scrCheck_any x W (h.below hb))
  have H := Lib.hid h
  have HE := Lib.hid he
  have HIN := Lib.hid hi
  have HG5 := Lib.hid g5
  have HCI := Lib.hid hci
  have hsl : x.s.length ≤ 256 := by omega
  obtain ⟨TX, hTX⟩ : ∃ TX, x.text = TX := ⟨_, rfl⟩
  rw [hTX]
  unfold SV.text scrText at hTX
  obtain ⟨T0, hT0⟩ : ∃ T0, headT x.c = T0 := ⟨_, rfl⟩
  have hT0l : T0.length ≤ 139 := by rw [← hT0]; have := rowL_len (word := [99, 111, 110, 102, 105, 103]) hci; simpa [headT, cfgN] using this
  have hst : (startT x.s).length ≤ 5638 := by
    unfold startT
    split
    · simp
    · have := rowL_len (word := [115, 116, 97, 114, 116]) hi.s
      simp only [List.length_cons, List.length_nil] at this; omega
  have hpt : (picksT x.k).length ≤ 1441798 := by
    unfold picksT
    split
    · simp
    · have := rowL_len (word := [112, 105, 99, 107, 115]) hi.k
      simp only [List.length_cons, List.length_nil] at this; omega
  have hlt0 : ∀ k, (linesT ((progsV x.P).take k)).length ≤ 92888 := fun k => by
    have h1 : ∀ p ∈ (progsV x.P).take k, InI p ∧ p.length ≤ 400 := fun p hp => by
      have hp2 := List.mem_of_mem_take hp
      obtain ⟨y, hy, rfl⟩ := List.mem_map.1 hp2
      exact ⟨hi.p y hy, (checkL_ok (g5 _ hp2)).2.1⟩
    have h2 := linesT_len h1
    have h3 : ((progsV x.P).take k).length ≤ 8 := by rw [List.length_take, progsV_length]; omega
    omega
  have HLT := Lib.hid hlt0
  rw [h0] at HC
  rw [hT0] at hTX
  have HT0 := Lib.hid hT0
  unfold headT cfgN at HT0
  unfold cfgN at HCI
  unfold SV.v at HC ⊢
  have HTX := Lib.hid hTX
  generalize x.c.getD 0 0 = c0 at *
  generalize x.c.getD 1 0 = c1 at *
  generalize x.c.getD 2 0 = c2 at *
  generalize x.c.getD 3 0 = c3 at *
  generalize x.c.getD 4 0 = c4 at *
  generalize x.c.getD 5 0 = c5 at *
  obtain ⟨ns, hns⟩ : ∃ n, n = x.s.length := ⟨_, rfl⟩
  obtain ⟨np, hnp⟩ : ∃ n, n = x.P.length := ⟨_, rfl⟩
  obtain ⟨nk, hnk⟩ : ∃ n, n = x.k.length := ⟨_, rfl⟩
  rw [← hns] at hsl HC ⊢
  rw [← hnp] at g3 g4 HC ⊢
  rw [← hnk] at g6 HC ⊢
  have HNS := Lib.hid hns
  have HNP := Lib.hid hnp
  have HNK := Lib.hid hnk
  obtain ⟨RV, hRV⟩ : ∃ RV, RV = (if 1048576 < TX.length then Value.tuple #[.string ⟨#[]⟩, .int .i64 234] else Value.tuple #[.string (S TX), .int .i64 0]) := ⟨_, rfl⟩
  rw [← hRV]
  have HRV := Lib.hid hRV
  clear hRV h he hi g1 g2 g5 hci h0 hTX hT0 hns hnp hnk hlt0
  go_enter Tryz.func11, Tryz.ntmps11
  go_upto_region 5 with (go_at_call 9; go_must (refine (HC.out _ ((Below.refl _ _).alloc (Nat.le_refl _) _)).mono ?_; rintro e w1 ⟨rfl, hb1⟩; have Q := Lib.hid ((hb1.block _ (by simp)).trans (heap_new w _ w.heap.size rfl))))
  have HB1 := Lib.hid (((Below.refl _ _).alloc (Nat.le_refl _) _).trans (hb1.mono (by simp)) : Below w.heap.size w w1)
  have hlt1 : w.heap.size < w1.heap.size := lt_of_block Q.out
  clear hb1
  refine wp_gen (fun W => Lib.IsBuilder 52 5 w1.heap.size w1.heap.size [] W ∧ Below w1.heap.size w1 W) ⟨Lib.fresh_isBuilder 52 5 w1, (Below.refl _ _).alloc (Nat.le_refl _) _⟩ ?_
  rintro W ⟨hI0, hB0⟩
  have HI0 := Lib.hid hI0
  have HB0 := Lib.hid hB0
  have hzW := hB0.size
  have q := (hB0.block _ hlt1).trans Q.out
  have r0 := cell_of_row _ _ 0 _ _ _ q
  have r1 := cell_of_row _ _ 1 _ _ _ q
  have r2 := cell_of_row _ _ 2 _ _ _ q
  have r3 := cell_of_row _ _ 3 _ _ _ q
  have r4 := cell_of_row _ _ 4 _ _ _ q
  have r5 := cell_of_row _ _ 5 _ _ _ q
  clear hI0 hB0 q
  go_upto_region 6 with (fail)
  refine wp_gen (fun U => U.heap[W.heap.size]? = some (.cells #[.int .i64 c0, .int .i64 c1, .int .i64 c2, .int .i64 c3, .int .i64 c4, .int .i64 c5] 24) ∧ Lib.IsBuilder 52 5 w1.heap.size w1.heap.size [] U ∧ Below w1.heap.size w1 U) ⟨heap_new _ _ _ rfl, printB_below HI0.out ((Below.refl _ _).alloc (Nat.le_refl _) _), HB0.out.alloc hzW _⟩ ?_
  rintro U ⟨hqU, hIU, hBU⟩
  have d0 := cell_of_row _ _ 0 _ _ _ hqU
  have d1 := cell_of_row _ _ 1 _ _ _ hqU
  have d2 := cell_of_row _ _ 2 _ _ _ hqU
  have d3 := cell_of_row _ _ 3 _ _ _ hqU
  have d4 := cell_of_row _ _ 4 _ _ _ hqU
  have d5 := cell_of_row _ _ 5 _ _ _ hqU
  have hzU := hBU.size
  have hEU := HE.out.below (HB1.out.trans ((hBU.alloc hzU (.cells #[.int .i64 c0, .int .i64 c1, .int .i64 c2, .int .i64 c3, .int .i64 c4, .int .i64 c5] 3)).mono HB1.out.size))
  have hrow := row_int (some ⟨U.heap.size, 0, none⟩) 6 6 [99, 111, 110, 102, 105, 103] [c0, c1, c2, c3, c4, c5] (U.alloc (.cells #[.int .i64 c0, .int .i64 c1, .int .i64 c2, .int .i64 c3, .int .i64 c4, .int .i64 c5] 3)) hEU rfl (by decide) (by decide) (Sees.of_block (t := 3) (heap_new _ _ _ rfl)) HCI.out
  rw [HT0.out] at hrow
  have HROW := Lib.hid hrow
  have HIU := Lib.hid hIU
  have HBU := Lib.hid hBU
  clear r0 r1 r2 r3 r4 r5 hqU hIU hBU hEU hrow
  go_upto_region 7 with (first
    | (go_at_call 20; go_must (refine HROW.out.mono ?_; rintro e w2 ⟨rfl, hb2⟩; have hz2 : U.heap.size ≤ w2.heap.size := (Nat.le_trans (by rw [World.size_alloc]; exact Nat.le_succ _) hb2.size); have HB2 := Lib.hid ((Below.refl _ _).alloc (Nat.le_refl _) _ |>.trans (hb2.mono (by rw [World.size_alloc]; exact Nat.le_succ _)) : Below U.heap.size U w2); clear hb2))
    | (go_at_call 19; go_must (refine (WriteString_any w1.heap.size w1.heap.size _ _ _ (printB_below HIU.out HB2.out) (by rw [S_size]; simp; omega) (Nat.le_trans hzU hz2)).mono ?_; rintro e w3 ⟨rfl, hI3, hB3, hz3, hk3⟩; rw [List.nil_append, Lib.strCells_eq, S_data] at hI3; have HI3 := Lib.hid hI3; have HB3 := Lib.hid ((HBU.out.trans (HB2.out.mono hzU)).trans hB3); clear hI3 hB3 hk3)))
  -- the start line
  obtain ⟨T1, hT1⟩ : ∃ T1, T1 = T0 ++ startT x.s := ⟨_, rfl⟩
  have hT1l : T1.length ≤ 5777 := by rw [hT1, List.length_append]; omega
  have HT1 := Lib.hid hT1
  have hz3' := HB3.out.size
  clear hT1 d0 d1 d2 d3 d4 d5
  have q6 := cell_of_row _ _ 6 _ _ _ ((HB3.out.block _ hlt1).trans Q.out)
  go_upto_if 36 with (fail)
  go_cut [] from 33 (fun wx => Lib.IsBuilder 52 5 w1.heap.size w1.heap.size (Lib.byteCells T1) wx ∧ Below w1.heap.size w1 wx)
  case first =>
    by_cases hs0 : ns = 0
    · subst hs0
      have hT : T1 = T0 := by rw [HT1.out]; unfold startT; rw [if_pos HNS.out.symm, List.append_nil]
      go_wp2
      go_meet
      rw [hT]
      exact ⟨HI3.out, HB3.out⟩
    · have hs1 : (0 : Int) < (ns : Int) := by omega
      have hT : T1 = T0 ++ rowL [115, 116, 97, 114, 116] x.s := by rw [HT1.out]; unfold startT; rw [if_neg (by rw [← HNS.out]; exact hs0)]
      have hrl := rowL_len (word := [115, 116, 97, 114, 116]) HIN.out.s
      rw [← HNS.out] at hrl
      simp only [List.length_cons, List.length_nil] at hrl
      have HT := Lib.hid hT
      clear hT hs0
      go_wp2_with (first
        | (go_at_call 21; go_must (refine (row_i64 _ _ ns [115, 116, 97, 114, 116] x.s _ (HE.out.below (HB1.out.trans (HB3.out.mono (by have := HB1.out.size; omega)))) HNS.out (by omega) (by decide) (H.out.s.below (HB1.out.trans (HB3.out.mono (by have := HB1.out.size; omega)))) HIN.out.s).mono ?_; rintro e w4 ⟨rfl, hb4⟩; have hz4 := hb4.size; have HB4 := Lib.hid hb4; clear hb4))
        | (go_at_call 19; go_must (refine (WriteString_any w1.heap.size w1.heap.size _ _ _ (printB_below HI3.out HB4.out) (by rw [S_size, Lib.byteCells_length]; omega) (by omega)).mono ?_; rintro e w5 ⟨rfl, hI5, hB5, hz5, hk5⟩; rw [Lib.strCells_eq, S_data, ← byteCells_app] at hI5; have HI5 := Lib.hid hI5; have HB5 := Lib.hid ((HB3.out.trans (HB4.out.mono hz3')).trans hB5); clear hI5 hB5 hk5)))
      go_meet
      rw [HT.out]
      exact ⟨HI5.out, HB5.out⟩
  case rest =>
    obtain ⟨hIc, hBc⟩ := hcut
    have HIc := Lib.hid hIc
    have HBc := Lib.hid hBc
    have hzc := hBc.size
    have q7 := cell_of_row _ _ 7 _ _ _ ((hBc.block _ hlt1).trans Q.out)
    clear hIc hBc
    go_wp2
    go_loopw [44] (fun i wr => ∃ k : Nat, k ≤ np ∧ i = .int .i64 k ∧ Lib.IsBuilder 52 5 w1.heap.size w1.heap.size (Lib.byteCells (T1 ++ linesT ((progsV x.P).take k))) wr ∧ Below w1.heap.size w1 wr) (fun i _ => np - (intOf i).toNat)
    case atStart => exact ⟨0, Nat.zero_le _, rfl, by simpa [linesT] using HIc.out, HBc.out⟩
    case round =>
      obtain ⟨k, hk, rfl, hI, hB⟩ := hrel
      have HIK := Lib.hid hI
      have HBK := Lib.hid hB
      have hzr := hB.size
      have HBW := Lib.hid (HB1.out.trans (hB.mono HB1.out.size))
      have hlk := HLT.out k
      clear hI hB
      by_cases hlt : k < np
      · obtain ⟨y, hy⟩ : ∃ y, x.P[k]? = some y := ⟨_, List.getElem?_eq_getElem (by rw [← HNP.out]; exact hlt)⟩
        obtain ⟨b, o, hpo, hc, hsp⟩ := H.out.part hy
        have c0' := (HBW.out.cell (p := ⟨b, _, none⟩) (block_lt_of_cell hc)).trans hc
        have hpy := progsV_at hy
        have hsn := linesT_snoc hpy
        have hck := HG5.out _ (List.mem_of_getElem? hpy)
        have hin := HIN.out.p y (List.mem_of_getElem? hy)
        have hpr := fun W (hb : Below w.heap.size w W) => Print_ok y.1 y.2.1 y.2.2 W (HE.out.below hb) (hsp.below hb) hck hin
        have hpl := printL_len hin
        have h400 := (checkL_ok hck).2.1
        rw [hpo]
        obtain ⟨y1, y2, y3⟩ := y
        simp only at hpr hsn c0' hpl h400
        have hPT : (printL y3).length ≤ 11600 := by omega
        have hst := str3 (printL y3)
        generalize y3.length = yn at hpr c0'
        generalize printL y3 = PT at hpr hsn hst hPT
        have n1 : ¬ 9223372036854775807 < 7 + (S PT).size := by rw [S_size]; omega
        have n2 : ¬ 9223372036854775807 < 7 + (S PT).size + 4 := by rw [S_size]; omega
        have HPR := Lib.hid hpr
        have HSN := Lib.hid hsn
        have HST := Lib.hid hst
        have hi0 : (0 : Int) ≤ (k : Int) := by omega
        have hi1 : (k : Int) < (np : Int) := by omega
        clear hy hc hsp hpy hck hin hpr hpl h400 hsn hst hpo
        go_wp2_with (first
          | (go_at_call 22; go_must (refine (HPR.out _ HBW.out).mono ?_; rintro e w4 ⟨rfl, hb4⟩; have hz4 := hb4.size; have HB4 := Lib.hid hb4; clear hb4))
          | (go_at_call 19; go_must (rw [HST.out]; refine (WriteString_any w1.heap.size w1.heap.size _ _ _ (printB_below HIK.out HB4.out) (by rw [S_size, Lib.byteCells_length, List.length_append, List.length_append, List.length_append]; simp [threadT, endT]; omega) (by omega)).mono ?_; rintro e w5 ⟨rfl, hI5, hB5, hz5, hk5⟩; rw [Lib.strCells_eq, S_data, ← byteCells_app, List.append_assoc, ← HSN.out] at hI5; have HI5 := Lib.hid hI5; have HB5 := Lib.hid ((HBK.out.trans (HB4.out.mono hzr)).trans hB5); clear hI5 hB5 hk5)))
        go_roundw
        case rel => exact ⟨k + 1, by omega, by go_num, HI5.out, HB5.out⟩
        case measure => simp [intOf]; omega
      · obtain rfl : k = np := by omega
        have htk : (progsV x.P).take k = progsV x.P := List.take_of_length_le (by rw [progsV_length, ← HNP.out]; exact Nat.le_refl _)
        rw [htk] at hlk
        have hI2 := HIK.out
        rw [htk] at hI2
        obtain ⟨T2, hT2⟩ : ∃ T2, T2 = T1 ++ linesT (progsV x.P) := ⟨_, rfl⟩
        rw [← hT2] at hI2
        have hT2l : T2.length ≤ 98665 := by rw [hT2, List.length_append]; omega
        have HT2 := Lib.hid hT2
        have HI2 := Lib.hid hI2
        have q8 := cell_of_row _ _ 8 _ _ _ ((HBK.out.block _ hlt1).trans Q.out)
        obtain ⟨T3, hT3⟩ : ∃ T3, T3 = T2 ++ picksT x.k := ⟨_, rfl⟩
        have hT3l : T3.length ≤ 1540463 := by rw [hT3, List.length_append]; omega
        have HT3 := Lib.hid hT3
        clear htk hlk hI2 hT2 hT3
        go_upto_if 64 with (fail)
        go_cut [] from 61 (fun wx => Lib.IsBuilder 52 5 w1.heap.size w1.heap.size (Lib.byteCells T3) wx ∧ Below w1.heap.size w1 wx)
        case first =>
          by_cases hs0 : nk = 0
          · subst hs0
            have hT : T3 = T2 := by rw [HT3.out]; unfold picksT; rw [if_pos HNK.out.symm, List.append_nil]
            go_wp2
            go_meet
            rw [hT]
            exact ⟨HI2.out, HBK.out⟩
          · have hs1 : (0 : Int) < (nk : Int) := by omega
            have hT : T3 = T2 ++ rowL [112, 105, 99, 107, 115] x.k := by rw [HT3.out]; unfold picksT; rw [if_neg (by rw [← HNK.out]; exact hs0)]
            have hrl := rowL_len (word := [112, 105, 99, 107, 115]) HIN.out.k
            rw [← HNK.out] at hrl
            simp only [List.length_cons, List.length_nil] at hrl
            have HT := Lib.hid hT
            clear hT hs0
            go_wp2_with (first
              | (go_at_call 20; go_must (refine (row_int _ _ nk [112, 105, 99, 107, 115] x.k _ (HE.out.below HBW.out) HNK.out g6 (by decide) (H.out.k.below HBW.out) HIN.out.k).mono ?_; rintro e w4 ⟨rfl, hb4⟩; have hz4 := hb4.size; have HB4 := Lib.hid hb4; clear hb4))
              | (go_at_call 19; go_must (refine (WriteString_any w1.heap.size w1.heap.size _ _ _ (printB_below HI2.out HB4.out) (by rw [S_size, Lib.byteCells_length]; omega) (by omega)).mono ?_; rintro e w5 ⟨rfl, hI5, hB5, hz5, hk5⟩; rw [Lib.strCells_eq, S_data, ← byteCells_app] at hI5; have HI5 := Lib.hid hI5; have HB5 := Lib.hid ((HBK.out.trans (HB4.out.mono hzr)).trans hB5); clear hI5 hB5 hk5)))
            go_meet
            rw [HT.out]
            exact ⟨HI5.out, HB5.out⟩
        case rest =>
          obtain ⟨hIe, hBe⟩ := hcut
          have HIe := Lib.hid hIe
          have HBe := Lib.hid hBe
          have hze := hBe.size
          have HBX := Lib.hid (HB1.out.trans (hBe.mono HB1.out.size))
          have q9 := cell_of_row _ _ 9 _ _ _ ((hBe.block _ hlt1).trans Q.out)
          have hdr := rowL_len (word := [100, 114, 97, 105, 110]) (ns := [x.d]) (fun y hy => by simp at hy; subst hy; omega)
          simp only [List.length_cons, List.length_nil] at hdr
          have hTXE : TX = T3 ++ drainT x.d := by rw [← HTX.out, HT3.out, HT2.out, HT1.out]
          unfold drainT at hTXE
          have hTXl : TX.length ≤ 1540491 := by rw [hTXE, List.length_append]; omega
          have HTXE := Lib.hid hTXE
          have HTXL := Lib.hid hTXl
          clear hIe hBe hTXE hTXl
          go_upto_region 20 with (first
            | (go_at_call 20; go_must (refine (row_int _ 1 1 [100, 114, 97, 105, 110] [x.d] _ (HE.out.below (HBX.out.alloc (by have := HBX.out.size; omega) _)) rfl (by decide) (by decide) (Sees.of_block (heap_new _ _ _ rfl)) (fun y hy => by simp at hy; subst hy; omega)).mono ?_; rintro e w6 ⟨rfl, hb6⟩; have hz6 := hb6.size; simp at hz6; have HB6 := Lib.hid ((Below.refl _ _).alloc (Nat.le_refl _) _ |>.trans (hb6.mono (by simp)) : Below wc.heap.size wc w6); clear hb6))
            | (go_at_call 19; go_must (refine (WriteString_any w1.heap.size w1.heap.size _ _ _ (printB_below HIe.out HB6.out) (by rw [S_size, Lib.byteCells_length]; omega) (by omega)).mono ?_; rintro e w7 ⟨rfl, hI7, hB7, hz7, hk7⟩; rw [Lib.strCells_eq, S_data, ← byteCells_app, ← HTXE.out] at hI7; have HI7 := Lib.hid hI7; have HB7 := Lib.hid ((HBe.out.trans (HB6.out.mono hze)).trans hB7); clear hI7 hB7 hk7)))
          obtain ⟨M, hM⟩ : ∃ M, M = TX.length := ⟨_, rfl⟩
          have hln : Calls Tryz.prog 23 #[.pointer (some ⟨w1.heap.size, 0, none⟩)] w7 fun e w' => e = .returned (.int .i64 (M : Int)) ∧ w' = w7 := (Tryz.Builder_Len w1.heap.size w1.heap.size _ w7 HI7.out).mono fun e w' h => by rw [Lib.byteCells_length, ← hM] at h; exact h
          have hrv := HRV.out
          rw [← hM] at hrv
          have HLN := Lib.hid hln
          have hz7' := HB7.out.size
          clear hM hln
          by_cases hbig : 1048576 < M
          · rw [if_pos hbig] at hrv
            have HR := Lib.hid hrv
            have hb1 : (1048576 : Int) < (M : Int) := by omega
            clear hrv hbig
            go_wp2_with (go_at_call 23; go_must (refine HLN.out.mono ?_; rintro e w8 ⟨rfl, rfl⟩))
            go_ret2
            exact ⟨by rw [HR.out]; rfl, HB1.out.trans (HB7.out.mono HB1.out.size)⟩
          · rw [if_neg hbig] at hrv
            have HR := Lib.hid hrv
            have hb1 : ¬ (1048576 : Int) < (M : Int) := by omega
            clear hrv hbig
            go_wp2_with (first
              | (go_at_call 23; go_must (refine HLN.out.mono ?_; rintro e w8 ⟨rfl, rfl⟩))
              | (go_at_call 24; go_must (refine (Tryz.Builder_String_any w1.heap.size w1.heap.size TX _ HI7.out hz7').mono ?_; rintro e w9 ⟨rfl, hb9⟩)))
            go_ret2
            exact ⟨by rw [HR.out]; rfl, HB1.out.trans ((HB7.out.trans hb9).mono HB1.out.size)⟩
theorem scrPrint_any (x : SV) (w : World) (he : Env w) (h : x.Sees w) (hi : x.In) :
    Calls Tryz.prog 11 #[x.v] w fun e w' => e = .returned (.tuple #[.string (S x.print.1), .int .i64 x.print.2]) ∧ Below w.heap.size w w' := by
  by_cases h0 : x.check = 0
  · refine (scrPrint_good x w he h hi h0).mono fun e w' ⟨h1, h2⟩ => ⟨?_, h2⟩
    rw [h1]
    have e0 : x.print = if 1048576 < x.text.length then ([], 234) else (x.text, 0) := by
      unfold SV.print scrPrintS
      rw [if_pos (show scrCheckS x.c x.s (progsV x.P) x.k x.d = 0 from h0)]
      rfl
    rw [e0]
    by_cases hb : 1048576 < x.text.length
    · rw [if_pos hb, if_pos hb]; rfl
    · rw [if_neg hb, if_neg hb]
  · refine (scrPrint_bad x w h h0).mono fun e w' ⟨h1, h2⟩ => ⟨?_, h2⟩
    rw [h1]
    have e0 : x.print = ([], x.check) := by
      unfold SV.print scrPrintS
      rw [if_neg (show ¬ scrCheckS x.c x.s (progsV x.P) x.k x.d = 0 from h0)]
      rfl
    rw [e0]
    rfl
end Go.Proofs.YtoiokbdipcecnaaGreatDoor
