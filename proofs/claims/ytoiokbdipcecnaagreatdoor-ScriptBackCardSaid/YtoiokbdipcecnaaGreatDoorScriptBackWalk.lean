/-
  quash/quashlaw23.ScriptBack answers true, whatever the script and the text. Condition: the library's variables (Env), sizes.
  And: quash/script.Parse, quash/script.Check of what it answers: every text.
  And: quash/script.program: every call; lines that name deeds (DoH). Condition: the library's variables (Env), numbers within 64 bits.
  And: quash/script.place, deed: every line that names a deed. Condition: the library's variables (Env), sizes.
-/
import Derived.Test.YtoiokbdipcecnaaGreatDoorScrEndM
import Derived.Test.YtoiokbdipcecnaaGreatDoorScrRead
import Derived.Test.YtoiokbdipcecnaaGreatDoorSliceF
import Derived.Test.YtoiokbdipcecnaaGreatDoorKBank
import Derived.Test.YtoiokbdipcecnaaGreatDoorKDeque
import Derived.Test.YtoiokbdipcecnaaGreatDoorKSet
import Derived.Test.YtoiokbdipcecnaaGreatDoorKDict
import Derived.Test.YtoiokbdipcecnaaGreatDoorScrEndD
import Derived.Test.YtoiokbdipcecnaaGreatDoorScriptNoiseOn
import Derived.Deep.DeepCutAuto
namespace Go.Proofs.YtoiokbdipcecnaaGreatDoor
open Go.RowKit Go.Maps Go.WideMaps
set_option maxRecDepth 100000

/-- block b alone may have turned -/
def TurnB (b : Nat) (w w' : World) : Prop := Below b w w' ∧ ∀ g, g ≠ b → w'.heap[g]? = w.heap[g]?
theorem TurnB.refl (b : Nat) (w : World) : TurnB b w w := ⟨Below.refl _ _, fun _ _ => rfl⟩
theorem TurnB.trans {b : Nat} {w1 w2 w3 : World} (h : TurnB b w1 w2) (k : TurnB b w2 w3) : TurnB b w1 w3 := ⟨h.1.trans k.1, fun g hg => (k.2 g hg).trans (h.2 g hg)⟩
theorem TurnB.set (b : Nat) (w : World) (k : Nat) (v : Value) : TurnB b w (w.setCell ⟨b, k, none⟩ v) :=
  ⟨(Below.refl b w).setCell (p := ⟨b, k, none⟩) (Nat.le_refl _) v, fun g hg => by
    unfold World.setCell
    simp only [Array.getElem?_modify]
    rw [if_neg (fun e => hg e.symm)]⟩
def DeedAt (w : World) (b : Nat) : Prop := ∃ d0 d1 d2 d3 d4 : Int, I64 d0 ∧ I64 d1 ∧ I64 d2 ∧ I64 d3 ∧ I64 d4 ∧ w.heap[b]? = some (.cells #[.int .i64 d0, .int .i64 d1, .int .i64 d2, .int .i64 d3, .int .i64 d4] 104)
theorem DeedAt.set {w : World} {b : Nat} (h : DeedAt w b) (k : Nat) (hk : k < 5) (x : Int) (hx : I64 x) : DeedAt (w.setCell ⟨b, k, none⟩ (.int .i64 x)) b := by
  obtain ⟨d0, d1, d2, d3, d4, i0, i1, i2, i3, i4, h⟩ := h
  have e : (w.setCell ⟨b, k, none⟩ (.int .i64 x)).heap[b]? = some (.cells (#[.int .i64 d0, .int .i64 d1, .int .i64 d2, .int .i64 d3, .int .i64 d4].setIfInBounds k (.int .i64 x)) 104) := by
    unfold World.setCell
    simp only [Array.getElem?_modify, if_true, h, Option.map_some]
    rfl
  match k, hk with
  | 0, _ => exact ⟨x, d1, d2, d3, d4, hx, i1, i2, i3, i4, e⟩
  | 1, _ => exact ⟨d0, x, d2, d3, d4, i0, hx, i2, i3, i4, e⟩
  | 2, _ => exact ⟨d0, d1, x, d3, d4, i0, i1, hx, i3, i4, e⟩
  | 3, _ => exact ⟨d0, d1, d2, x, d4, i0, i1, i2, hx, i4, e⟩
  | 4, _ => exact ⟨d0, d1, d2, d3, x, i0, i1, i2, i3, hx, e⟩
theorem DeedAt.cells {w : World} {b : Nat} (h : DeedAt w b) : (∀ k, k < 5 → ∃ x, w.cell? ⟨b, k, none⟩ = some x) ∧ ∀ k, w.frozen? ⟨b, k, none⟩ = false := by
  obtain ⟨d0, d1, d2, d3, d4, _, _, _, _, _, h⟩ := h
  refine ⟨fun k hk => ?_, fun k => frozen_of_row _ _ k _ _ h⟩
  match k, hk with
  | 0, _ => exact ⟨_, cell_of_row _ _ 0 _ _ _ h⟩
  | 1, _ => exact ⟨_, cell_of_row _ _ 1 _ _ _ h⟩
  | 2, _ => exact ⟨_, cell_of_row _ _ 2 _ _ _ h⟩
  | 3, _ => exact ⟨_, cell_of_row _ _ 3 _ _ _ h⟩
  | 4, _ => exact ⟨_, cell_of_row _ _ 4 _ _ _ h⟩
/-- numbers that lie in block g from place o on -/
def NumAt (w : World) (g o : Nat) (ns : List Int) : Prop := ∀ (j : Nat) x, ns[j]? = some x → w.cell? ⟨g, o + j, none⟩ = some (.int .i64 x)
theorem NumAt.keep {w w' : World} {g o : Nat} {ns : List Int} (h : NumAt w g o ns) (hb : Below w.heap.size w w') : NumAt w' g o ns := fun j x hx => (hb.cell (p := ⟨g, o + j, none⟩) (block_lt_of_cell (h j x hx))).trans (h j x hx)
theorem NumAt.turn {w w' : World} {b g o : Nat} {ns : List Int} (h : NumAt w g o ns) (ht : TurnB b w w') (hne : g ≠ b) : NumAt w' g o ns := fun j x hx => by
  have := h j x hx
  simp only [World.cell?] at this ⊢
  rw [ht.2 g hne]
  exact this
set_option maxHeartbeats 4000000 in
theorem place_any (b : Nat) (sw : List UInt8) (g o c n : Nat) (ns : List Int) (ao : Option Addr) (w : World) (h : DeedAt w b) (hn : n = ns.length) (hao : ns ≠ [] → ao = some ⟨g, o, none⟩) (hs : NumAt w g o ns) (hne : g ≠ b) (hi : ∀ x ∈ ns, I64 x) (hn2 : n ≤ 1048577) :
    Calls Tryz.prog 75 #[.pointer (some ⟨b, 0, none⟩), .string (S sw), .slice ao n c] w fun e w' => e = .returned (.tuple #[]) ∧ TurnB b w w' ∧ DeedAt w' b := by
  have HD := Lib.hid h
  have HS := Lib.hid hs
  have HI := Lib.hid hi
  have HN := Lib.hid hn
  have at' : ∀ j, j < n → ∃ x, ns[j]? = some x ∧ I64 x := fun j hj => ⟨ns[j]'(by omega), List.getElem?_eq_getElem (by omega), hi _ (List.getElem_mem _)⟩
  have hcmp : ((S sw).toList == [98, 97, 110, 107]) = decide (sw = [98, 97, 110, 107]) := by
    rw [S_toL]
    by_cases e : sw = [98, 97, 110, 107]
    · rw [e]; rfl
    · rw [decide_eq_false e]; simpa using e
  obtain ⟨q, hq⟩ : ∃ q, decide (sw = [98, 97, 110, 107]) = q := ⟨_, rfl⟩
  rw [hq] at hcmp
  have hpos : n ≠ 0 → ao = some ⟨g, o, none⟩ := fun hz => hao (by intro e; rw [e] at hn; exact hz hn)
  clear h hs hi hn hao hq
  by_cases h0 : n = 0
  · subst h0
    clear at' hpos
    cases q
    all_goals
      go_enter Tryz.func75, Tryz.ntmps75
      go_wp2
      first | go_end0 | refine bodyPost_ret (results_none rfl _ _ _) rfl ?_
      exact ⟨rfl, TurnB.refl _ _, HD.out⟩
  obtain rfl := hpos h0
  have g0 : (0 : Int) < (n : Int) := by omega
  obtain ⟨x0, hx0, i0⟩ := at' 0 (by omega)
  have c0 := HS.out 0 x0 hx0
  rw [Nat.add_zero] at c0
  have y0 := HD.out.cells.2
  cases q with
  | true =>
    obtain ⟨y, hy⟩ := HD.out.cells.1 1 (by omega)
    have hf := y0 1
    clear y0
    go_enter Tryz.func75, Tryz.ntmps75
    go_upto_region 3 with (fail)
    refine wp_gen (fun W => TurnB b w W ∧ DeedAt W b) ⟨TurnB.set _ _ _ _, HD.out.set 1 (by omega) x0 i0⟩ ?_
    rintro W ⟨hT, hD1⟩
    have HT := Lib.hid hT
    have HD1 := Lib.hid hD1
    have HSW := Lib.hid (HS.out.turn hT hne)
    clear hy hf c0 hT hD1
    by_cases h3 : n = 3
    · subst h3
      obtain ⟨x1, hx1, i1⟩ := at' 1 (by omega)
      obtain ⟨x2, hx2, i2⟩ := at' 2 (by omega)
      have c1 := HSW.out 1 x1 hx1
      obtain ⟨y, hy⟩ := HD1.out.cells.1 2 (by omega)
      have hf := HD1.out.cells.2 2
      have HX2 := Lib.hid hx2
      clear at' hx0 hx1 hx2
      go_upto_region 5 with (fail)
      refine wp_gen (fun V => TurnB b W V ∧ DeedAt V b) ⟨TurnB.set _ _ _ _, HD1.out.set 2 (by omega) x1 i1⟩ ?_
      rintro V ⟨hT, hD2⟩
      have c2 := (HSW.out.turn hT hne) 2 x2 HX2.out
      clear hy hf c1
      obtain ⟨y, hy⟩ := hD2.cells.1 3 (by omega)
      have hf := hD2.cells.2 3
      have HT2 := Lib.hid (HT.out.trans hT)
      have HD2 := Lib.hid hD2
      clear hT hD2
      go_wp2
      first | go_end0 | refine bodyPost_ret (results_none rfl _ _ _) rfl ?_
      exact ⟨rfl, HT2.out.trans (TurnB.set _ _ _ _), HD2.out.set 3 (by omega) x2 i2⟩
    · have h3' : ((n : Int) == 3) = false := by simp; omega
      by_cases h1 : n = 1
      · subst h1
        clear at' hx0
        go_wp2
        first | go_end0 | refine bodyPost_ret (results_none rfl _ _ _) rfl ?_
        exact ⟨rfl, HT.out, HD1.out⟩
      · obtain ⟨x1, hx1, i1⟩ := at' (n - 1) (by omega)
        have c1 := HSW.out (n - 1) x1 hx1
        obtain ⟨y, hy⟩ := HD1.out.cells.1 3 (by omega)
        have hf := HD1.out.cells.2 3
        have k1 : IntKind.i64.wrap ((n : Int) - 1) = (n : Int) - 1 := IntWalk.i64_in _ (by omega)
        have k2 : (0 : Int) ≤ (n : Int) - 1 := by omega
        have k3 : (n : Int) - 1 < (n : Int) := by omega
        have k5 : ((n : Int) - 1).toNat = n - 1 := by omega
        have g1 : (1 : Int) < (n : Int) := by omega
        clear at' hx0 hx1
        go_wp2
        first | go_end0 | refine bodyPost_ret (results_none rfl _ _ _) rfl ?_
        exact ⟨rfl, HT.out.trans (TurnB.set _ _ _ _), HD1.out.set 3 (by omega) x1 i1⟩
  | false =>
    obtain ⟨y, hy⟩ := HD.out.cells.1 3 (by omega)
    have hf := y0 3
    clear y0
    go_enter Tryz.func75, Tryz.ntmps75
    go_upto_region 9 with (fail)
    refine wp_gen (fun W => TurnB b w W ∧ DeedAt W b) ⟨TurnB.set _ _ _ _, HD.out.set 3 (by omega) x0 i0⟩ ?_
    rintro W ⟨hT, hD1⟩
    have HT := Lib.hid hT
    have HD1 := Lib.hid hD1
    have HSW := Lib.hid (HS.out.turn hT hne)
    clear hy hf c0 hT hD1
    by_cases h1 : n = 1
    · subst h1
      clear at' hx0
      go_wp2
      first | go_end0 | refine bodyPost_ret (results_none rfl _ _ _) rfl ?_
      exact ⟨rfl, HT.out, HD1.out⟩
    · obtain ⟨x1, hx1, i1⟩ := at' 1 (by omega)
      have c1 := HSW.out 1 x1 hx1
      obtain ⟨y, hy⟩ := HD1.out.cells.1 4 (by omega)
      have hf := HD1.out.cells.2 4
      have g1 : (1 : Int) < (n : Int) := by omega
      clear at' hx0 hx1
      go_wp2
      first | go_end0 | refine bodyPost_ret (results_none rfl _ _ _) rfl ?_
      exact ⟨rfl, HT.out.trans (TurnB.set _ _ _ _), HD1.out.set 4 (by omega) x1 i1⟩
/-- how a map's rows of five read -/
def slR (v : Value) : Option (DataW Unit × List MemPlace) :=
  match v with
  | .slice (some ⟨g, 0, none⟩) 5 5 => some (numD (g + 1), [])
  | .slice none 0 0 => some (numD 0, [])
  | _ => none
theorem slR_back {v : Value} {k : Nat} {ps : List MemPlace} (h : slR v = some (numD k, ps)) : (k = 0 ∧ v = .slice none 0 0) ∨ ∃ g, k = g + 1 ∧ v = .slice (some ⟨g, 0, none⟩) 5 5 := by
  unfold slR at h
  split at h
  · rename_i g
    injection h with h; injection h with h _
    exact .inr ⟨g, (numD_inj h).symm, rfl⟩
  · injection h with h; injection h with h _
    exact .inl ⟨(numD_inj h).symm, rfl⟩
  · cases h
def fourD (g1 g2 g3 g4 : Nat) : DataW Unit := ((((DataW.map []).put (.string [98, 97, 110, 107]) (numD (g1 + 1))).put (.string [115, 101, 116]) (numD (g2 + 1))).put (.string [100, 105, 99, 116]) (numD (g3 + 1))).put (.string [100, 101, 113, 117, 101]) (numD (g4 + 1))
theorem four_at (g1 g2 g3 g4 : Nat) (l : List UInt8) : (fourD g1 g2 g3 g4).atKey (.string l) (numD 0) = numD (if l = [100, 101, 113, 117, 101] then g4 + 1 else if l = [100, 105, 99, 116] then g3 + 1 else if l = [115, 101, 116] then g2 + 1 else if l = [98, 97, 110, 107] then g1 + 1 else 0) := by
  have m0 : IsMap (DataW.map [] : DataW Unit) := isMap_empty
  have m1 := m0.put (.string [98, 97, 110, 107]) (numD (g1 + 1))
  have m2 := m1.put (.string [115, 101, 116]) (numD (g2 + 1))
  have m3 := m2.put (.string [100, 105, 99, 116]) (numD (g3 + 1))
  unfold fourD
  by_cases e3 : l = [100, 101, 113, 117, 101]
  · rw [if_pos e3]
    subst e3
    exact atKey_put_same m3 (strKey _) _ _
  have n3 : (Lit.string l) ≠ .string [100, 101, 113, 117, 101] := fun h => e3 (by injection h)
  rw [if_neg e3, atKey_put_other n3]
  by_cases e2 : l = [100, 105, 99, 116]
  · rw [if_pos e2]
    subst e2
    exact atKey_put_same m2 (strKey _) _ _
  have n2 : (Lit.string l) ≠ .string [100, 105, 99, 116] := fun h => e2 (by injection h)
  rw [if_neg e2, atKey_put_other n2]
  by_cases e1 : l = [115, 101, 116]
  · rw [if_pos e1]
    subst e1
    exact atKey_put_same m1 (strKey _) _ _
  have n1 : (Lit.string l) ≠ .string [115, 101, 116] := fun h => e1 (by injection h)
  rw [if_neg e1, atKey_put_other n1]
  by_cases e0 : l = [98, 97, 110, 107]
  · rw [if_pos e0]
    subst e0
    exact atKey_put_same m0 (strKey _) _ _
  have n0 : (Lit.string l) ≠ .string [98, 97, 110, 107] := fun h => e0 (by injection h)
  rw [if_neg e0, atKey_put_other n0]
  rfl
def RowS (w : World) (g : Nat) : Prop := ∃ a0 a1 a2 a3 a4 : List UInt8, w.heap[g]? = some (.cells #[.string (S a0), .string (S a1), .string (S a2), .string (S a3), .string (S a4)] 9)
def RowI (w : World) (g : Nat) : Prop := ∃ z0 z1 z2 z3 z4 : Int, w.heap[g]? = some (.cells #[.int .i64 z0, .int .i64 z1, .int .i64 z2, .int .i64 z3, .int .i64 z4] 3)
/-- a map of four rows of five -/
def FourM (Row : World → Nat → Prop) (w : World) (M : Nat) : Prop := ∃ g1 g2 g3 g4 n : Nat, w.ownsMap Tryz.prog 9 slR M n (fourD g1 g2 g3 g4) ∧ Row w g1 ∧ Row w g2 ∧ Row w g3 ∧ Row w g4
/-- all blocks but a deed's stand -/
def KeepD (w w' : World) : Prop := ∀ (g : Nat) (o : Obj), w.heap[g]? = some o → (∀ c fz, o ≠ .cells c 104 fz) → w'.heap[g]? = some o
theorem KeepD.of_below {w w' : World} (h : Below w.heap.size w w') : KeepD w w' := fun g _o hg _ => (h.block g (lt_of_block hg)).trans hg
theorem KeepD.of_turn {w w' : World} {b : Nat} (h : TurnB b w w') (hd : DeedAt w b) : KeepD w w' := fun g o hg hn => by
  by_cases e : g = b
  · subst e
    obtain ⟨_, _, _, _, _, _, _, _, _, _, hb⟩ := hd
    rw [hg] at hb
    injection hb with hb
    exact absurd hb (hn _ _)
  · exact (h.2 g e).trans hg
theorem RowS.keep {w w' : World} {g : Nat} (h : RowS w g) (k : KeepD w w') : RowS w' g := by
  obtain ⟨a0, a1, a2, a3, a4, h⟩ := h
  exact ⟨a0, a1, a2, a3, a4, k g _ h (fun c fz e => by injection e with _ e _; revert e; decide)⟩
theorem RowI.keep {w w' : World} {g : Nat} (h : RowI w g) (k : KeepD w w') : RowI w' g := by
  obtain ⟨a0, a1, a2, a3, a4, h⟩ := h
  exact ⟨a0, a1, a2, a3, a4, k g _ h (fun c fz e => by injection e with _ e _; revert e; decide)⟩
theorem FourM.keep {Row : World → Nat → Prop} (hr : ∀ {w w' : World} {g : Nat}, Row w g → KeepD w w' → Row w' g) {w w' : World} {M : Nat} (h : FourM Row w M) (k : KeepD w w') : FourM Row w' M := by
  obtain ⟨g1, g2, g3, g4, n, ⟨es, cl, hb, hF, hs, hD⟩, r1, r2, r3, r4⟩ := h
  exact ⟨g1, g2, g3, g4, n, ⟨es, cl, k M _ hb (fun c fz e => by cases e), hF, hs, hD⟩, hr r1 k, hr r2 k, hr r3 k, hr r4 k⟩
theorem FourM.look {Row : World → Nat → Prop} {w : World} {M : Nat} (h : FourM Row w M) {t e : TypeId} (ht : Tryz.prog.underlying t = some (.map 9 e)) (hz : (zeroValue e).run Tryz.prog w = .ok (.slice none 0 0) w) (l : List UInt8) (hl : l.length ≤ 1048576) :
    ∃ v, (Instr.lookup t (.map (some M)) (.string (S l)) false).run Tryz.prog w = .ok v w ∧ ((v = .slice none 0 0 ∧ (∀ q : List UInt8, (q = [98, 97, 110, 107] ∨ q = [115, 101, 116] ∨ q = [100, 105, 99, 116] ∨ q = [100, 101, 113, 117, 101]) → l ≠ q)) ∨ ((l = [98, 97, 110, 107] ∨ l = [115, 101, 116] ∨ l = [100, 105, 99, 116] ∨ l = [100, 101, 113, 117, 101]) ∧ ∃ g, v = .slice (some ⟨g, 0, none⟩) 5 5 ∧ Row w g)) := by
  obtain ⟨g1, g2, g3, g4, n, ho, r1, r2, r3, r4⟩ := h
  obtain ⟨v, ps, hrun, hR⟩ := ho.lookup strLaw ht hz (zd := numD 0) (zp := []) rfl (keyOf_string_mk (s := S l) Tryz.underlying9 (by simp [S, ByteArray.size]; unfold maxLen; omega))
  have e : (S l).data.toList = l := by simp [S]
  rw [e, four_at] at hR
  refine ⟨v, hrun, ?_⟩
  by_cases e3 : l = [100, 101, 113, 117, 101]
  · rw [if_pos e3] at hR
    rcases slR_back hR with ⟨h0, _⟩ | ⟨g, h1, h2⟩
    · omega
    · obtain rfl : g4 = g := by omega
      exact .inr ⟨.inr (.inr (.inr e3)), _, h2, r4⟩
  rw [if_neg e3] at hR
  by_cases e2 : l = [100, 105, 99, 116]
  · rw [if_pos e2] at hR
    rcases slR_back hR with ⟨h0, _⟩ | ⟨g, h1, h2⟩
    · omega
    · obtain rfl : g3 = g := by omega
      exact .inr ⟨.inr (.inr (.inl e2)), _, h2, r3⟩
  rw [if_neg e2] at hR
  by_cases e1 : l = [115, 101, 116]
  · rw [if_pos e1] at hR
    rcases slR_back hR with ⟨h0, _⟩ | ⟨g, h1, h2⟩
    · omega
    · obtain rfl : g2 = g := by omega
      exact .inr ⟨.inr (.inl e1), _, h2, r2⟩
  rw [if_neg e1] at hR
  by_cases e0 : l = [98, 97, 110, 107]
  · rw [if_pos e0] at hR
    rcases slR_back hR with ⟨h0, _⟩ | ⟨g, h1, h2⟩
    · omega
    · obtain rfl : g1 = g := by omega
      exact .inr ⟨.inl e0, _, h2, r1⟩
  rw [if_neg e0] at hR
  rcases slR_back hR with ⟨_, h2⟩ | ⟨g, h1, _⟩
  · refine .inl ⟨h2, fun q hq => ?_⟩
    rcases hq with rfl | rfl | rfl | rfl
    · exact e0
    · exact e1
    · exact e2
    · exact e3
  · omega
theorem deed_leave {a : Act} {W : World} {p : Nat} {y0 y1 y2 y3 y4 v2 v3 v4 v6 : Value} (h : W.heap[p]? = some (.cells #[y0, y1, y2, y3, y4] 104)) (h2 : a.tmps[2]? = some v2) (h3 : a.tmps[3]? = some v3) (h4 : a.tmps[4]? = some v4) (h5 : a.tmps[5]? = some (.pointer (some ⟨p, 0, none⟩))) (h6 : a.tmps[6]? = some v6) :
    (results Tryz.f53 a.tmps).run Tryz.prog W = .ok (.tuple #[v2, v3, v4, .agg #[y0, y1, y2, y3, y4], v6]) W := by
  have c0 : W.cell? ⟨p, 0, none⟩ = some y0 := cell_of_row _ _ 0 _ _ _ h
  have c1 : W.cell? ⟨p, 1, none⟩ = some y1 := cell_of_row _ _ 1 _ _ _ h
  have c2 : W.cell? ⟨p, 2, none⟩ = some y2 := cell_of_row _ _ 2 _ _ _ h
  have c3 : W.cell? ⟨p, 3, none⟩ = some y3 := cell_of_row _ _ 3 _ _ _ h
  have c4 : W.cell? ⟨p, 4, none⟩ = some y4 := cell_of_row _ _ 4 _ _ _ h
  simp [results, Tryz.results53, go_sem, h2, h3, h4, h5, h6, c0, c1, c2, c3, c4]
theorem five_setD {w : World} {p B : Nat} {x0 x1 x2 x3 x4 y0 y1 y2 y3 y4 : Value} {t : TypeId} (h : w.heap[p]? = some (.cells #[x0, x1, x2, x3, x4] t)) (hB : B ≤ p) :
    (((((w.setCell ⟨p, 0, none⟩ y0).setCell ⟨p, 1, none⟩ y1).setCell ⟨p, 2, none⟩ y2).setCell ⟨p, 3, none⟩ y3).setCell ⟨p, 4, none⟩ y4).heap[p]? = some (.cells #[y0, y1, y2, y3, y4] t) ∧ Below B w (((((w.setCell ⟨p, 0, none⟩ y0).setCell ⟨p, 1, none⟩ y1).setCell ⟨p, 2, none⟩ y2).setCell ⟨p, 3, none⟩ y3).setCell ⟨p, 4, none⟩ y4) := by
  have k0 := heap_setCell_same w p 0 _ _ y0 h
  have k1 := heap_setCell_same _ p 1 _ _ y1 k0
  have k2 := heap_setCell_same _ p 2 _ _ y2 k1
  have k3 := heap_setCell_same _ p 3 _ _ y3 k2
  have k4 := heap_setCell_same _ p 4 _ _ y4 k3
  exact ⟨k4, ((((((Below.refl B w).setCell (p := ⟨p, 0, none⟩) hB _).setCell (p := ⟨p, 1, none⟩) hB _).setCell (p := ⟨p, 2, none⟩) hB _).setCell (p := ⟨p, 3, none⟩) hB _).setCell (p := ⟨p, 4, none⟩) hB _)⟩
theorem own_num {w : World} {B : Nat} {v : Value} {ns : List Int} (h : OwnG intT w B v ns) : (v = .slice none 0 0 ∧ ns = []) ∨ ∃ g c, v = .slice (some ⟨g, 0, none⟩) ns.length c ∧ B ≤ g ∧ NumAt w g 0 ns := by
  rcases h.form with ⟨e, hn⟩ | ⟨g, cap, e⟩
  · exact .inl ⟨e, hn⟩
  · refine .inr ⟨g, cap, e, own_ge h (by rw [e]; rfl), fun j x hx => ?_⟩
    subst e
    have := h.cell (k := j) (i := 0) hx (show (intT.cells x)[0]? = some (.int .i64 x) from rfl)
    rw [show intT.size = 1 from rfl, Nat.mul_one, Nat.add_zero] at this
    rw [Nat.zero_add]
    exact this
theorem numB_in {l : List UInt8} (h : (numberB l).2 = true) : I64 (numberB l).1 := by
  unfold numberB at h ⊢
  cases hp : Lib.parseIntB 64 l with
  | ok v =>
    obtain ⟨b1, b2⟩ := parse_ok_bounds hp
    exact ⟨b1, b2⟩
  | _ => rw [hp] at h; simp at h
theorem numsL_in : ∀ {L : List (List UInt8)} {ns : List Int}, numsL L = some ns → ∀ x ∈ ns, I64 x
  | [], ns, h => by injection h with h; subst h; exact fun x hx => by cases hx
  | x :: r, ns, h => by
    unfold numsL at h
    split at h
    · rename_i hb
      cases hr : numsL r with
      | none => rw [hr] at h; cases h
      | some m =>
        rw [hr] at h
        injection h with h
        subst h
        intro y hy
        rcases List.mem_cons.1 hy with rfl | hy
        · exact numB_in hb
        · exact numsL_in hr y hy
    · cases h
theorem RowS.cell {w : World} {g : Nat} (h : RowS w g) : ∀ j, j < 5 → ∃ s : List UInt8, w.cell? ⟨g, j, none⟩ = some (.string (S s)) := by
  obtain ⟨a0, a1, a2, a3, a4, h⟩ := h
  intro j hj
  match j, hj with
  | 0, _ => exact ⟨_, cell_of_row _ _ 0 _ _ _ h⟩
  | 1, _ => exact ⟨_, cell_of_row _ _ 1 _ _ _ h⟩
  | 2, _ => exact ⟨_, cell_of_row _ _ 2 _ _ _ h⟩
  | 3, _ => exact ⟨_, cell_of_row _ _ 3 _ _ _ h⟩
  | 4, _ => exact ⟨_, cell_of_row _ _ 4 _ _ _ h⟩
theorem RowI.cell {w : World} {g : Nat} (h : RowI w g) : ∀ j, j < 5 → ∃ z : Int, w.cell? ⟨g, j, none⟩ = some (.int .i64 z) := by
  obtain ⟨a0, a1, a2, a3, a4, h⟩ := h
  intro j hj
  match j, hj with
  | 0, _ => exact ⟨_, cell_of_row _ _ 0 _ _ _ h⟩
  | 1, _ => exact ⟨_, cell_of_row _ _ 1 _ _ _ h⟩
  | 2, _ => exact ⟨_, cell_of_row _ _ 2 _ _ _ h⟩
  | 3, _ => exact ⟨_, cell_of_row _ _ 3 _ _ _ h⟩
  | 4, _ => exact ⟨_, cell_of_row _ _ 4 _ _ _ h⟩
theorem numsDo_tell {L : List (List UInt8)} {W w' : World} {e : Ending} (hd : NumsDo L W e w') (hl : L.length = 2) : ∃ ao c q ns, e = .returned (.tuple #[.slice ao (if q then 2 else 0) c, .bool q]) ∧ Below W.heap.size W w' ∧ Hid (q = true → ∃ g, ao = some ⟨g, 0, none⟩ ∧ W.heap.size ≤ g ∧ NumAt w' g 0 ns ∧ ns.length = 2 ∧ ∀ x ∈ ns, I64 x) := by
  unfold NumsDo at hd
  cases hn : numsL L with
  | none =>
    rw [hn] at hd
    exact ⟨none, 0, false, [], hd.1, hd.2, Lib.hid fun h => by cases h⟩
  | some ns =>
    rw [hn] at hd
    obtain ⟨v, rfl, ho, hb⟩ := hd
    have hl2 := (numsL_length hn).trans hl
    rcases own_num ho with ⟨rfl, h0⟩ | ⟨g, c, rfl, hg, hc⟩
    · rw [h0] at hl2; simp at hl2
    · exact ⟨some ⟨g, 0, none⟩, c, true, ns, by rw [hl2]; rfl, hb, Lib.hid fun _ => ⟨g, rfl, hg, hc, hl2, numsL_in hn⟩⟩
theorem numsDo_told {L : List (List UInt8)} {W w' : World} {e : Ending} (hd : NumsDo L W e w') (hl : L.length ≤ 1048577) : ∃ ao c m q ns, e = .returned (.tuple #[.slice ao m c, .bool q]) ∧ Below W.heap.size W w' ∧ Hid (m = ns.length ∧ m ≤ 1048577 ∧ (ns ≠ [] → ∃ g, ao = some ⟨g, 0, none⟩ ∧ W.heap.size ≤ g ∧ NumAt w' g 0 ns) ∧ ∀ x ∈ ns, I64 x) := by
  unfold NumsDo at hd
  cases hn : numsL L with
  | none =>
    rw [hn] at hd
    exact ⟨none, 0, 0, false, [], hd.1, hd.2, Lib.hid ⟨rfl, by omega, fun h => absurd rfl h, fun x h => by cases h⟩⟩
  | some ns =>
    rw [hn] at hd
    obtain ⟨v, rfl, ho, hb⟩ := hd
    have hl2 := numsL_length hn
    rcases own_num ho with ⟨rfl, h0⟩ | ⟨g, c, rfl, hg, hc⟩
    · subst h0
      exact ⟨none, 0, 0, true, [], rfl, hb, Lib.hid ⟨rfl, by omega, fun h => absurd rfl h, fun x h => by cases h⟩⟩
    · exact ⟨some ⟨g, 0, none⟩, c, ns.length, true, ns, rfl, hb, Lib.hid ⟨rfl, by omega, fun _ => ⟨g, rfl, hg, hc⟩, numsL_in hn⟩⟩
/-- what deed answers -/
def DeedDoes (w : World) (e : Ending) (w' : World) : Prop := Below w.heap.size w w' ∧ ∃ (s : ByteArray) (b k d0 d1 d2 d3 d4 : Int) (ok : Bool), I64 b ∧ I64 k ∧ I64 d0 ∧ I64 d1 ∧ I64 d2 ∧ I64 d3 ∧ I64 d4 ∧
      e = .returned (.tuple #[.string s, .int .i64 b, .int .i64 k, .agg #[.int .i64 d0, .int .i64 d1, .int .i64 d2, .int .i64 d3, .int .i64 d4], .bool ok])
/-- what stands behind deed's first lines -/
structure Dd (w0 w : World) (p M1 M2 : Nat) : Prop where
  below : Below w0.heap.size w0 w
  five : ∃ x0 x1 x2 x3 x4, w.heap[w0.heap.size]? = some (.cells #[x0, x1, x2, x3, x4] 104)
  deed : DeedAt w p
  m1 : FourM RowS w M1
  m2 : FourM RowI w M2
  ne : w0.heap.size < p
theorem Dd.keep {w0 w w' : World} {p M1 M2 : Nat} (h : Dd w0 w p M1 M2) (hb : Below w.heap.size w w') : Dd w0 w' p M1 M2 := by
  obtain ⟨x0, x1, x2, x3, x4, hf⟩ := h.five
  obtain ⟨d0, d1, d2, d3, d4, i0, i1, i2, i3, i4, hd⟩ := h.deed
  exact ⟨h.below.trans (hb.mono h.below.size), ⟨x0, x1, x2, x3, x4, (hb.block _ (lt_of_block hf)).trans hf⟩, ⟨d0, d1, d2, d3, d4, i0, i1, i2, i3, i4, (hb.block _ (lt_of_block hd)).trans hd⟩, h.m1.keep (Row := RowS) (fun x y => x.keep y) (.of_below hb), h.m2.keep (Row := RowI) (fun x y => x.keep y) (.of_below hb), h.ne⟩
theorem Dd.turn {w0 w w' : World} {p M1 M2 : Nat} (h : Dd w0 w p M1 M2) (ht : TurnB p w w') (hd : DeedAt w' p) : Dd w0 w' p M1 M2 := by
  obtain ⟨x0, x1, x2, x3, x4, hf⟩ := h.five
  exact ⟨h.below.trans (ht.1.mono (Nat.le_of_lt h.ne)), ⟨x0, x1, x2, x3, x4, (ht.2 _ (Nat.ne_of_lt h.ne)).trans hf⟩, hd, h.m1.keep (Row := RowS) (fun x y => x.keep y) (.of_turn ht h.deed), h.m2.keep (Row := RowI) (fun x y => x.keep y) (.of_turn ht h.deed), h.ne⟩
theorem Dd.drew {w0 w : World} {p M1 M2 : Nat} (h : Dd w0 w p M1 M2) : Dd w0 w.drew p M1 M2 := h.keep ⟨rfl, rfl, rfl, Nat.le_refl _, fun _ _ => rfl⟩
theorem zeroSl (w : World) : (zeroValue 74).run Tryz.prog w = .ok (.slice none 0 0) w := by kernel_rfl
theorem zeroSlI (w : World) : (zeroValue 27).run Tryz.prog w = .ok (.slice none 0 0) w := by kernel_rfl
theorem row_step {w w1 : World} {M : Nat} {c : Array Value} {t : TypeId} (hg : (w.alloc (.cells c t)).grownBy w1 (some M)) (hM : M < w.heap.size) :
    w1.heap[w.heap.size]? = some (.cells c t) ∧ (∀ (g : Nat) (o : Obj), w.heap[g]? = some o → g ≠ M → w1.heap[g]? = some o) ∧ w.heap.size < w1.heap.size := by
  have e1 := heap_new w (.cells c t) w.heap.size rfl
  refine ⟨(hg.block _ (lt_of_block e1) (by intro e; injection e with e; omega)).trans e1, fun g o ho hn => ?_, ?_⟩
  · have e2 : (w.alloc (.cells c t)).heap[g]? = some o := (Below.heap_alloc _ _ _ (lt_of_block ho)).trans ho
    exact (hg.block _ (lt_of_block e2) (by intro e; injection e with e; exact hn e)).trans e2
  · have := hg.size; simp at this; omega
theorem four_done {w0 w1 w2 w3 w4 : World} {c1 c2 c3 c4 : Array Value} {t : TypeId} (hg1 : ((w0.alloc (.map #[] 0)).alloc (.cells c1 t)).grownBy w1 (some w0.heap.size)) (hg2 : (w1.alloc (.cells c2 t)).grownBy w2 (some w0.heap.size))
    (hg3 : (w2.alloc (.cells c3 t)).grownBy w3 (some w0.heap.size)) (hg4 : (w3.alloc (.cells c4 t)).grownBy w4 (some w0.heap.size)) :
    w4.heap[w0.heap.size + 1]? = some (.cells c1 t) ∧ w4.heap[w1.heap.size]? = some (.cells c2 t) ∧ w4.heap[w2.heap.size]? = some (.cells c3 t) ∧ w4.heap[w3.heap.size]? = some (.cells c4 t) ∧ Below w0.heap.size w0 w4 := by
  obtain ⟨a1, a2, a3⟩ := row_step hg1 (by simp)
  obtain ⟨b1, b2, b3⟩ := row_step hg2 (by simp at a3; omega)
  obtain ⟨d1, d2, d3⟩ := row_step hg3 (by simp at a3; omega)
  obtain ⟨e1, e2, e3⟩ := row_step hg4 (by simp at a3; omega)
  simp only [World.size_alloc] at a1 a3
  have own : ∀ k, some w0.heap.size = some k → w0.heap.size ≤ k := fun k hk => by injection hk with hk; omega
  have q0 : Below w0.heap.size w0 (w0.alloc (.map #[] 0)) := (Below.refl _ _).alloc (Nat.le_refl _) _
  have q1 := (q0.alloc q0.size (.cells c1 t)).grown hg1 (by simp; omega) own
  have q2 := (q1.alloc q1.size (.cells c2 t)).grown hg2 (by have := q1.size; simp; omega) own
  have q3 := (q2.alloc q2.size (.cells c3 t)).grown hg3 (by have := q2.size; simp; omega) own
  have q4 := (q3.alloc q3.size (.cells c4 t)).grown hg4 (by have := q3.size; simp; omega) own
  exact ⟨e2 _ _ (d2 _ _ (b2 _ _ a1 (by omega)) (by omega)) (by omega), e2 _ _ (d2 _ _ b1 (by omega)) (by omega), e2 _ _ d1 (by omega), e1, q4⟩
theorem deed_fin {w Y W : World} {p M1 M2 : Nat} {s : ByteArray} {b k : Int} {ok : Bool} {d0 d1 d2 d3 d4 : Int} (hY : Dd w Y p M1 M2) (i1 : I64 b) (i2 : I64 k) (j0 : I64 d0) (j1 : I64 d1) (j2 : I64 d2) (j3 : I64 d3) (j4 : I64 d4) (hb : Below w.heap.size Y W) :
    DeedDoes w (.returned (.tuple #[.string s, .int .i64 b, .int .i64 k, .agg #[.int .i64 d0, .int .i64 d1, .int .i64 d2, .int .i64 d3, .int .i64 d4], .bool ok])) W := ⟨hY.below.trans hb, _, _, _, _, _, _, _, _, _, i1, i2, j0, j1, j2, j3, j4, rfl⟩
theorem i64_0 : I64 0 := by unfold I64; omega
set_option maxHeartbeats 8000000 in
theorem deed_any (A n : Nat) (L : List (List UInt8)) (w : World) (hn : n = L.length) (h0 : 0 < n) (hn2 : n ≤ 1048577) (hs : SeesS w (some ⟨A, 0, none⟩) L) (hz : ∀ x ∈ L, x.length ≤ 1048576) (he : Env w) :
    Calls Tryz.prog 53 #[.slice (some ⟨A, 0, none⟩) n n] w (DeedDoes w) := by
  have hmm := @run_makeMap Tryz.prog
  have hb0 : Below w.heap.size w (w.alloc (.cells #[.int .i64 0, .int .i64 0, .int .i64 0, .int .i64 0, .int .i64 0] 104)) := (Below.refl _ _).alloc (Nat.le_refl _) _
  have hf0 := heap_new w (.cells #[.int .i64 0, .int .i64 0, .int .i64 0, .int .i64 0, .int .i64 0] 104) w.heap.size rfl
  obtain ⟨w0, hw0⟩ : ∃ w0, w0 = w.alloc (.cells #[.int .i64 0, .int .i64 0, .int .i64 0, .int .i64 0, .int .i64 0] 104) := ⟨_, rfl⟩
  rw [← hw0] at hb0 hf0
  have ho0 := World.ownsMap_made (H := Unit) w0 Tryz.prog 9 slR
  have k1 : ∀ (l : List UInt8), l.length ≤ 1048576 → keyOf Tryz.prog 9 (.string (S l)) = some (.string l) := fun l hl => keyOf_string_mk (s := S l) Tryz.underlying9 (by simp [S, ByteArray.size]; unfold maxLen; omega)
  have K1 := Lib.hid k1
  have HN := Lib.hid hn
  have HS := Lib.hid hs
  have HE := Lib.hid he
  have HZ := Lib.hid hz
  have HW0 := Lib.hid hw0
  clear k1 hn hs he hz hw0
  go_enter Tryz.func53, Tryz.ntmps53
  go_upto_region 1 with (fail)
  rw [← HW0.out]
  go_upto_region 2 with (first
    | (refine wpList_insert_own (H := Unit) _ rfl _ _ _ 131 rfl 9 74 strLaw Tryz.underlying131 slR w0.heap.size 0 _ rfl (ho0.alloc _) (by unfold maxLen; omega) (.string (S [98, 97, 110, 107])) (.slice (some ⟨_, 0, none⟩) 5 5) (.string [98, 97, 110, 107]) rfl rfl (K1.out _ (by decide)) _ _ rfl ?_; intro w1 ho1 hg1)
    | (refine wpList_insert_own (H := Unit) _ rfl _ _ _ 131 rfl 9 74 strLaw Tryz.underlying131 slR w0.heap.size 1 _ rfl (ho1.alloc _) (by unfold maxLen; omega) (.string (S [115, 101, 116])) (.slice (some ⟨_, 0, none⟩) 5 5) (.string [115, 101, 116]) rfl rfl (K1.out _ (by decide)) _ _ rfl ?_; intro w2 ho2 hg2)
    | (refine wpList_insert_own (H := Unit) _ rfl _ _ _ 131 rfl 9 74 strLaw Tryz.underlying131 slR w0.heap.size 2 _ rfl (ho2.alloc _) (by unfold maxLen; omega) (.string (S [100, 105, 99, 116])) (.slice (some ⟨_, 0, none⟩) 5 5) (.string [100, 105, 99, 116]) rfl rfl (K1.out _ (by decide)) _ _ rfl ?_; intro w3 ho3 hg3)
    | (refine wpList_insert_own (H := Unit) _ rfl _ _ _ 131 rfl 9 74 strLaw Tryz.underlying131 slR w0.heap.size 3 _ rfl (ho3.alloc _) (by unfold maxLen; omega) (.string (S [100, 101, 113, 117, 101])) (.slice (some ⟨_, 0, none⟩) 5 5) (.string [100, 101, 113, 117, 101]) rfl rfl (K1.out _ (by decide)) _ _ rfl ?_; intro w4 ho4 hg4))
  obtain ⟨f1, f2, f3, f4, fb⟩ := four_done hg1 hg2 hg3 hg4
  refine wp_gen (fun V => FourM RowS V w0.heap.size ∧ Below w0.heap.size w0 V) ⟨⟨_, _, _, _, _, ho4, ⟨_, _, _, _, _, f1⟩, ⟨_, _, _, _, _, f2⟩, ⟨_, _, _, _, _, f3⟩, ⟨_, _, _, _, _, f4⟩⟩, fb⟩ ?_
  rintro V ⟨hV1, hV2⟩
  clear ho0 ho1 ho2 ho3 ho4 hg1 hg2 hg3 hg4 f1 f2 f3 f4 fb
  have ho0 := World.ownsMap_made (H := Unit) V Tryz.prog 9 slR
  go_upto_region 3 with (first
    | (refine wpList_insert_own (H := Unit) _ rfl _ _ _ 132 rfl 9 27 strLaw Tryz.underlying132 slR V.heap.size 0 _ rfl (ho0.alloc _) (by unfold maxLen; omega) (.string (S [98, 97, 110, 107])) (.slice (some ⟨_, 0, none⟩) 5 5) (.string [98, 97, 110, 107]) rfl rfl (K1.out _ (by decide)) _ _ rfl ?_; intro w1 ho1 hg1)
    | (refine wpList_insert_own (H := Unit) _ rfl _ _ _ 132 rfl 9 27 strLaw Tryz.underlying132 slR V.heap.size 1 _ rfl (ho1.alloc _) (by unfold maxLen; omega) (.string (S [115, 101, 116])) (.slice (some ⟨_, 0, none⟩) 5 5) (.string [115, 101, 116]) rfl rfl (K1.out _ (by decide)) _ _ rfl ?_; intro w2 ho2 hg2)
    | (refine wpList_insert_own (H := Unit) _ rfl _ _ _ 132 rfl 9 27 strLaw Tryz.underlying132 slR V.heap.size 2 _ rfl (ho2.alloc _) (by unfold maxLen; omega) (.string (S [100, 105, 99, 116])) (.slice (some ⟨_, 0, none⟩) 5 5) (.string [100, 105, 99, 116]) rfl rfl (K1.out _ (by decide)) _ _ rfl ?_; intro w3 ho3 hg3)
    | (refine wpList_insert_own (H := Unit) _ rfl _ _ _ 132 rfl 9 27 strLaw Tryz.underlying132 slR V.heap.size 3 _ rfl (ho3.alloc _) (by unfold maxLen; omega) (.string (S [100, 101, 113, 117, 101])) (.slice (some ⟨_, 0, none⟩) 5 5) (.string [100, 101, 113, 117, 101]) rfl rfl (K1.out _ (by decide)) _ _ rfl ?_; intro w4 ho4 hg4))
  obtain ⟨f1, f2, f3, f4, fb⟩ := four_done hg1 hg2 hg3 hg4
  refine wp_gen (fun U => FourM RowI U V.heap.size ∧ FourM RowS U w0.heap.size ∧ Below V.heap.size V U) ⟨⟨_, _, _, _, _, ho4, ⟨_, _, _, _, _, f1⟩, ⟨_, _, _, _, _, f2⟩, ⟨_, _, _, _, _, f3⟩, ⟨_, _, _, _, _, f4⟩⟩, hV1.keep (Row := RowS) (fun x y => x.keep y) (.of_below fb), fb⟩ ?_
  rintro U ⟨hU1, hU2, hU3⟩
  clear ho0 ho1 ho2 ho3 ho4 hg1 hg2 hg3 hg4 f1 f2 f3 f4 fb hV1 hmm
  go_upto_region 4 with (fail)
  have hUb : Below w0.heap.size w0 U := hV2.trans (hU3.mono hV2.size)
  have hlt0 : w.heap.size < w0.heap.size := lt_of_block hf0
  refine wp_gen (fun X => Dd w X U.heap.size w0.heap.size V.heap.size) ?_ ?_
  · have hz : (U.alloc (.cells #[.int .i64 0, .int .i64 0, .int .i64 0, .int .i64 0, .int .i64 0] 104)).heap[U.heap.size]? = _ := heap_new U _ _ rfl
    have hq : Below U.heap.size U (U.alloc (.cells #[.int .i64 0, .int .i64 0, .int .i64 0, .int .i64 0, .int .i64 0] 104)) := (Below.refl _ _).alloc (Nat.le_refl _) _
    have hu0 := (hUb.block _ hlt0).trans hf0
    have i0 : I64 0 := by unfold I64; omega
    exact ⟨((hb0.trans (hUb.mono (Nat.le_of_lt hlt0))).trans (hq.mono (by have := hUb.size; omega))), ⟨_, _, _, _, _, (hq.block _ (lt_of_block hu0)).trans hu0⟩, ⟨0, 0, 0, 0, 0, i0, i0, i0, i0, i0, hz⟩, hU2.keep (Row := RowS) (fun x y => x.keep y) (.of_below hq), hU1.keep (Row := RowI) (fun x y => x.keep y) (.of_below hq), by have := hUb.size; omega⟩
  intro X hX
  have HX := Lib.hid hX
  obtain ⟨p, hp⟩ : ∃ p, U.heap.size = p := ⟨_, rfl⟩
  obtain ⟨M1, hM1⟩ : ∃ p, w0.heap.size = p := ⟨_, rfl⟩
  obtain ⟨M2, hM2⟩ : ∃ p, V.heap.size = p := ⟨_, rfl⟩
  rw [hp, hM1, hM2] at HX
  rw [hp, hM1, hM2]
  have hp1 := HX.out.ne
  clear hX hb0 hf0 hV2 hU1 hU2 hU3 hUb hlt0 hp hM1 hM2 HW0 K1
  by_cases h5 : n < 5
  · have h5' : (n : Int) < 5 := by omega
    obtain ⟨d0, d1, d2, d3, d4, i0, i1, i2, i3, i4, q9⟩ := HX.out.deed
    have c0 := cell_of_row _ _ 0 _ _ _ q9
    have c1 := cell_of_row _ _ 1 _ _ _ q9
    have c2 := cell_of_row _ _ 2 _ _ _ q9
    have c3 := cell_of_row _ _ 3 _ _ _ q9
    have c4 := cell_of_row _ _ 4 _ _ _ q9
    go_upto_region 5 with (fail)
    go_still_tail 4, (by kernel_rfl)
    change wpList _ _ _ _ _ X.drew
    obtain ⟨Y, hY⟩ : ∃ Y, Y = X.drew := ⟨_, rfl⟩
    rw [← hY]
    have HY := Lib.hid (hY ▸ HX.out.drew)
    clear hY c0 c1 c2 c3 c4 q9
    obtain ⟨x0, x1, x2, x3, x4, q5⟩ := HY.out.five
    have y0 := cell_of_row _ _ 0 _ _ _ q5
    have y1 := cell_of_row _ _ 1 _ _ _ q5
    have y2 := cell_of_row _ _ 2 _ _ _ q5
    have y3 := cell_of_row _ _ 3 _ _ _ q5
    have y4 := cell_of_row _ _ 4 _ _ _ q5
    have yf := fun j => frozen_of_row Y _ j _ _ q5
    go_wp2
    refine bodyPost_ret_by (deed_leave (p := w.heap.size) (five_setD (B := w.heap.size) q5 (Nat.le_refl _)).1 rfl rfl rfl rfl rfl) rfl ?_
    exact deed_fin HY.out i64_0 i64_0 i0 i1 i2 i3 i4 (five_setD q5 (Nat.le_refl _)).2
  have g5 : ¬ (n : Int) < 5 := by omega
  have g4 : (4 : Int) ≤ (n : Int) := by omega
  have hsl : ∀ W, (Instr.sliceAt 74 (.slice (some ⟨A, 0, none⟩) n n) (some (.int .i64 5)) none none).run Tryz.prog W = .ok (.slice (if n = 5 then some ⟨A, 0, none⟩ else some ⟨A, 5 * 1, none⟩) (n - 5) (n - 5)) W := fun W => slice_from (P := Tryz.prog) (t := 74) (s := 1) (by kernel_rfl) (fun W => by kernel_rfl) A n n 5 (by omega) W
  obtain ⟨ao5, hao5⟩ : ∃ ao5, (if n = 5 then (some ⟨A, 0, none⟩ : Option Addr) else some ⟨A, 5 * 1, none⟩) = ao5 := ⟨_, rfl⟩
  rw [hao5] at hsl
  have hL2 : ((L.drop 2).take 2).length = 2 := by rw [List.length_take, List.length_drop, ← HN.out]; omega
  have hL5 : (L.drop 5).length = n - 5 := by rw [List.length_drop, ← HN.out]
  have hs2 : ∀ W, Below w.heap.size w W → SeesS W (some ⟨A, 2, none⟩) ((L.drop 2).take 2) := fun W hb => by
    obtain ⟨b, o, h1, h2⟩ := HS.out.below hb
    have e := h1 (by intro e; rw [e] at HN; have := HN.out; simp at this; omega)
    injection e with e; injection e with e1 e2 _
    subst e1; subst e2
    refine ⟨A, 2, fun _ => rfl, fun j x hx => ?_⟩
    rw [List.getElem?_take] at hx
    split at hx
    · rw [List.getElem?_drop] at hx
      have := h2 _ _ hx
      rwa [Nat.zero_add] at this
    · cases hx
  have hs5 : ∀ W, Below w.heap.size w W → SeesS W ao5 (L.drop 5) := fun W hb => by
    by_cases e5 : n = 5
    · have : L.drop 5 = [] := List.eq_nil_of_length_eq_zero (by rw [hL5]; omega)
      rw [this]
      exact ⟨0, 0, fun h => absurd rfl h, fun j x h => by simp at h⟩
    · obtain ⟨b, o, h1, h2⟩ := HS.out.below hb
      have e := h1 (by intro e; rw [e] at HN; have := HN.out; simp at this; omega)
      injection e with e; injection e with e1 e2 _
      subst e1; subst e2
      rw [if_neg e5] at hao5
      refine ⟨A, 5, fun _ => hao5.symm, fun j x hx => ?_⟩
      rw [List.getElem?_drop] at hx
      have := h2 _ _ hx
      rwa [Nat.zero_add] at this
  have HZ2 : ∀ x ∈ (L.drop 2).take 2, x.length ≤ 1048576 := fun x hx => HZ.out x (List.mem_of_mem_drop (List.mem_of_mem_take hx))
  have HZ5 : ∀ x ∈ L.drop 5, x.length ≤ 1048576 := fun x hx => HZ.out x (List.mem_of_mem_drop hx)
  have hnum2 : ∀ W, Below w.heap.size w W → Env W → Calls Tryz.prog 61 #[.slice (some ⟨A, 2, none⟩) 2 (n - 2)] W fun e w' => ∃ ao c q ns, e = .returned (.tuple #[.slice ao (if q then 2 else 0) c, .bool q]) ∧ Below W.heap.size W w' ∧ Hid (q = true → ∃ g, ao = some ⟨g, 0, none⟩ ∧ W.heap.size ≤ g ∧ NumAt w' g 0 ns ∧ ns.length = 2 ∧ ∀ x ∈ ns, I64 x) := fun W hb hE =>
    (numbers_any (some ⟨A, 2, none⟩) (n - 2) 2 _ W hL2.symm (hs2 W hb) (by rw [hL2]; omega) HZ2 hE).mono fun e w' hd => numsDo_tell hd hL2
  have hnum5 : ∀ W, Below w.heap.size w W → Env W → Calls Tryz.prog 61 #[.slice ao5 (n - 5) (n - 5)] W fun e w' => ∃ ao c m q ns, e = .returned (.tuple #[.slice ao m c, .bool q]) ∧ Below W.heap.size W w' ∧ Hid (m = ns.length ∧ m ≤ 1048577 ∧ (ns ≠ [] → ∃ g, ao = some ⟨g, 0, none⟩ ∧ W.heap.size ≤ g ∧ NumAt w' g 0 ns) ∧ ∀ x ∈ ns, I64 x) := fun W hb hE =>
    (numbers_any ao5 (n - 5) (n - 5) _ W hL5.symm (hs5 W hb) (by rw [hL5]; omega) HZ5 hE).mono fun e w' hd => numsDo_told hd (by omega)
  have HNUM2 := Lib.hid hnum2
  have HNUM5 := Lib.hid hnum5
  clear hL2 hL5 hs2 hs5 HZ2 HZ5 hnum2 hnum5 hao5 h5
  go_upto_region 7 with (go_at_call 61; go_must (refine (HNUM2.out _ HX.out.below (HE.out.below HX.out.below)).mono ?_; rintro e w2 ⟨ao2, c2, q2, ns2, rfl, hb2, hq2⟩; have HX2 := Lib.hid (HX.out.keep hb2); have HB2 := Lib.hid hb2; clear hb2))
  go_upto_region 8 with (go_at_call 61; go_must (refine (HNUM5.out _ HX2.out.below (HE.out.below HX2.out.below)).mono ?_; rintro e w3 ⟨ao3, c3, m3, q3, ns3, rfl, hb3, hq3⟩; have HX3 := Lib.hid (HX2.out.keep hb3); have HB3 := Lib.hid hb3; clear hb3))
  clear HNUM2 HNUM5 hsl
  by_cases hqq : (q2 && q3) = false
  · have hcase : q2 = false ∨ (q2 = true ∧ q3 = false) := by cases q2 <;> cases q3 <;> simp at hqq ⊢
    clear hqq
    rcases hcase with rfl | ⟨rfl, rfl⟩
    all_goals
      obtain ⟨d0, d1, d2, d3, d4, i0, i1, i2, i3, i4, q9⟩ := HX3.out.deed
      have c0 := cell_of_row _ _ 0 _ _ _ q9
      have c1 := cell_of_row _ _ 1 _ _ _ q9
      have c2 := cell_of_row _ _ 2 _ _ _ q9
      have c3 := cell_of_row _ _ 3 _ _ _ q9
      have c4 := cell_of_row _ _ 4 _ _ _ q9
      go_upto_region 9 with (fail)
      go_still_tail 4, (by kernel_rfl)
      change wpList _ _ _ _ _ w3.drew
      obtain ⟨Y, hY⟩ : ∃ Y, Y = w3.drew := ⟨_, rfl⟩
      rw [← hY]
      have HY := Lib.hid (hY ▸ HX3.out.drew)
      clear hY c0 c1 c2 c3 c4 q9
      obtain ⟨x0, x1, x2, x3, x4, q5⟩ := HY.out.five
      have y0 := cell_of_row _ _ 0 _ _ _ q5
      have y1 := cell_of_row _ _ 1 _ _ _ q5
      have y2 := cell_of_row _ _ 2 _ _ _ q5
      have y3 := cell_of_row _ _ 3 _ _ _ q5
      have y4 := cell_of_row _ _ 4 _ _ _ q5
      have yf := fun j => frozen_of_row Y _ j _ _ q5
      go_wp2
      refine bodyPost_ret_by (deed_leave (p := w.heap.size) (five_setD (B := w.heap.size) q5 (Nat.le_refl _)).1 rfl rfl rfl rfl rfl) rfl ?_
      exact deed_fin HY.out i64_0 i64_0 i0 i1 i2 i3 i4 (five_setD q5 (Nat.le_refl _)).2
  have hq2t : q2 = true := by cases q2 <;> simp at hqq ⊢
  have hq3t : q3 = true := by cases q3 <;> simp at hqq ⊢
  subst hq2t; subst hq3t
  obtain ⟨ga, rfl, hga, hna, hnl, hni⟩ := hq2.out rfl
  obtain ⟨l1, hl1⟩ : ∃ x, L[1]? = some x := ⟨_, List.getElem?_eq_getElem (by rw [← HN.out]; omega)⟩
  obtain ⟨l4, hl4⟩ : ∃ x, L[4]? = some x := ⟨_, List.getElem?_eq_getElem (by rw [← HN.out]; omega)⟩
  have hcell : ∀ W, Below w.heap.size w W → ∀ j x, L[j]? = some x → W.cell? ⟨A, j, none⟩ = some (.string (S x)) := fun W hb j x hx => by
    obtain ⟨b, o, h1, h2⟩ := HS.out.below hb
    have e := h1 (by intro e; rw [e] at hx; simp at hx)
    injection e with e; injection e with e1 e2 _
    subst e1; subst e2
    have := h2 j x hx
    rwa [Nat.zero_add] at this
  have HCELL := Lib.hid hcell
  have b1 := hcell w3 HX3.out.below 1 l1 hl1
  have b4 := hcell w3 HX3.out.below 4 l4 hl4
  have HL1 := Lib.hid hl1
  have HL1Z := Lib.hid (HZ.out l1 (List.mem_of_getElem? hl1))
  obtain ⟨v, hlook, hv⟩ := HX3.out.m1.look (t := 131) Tryz.underlying131 (zeroSl w3) l1 HL1Z.out
  have HNA := Lib.hid hna
  have HNI := Lib.hid hni
  have HNL := Lib.hid hnl
  have hp2 : p < w2.heap.size := by obtain ⟨_, _, _, _, _, _, _, _, _, _, h⟩ := HX2.out.deed; exact lt_of_block h
  have hgap : p < ga := by obtain ⟨_, _, _, _, _, _, _, _, _, _, h⟩ := HX.out.deed; have := lt_of_block h; omega
  clear hcell hl1 hl4 hqq hna hni hnl hq2
  rcases hv with ⟨rfl, _⟩ | ⟨hkey, g, rfl, hrow⟩
  · go_upto_region 11 with (fail)
    clear hlook
    go_loopw [57] (fun u wr => u = .int .i64 0 ∧ wr = w3) (fun _ _ => 0)
    case atStart => exact ⟨rfl, rfl⟩
    case round =>
      obtain ⟨rfl, rfl⟩ := hrel
      obtain ⟨d0, d1, d2, d3, d4, i0, i1, i2, i3, i4, q9⟩ := HX3.out.deed
      have c0 := cell_of_row _ _ 0 _ _ _ q9
      have c1 := cell_of_row _ _ 1 _ _ _ q9
      have c2 := cell_of_row _ _ 2 _ _ _ q9
      have c3 := cell_of_row _ _ 3 _ _ _ q9
      have c4 := cell_of_row _ _ 4 _ _ _ q9
      go_upto_region 18 with (fail)
      go_still_tail 4, (by kernel_rfl)
      change wpList _ _ _ _ _ wr.drew
      obtain ⟨Y, hY⟩ : ∃ Y, Y = wr.drew := ⟨_, rfl⟩
      rw [← hY]
      have HY := Lib.hid (hY ▸ HX3.out.drew)
      clear hY c0 c1 c2 c3 c4 q9
      obtain ⟨x0, x1, x2, x3, x4, q5⟩ := HY.out.five
      have y0 := cell_of_row _ _ 0 _ _ _ q5
      have y1 := cell_of_row _ _ 1 _ _ _ q5
      have y2 := cell_of_row _ _ 2 _ _ _ q5
      have y3 := cell_of_row _ _ 3 _ _ _ q5
      have y4 := cell_of_row _ _ 4 _ _ _ q5
      have yf := fun j => frozen_of_row Y _ j _ _ q5
      go_wp2
      refine bodyPost_ret_by (deed_leave (p := w.heap.size) (five_setD (B := w.heap.size) q5 (Nat.le_refl _)).1 rfl rfl rfl rfl rfl) rfl ?_
      exact deed_fin HY.out i64_0 i64_0 i0 i1 i2 i3 i4 (five_setD q5 (Nat.le_refl _)).2
  · go_upto_region 11 with (fail)
    clear hlook
    have HROW := Lib.hid hrow
    have HKEY := Lib.hid hkey
    clear hrow hkey
    go_loopw [57] (fun u wr => ∃ j : Nat, j ≤ 5 ∧ u = .int .i64 j ∧ wr = w3) (fun u _ => 5 - (intOf u).toNat)
    case atStart => exact ⟨0, by omega, rfl, rfl⟩
    case round =>
      obtain ⟨j, hj, rfl, rfl⟩ := hrel
      by_cases hlt : j < 5
      · obtain ⟨sj, cj⟩ := HROW.out.cell j hlt
        have t0 : (0 : Int) ≤ (j : Int) := by omega
        have t1 : (j : Int) < 5 := by omega
        by_cases hs4 : sj = l4
        · subst hs4
          have hcmp : ((S sj).toList == (S sj).toList) = true := by simp
          obtain ⟨v2, hlook2, hv2⟩ := HX3.out.m2.look (t := 132) Tryz.underlying132 (zeroSlI _) l1 HL1Z.out
          rcases hv2 with ⟨_, hno⟩ | ⟨_, g2, rfl, hrow2⟩
          · exact absurd rfl (hno l1 HKEY.out)
          obtain ⟨zj, cz⟩ := hrow2.cell j hlt
          by_cases hm : (m3 : Int) = zj
          · subst hm
            go_upto_region 14 with (fail)
            have ij : I64 ((j : Int) + 1) := by unfold I64; omega
            obtain ⟨y9, c9⟩ := HX3.out.deed.cells.1 0 (by omega)
            have f9 := HX3.out.deed.cells.2 0
            clear hcmp hlook2 cz cj
            go_upto_region 15 with (fail)
            refine wp_gen (fun V => TurnB p _ V ∧ DeedAt V p) ⟨TurnB.set _ _ _ _, HX3.out.deed.set 0 (by omega) _ ij⟩ ?_
            rintro V ⟨hTV, hDV⟩
            have HX4 := Lib.hid (HX3.out.turn hTV hDV)
            obtain ⟨hm3, hm3z, hn3, hi3⟩ := hq3.out
            obtain ⟨g3, hg3⟩ : ∃ g3, ns3 ≠ [] → ao3 = some ⟨g3, 0, none⟩ ∧ p < g3 ∧ NumAt V g3 0 ns3 := by
              by_cases e : ns3 = []
              · exact ⟨0, fun h => absurd e h⟩
              · obtain ⟨g3, e1, e2, e3⟩ := hn3 e
                exact ⟨g3, fun _ => ⟨e1, by omega, e3.turn hTV (by omega)⟩⟩
            have hpl : Calls Tryz.prog 75 #[.pointer (some ⟨p, 0, none⟩), .string (S l1), .slice ao3 m3 c3] V fun e w' => e = .returned (.tuple #[]) ∧ TurnB p V w' ∧ DeedAt w' p := by
              by_cases e : ns3 = []
              · exact place_any p l1 (p + 1) 0 c3 m3 ns3 ao3 V hDV hm3 (fun h => absurd e h) (by rw [e]; intro j x hx; simp at hx) (by omega) hi3 hm3z
              · obtain ⟨e1, e2, e3⟩ := hg3 e
                exact place_any p l1 g3 0 c3 m3 ns3 ao3 V hDV hm3 (fun _ => e1) e3 (by omega) hi3 hm3z
            have HPL := Lib.hid hpl
            have HNV := Lib.hid ((HNA.out.keep HB3.out).turn hTV (by omega))
            have b1v := HCELL.out V HX4.out.below 1 l1 HL1.out
            clear hq3 b1 b4 y9 c9 f9 hTV hDV hm3 hm3z hn3 hi3 hg3 hpl
            go_upto_region 16 with (go_at_call 75; go_must (refine HPL.out.mono ?_; rintro e w5 ⟨rfl, ht5, hd5⟩))
            have HX5 := Lib.hid (HX4.out.turn ht5 hd5)
            have hna5 := HNV.out.turn ht5 (by omega)
            obtain ⟨z0, hz0, iz0⟩ : ∃ x, ns2[0]? = some x ∧ I64 x := ⟨ns2[0]'(by have := HNL.out; omega), List.getElem?_eq_getElem (by have := HNL.out; omega), HNI.out _ (List.getElem_mem _)⟩
            obtain ⟨z1, hz1, iz1⟩ : ∃ x, ns2[1]? = some x ∧ I64 x := ⟨ns2[1]'(by have := HNL.out; omega), List.getElem?_eq_getElem (by have := HNL.out; omega), HNI.out _ (List.getElem_mem _)⟩
            have n0 := hna5 0 z0 hz0
            have n1 := hna5 1 z1 hz1
            rw [Nat.zero_add] at n0 n1
            have b1w := HCELL.out w5 HX5.out.below 1 l1 HL1.out
            obtain ⟨d0, d1, d2, d3, d4, i0, i1, i2, i3, i4, q9⟩ := HX5.out.deed
            have e0 := cell_of_row _ _ 0 _ _ _ q9
            have e1 := cell_of_row _ _ 1 _ _ _ q9
            have e2 := cell_of_row _ _ 2 _ _ _ q9
            have e3 := cell_of_row _ _ 3 _ _ _ q9
            have e4 := cell_of_row _ _ 4 _ _ _ q9
            clear b1v ht5 hd5 hna5 hz0 hz1
            have gi1 : (1 : Int) < (n : Int) := by omega
            go_still_tail 13, (by kernel_rfl)
            change wpList _ _ _ _ _ w5.drew
            obtain ⟨Y, hY⟩ : ∃ Y, Y = w5.drew := ⟨_, rfl⟩
            rw [← hY]
            have HY := Lib.hid (hY ▸ HX5.out.drew)
            clear hY e0 e1 e2 e3 e4 q9 n0 n1 b1w
            obtain ⟨x0, x1, x2, x3, x4, q5⟩ := HY.out.five
            have y0 := cell_of_row _ _ 0 _ _ _ q5
            have y1 := cell_of_row _ _ 1 _ _ _ q5
            have y2 := cell_of_row _ _ 2 _ _ _ q5
            have y3 := cell_of_row _ _ 3 _ _ _ q5
            have y4 := cell_of_row _ _ 4 _ _ _ q5
            have yf := fun j => frozen_of_row Y _ j _ _ q5
            go_wp2
            refine bodyPost_ret_by (deed_leave (p := w.heap.size) (five_setD (B := w.heap.size) q5 (Nat.le_refl _)).1 rfl rfl rfl rfl rfl) rfl ?_
            exact deed_fin HY.out iz0 iz1 i0 i1 i2 i3 i4 (five_setD q5 (Nat.le_refl _)).2
          · have hm2 : ((m3 : Int) == zj) = false := by simpa using hm
            clear hm
            go_wp2
            go_roundw
            case rel => exact ⟨j + 1, (by omega), (by go_num), trivial⟩
            case measure => simp [intOf]; omega
        · have hcmp : ((S sj).toList == (S l4).toList) = false := by
            rw [S_toL, S_toL]
            simpa using hs4
          clear hs4
          go_wp2
          go_roundw
          case rel => exact ⟨j + 1, (by omega), (by go_num), trivial⟩
          case measure => simp [intOf]; omega
      · obtain rfl : j = 5 := by omega
        obtain ⟨d0, d1, d2, d3, d4, i0, i1, i2, i3, i4, q9⟩ := HX3.out.deed
        have c0 := cell_of_row _ _ 0 _ _ _ q9
        have c1 := cell_of_row _ _ 1 _ _ _ q9
        have c2 := cell_of_row _ _ 2 _ _ _ q9
        have c3 := cell_of_row _ _ 3 _ _ _ q9
        have c4 := cell_of_row _ _ 4 _ _ _ q9
        go_upto_region 18 with (fail)
        go_still_tail 4, (by kernel_rfl)
        change wpList _ _ _ _ _ wr.drew
        obtain ⟨Y, hY⟩ : ∃ Y, Y = wr.drew := ⟨_, rfl⟩
        rw [← hY]
        have HY := Lib.hid (hY ▸ HX3.out.drew)
        clear hY c0 c1 c2 c3 c4 q9
        obtain ⟨x0, x1, x2, x3, x4, q5⟩ := HY.out.five
        have y0 := cell_of_row _ _ 0 _ _ _ q5
        have y1 := cell_of_row _ _ 1 _ _ _ q5
        have y2 := cell_of_row _ _ 2 _ _ _ q5
        have y3 := cell_of_row _ _ 3 _ _ _ q5
        have y4 := cell_of_row _ _ 4 _ _ _ q5
        have yf := fun j => frozen_of_row Y _ j _ _ q5
        go_wp2
        refine bodyPost_ret_by (deed_leave (p := w.heap.size) (five_setD (B := w.heap.size) q5 (Nat.le_refl _)).1 rfl rfl rfl rfl rfl) rfl ?_
        exact deed_fin HY.out i64_0 i64_0 i0 i1 i2 i3 i4 (five_setD q5 (Nat.le_refl _)).2
end Go.Proofs.YtoiokbdipcecnaaGreatDoor
namespace Go.Proofs.YtoiokbdipcecnaaGreatDoor
open Go.RowKit
set_option maxRecDepth 100000

/-- what a structure's Code tells -/
def CodeTold (w : World) (e : Ending) (w' : World) : Prop := Below w.heap.size w w' ∧ ∃ (g : Option Nat) (n c : Nat) (er : Int) (q : Prog),
  e = .returned (.tuple #[.slice (g.map fun g => ⟨g, 0, none⟩) n c, .int .i64 er]) ∧ OwnP w' w.heap.size (slV (g, n, c)) q ∧ q.length ≤ 100000
theorem told_prog {w w' : World} {e : Ending} {l : List (Int × Int)} (h : ∃ v, e = .returned (.tuple #[v, .int .i64 0]) ∧ w'.ownsRow w.heap.size 82 2 v l.length (instrCells l) ∧ Below w.heap.size w w') (hl : l.length ≤ 100000) : CodeTold w e w' := by
  obtain ⟨v, rfl, ho, hb⟩ := h
  obtain ⟨⟨g, n, c⟩, rfl⟩ := OwnP.slP (show OwnP w' w.heap.size v l from ho)
  exact ⟨hb, g, n, c, 0, l, rfl, ho, hl⟩
theorem told_no {w w' : World} {e : Ending} {er : Int} (h : e = .returned (.tuple #[.slice none 0 0, .int .i64 er]) ∧ Below w.heap.size w w') : CodeTold w e w' := by
  obtain ⟨rfl, hb⟩ := h
  exact ⟨hb, none, 0, 0, er, [], rfl, World.ownsRow_nil _ _ _ _, by simp⟩
theorem bankCode_told (b k d0 d1 d2 d3 d4 : Int) (w : World) (he : Env w) (hb : I64 b) : Calls Tryz.prog 76 #[.int .i64 b, .int .i64 k, .agg #[.int .i64 d0, .int .i64 d1, .int .i64 d2, .int .i64 d3, .int .i64 d4]] w (CodeTold w) :=
  (Kb.Code_any b k d0 d1 d2 d3 d4 w he hb.2).mono fun e w' hd => by
    unfold Kb.CodeDoes at hd
    split at hd
    · refine told_prog hd ?_
      unfold Kb.progL
      split <;> simp
    · exact told_no hd
theorem dequeCode_told (b k d0 d1 d2 d3 d4 : Int) (w : World) (he : Env w) (hb : I64 b) (hx : I64 d3) : Calls Tryz.prog 79 #[.int .i64 b, .int .i64 k, .agg #[.int .i64 d0, .int .i64 d1, .int .i64 d2, .int .i64 d3, .int .i64 d4]] w (CodeTold w) :=
  (Kq.Code_anyD b k d0 d1 d2 d3 d4 w he hb.2 hx.1 hx.2).mono fun e w' hd => by
    unfold Kq.CodeDoesD at hd
    split at hd
    · refine told_prog hd ?_
      unfold Kq.progLD
      split <;> first | (unfold Kq.progL1; simp) | (unfold Kq.progL2; simp) | (unfold Kq.progL3; simp) | (unfold Kq.progL4; simp) | (unfold Kq.progL5; simp)
    · exact told_no hd
theorem setCode_told (b k d0 d1 d2 d3 d4 : Int) (w : World) (he : Env w) (hb : I64 b) (hx : I64 d3) : Calls Tryz.prog 77 #[.int .i64 b, .int .i64 k, .agg #[.int .i64 d0, .int .i64 d1, .int .i64 d2, .int .i64 d3, .int .i64 d4]] w (CodeTold w) :=
  (Ks.Code_anyD b k d0 d1 d2 d3 d4 w he hb.2 hx.1 hx.2).mono fun e w' hd => by
    unfold Ks.CodeDoesD at hd
    split at hd
    · refine told_prog hd ?_
      unfold Ks.progLD
      split <;> first | (unfold Ks.progL1; simp) | (unfold Ks.progL2; simp) | (unfold Ks.progL3; simp) | (unfold Ks.progL4; simp) | (unfold Ks.progL5; simp)
    · exact told_no hd
theorem dictCode_told (b k d0 d1 d2 d3 d4 : Int) (w : World) (he : Env w) (hb : I64 b) (hx : I64 d3) (hy : I64 d4) : Calls Tryz.prog 78 #[.int .i64 b, .int .i64 k, .agg #[.int .i64 d0, .int .i64 d1, .int .i64 d2, .int .i64 d3, .int .i64 d4]] w (CodeTold w) := by
  cases h : Kd.codeOkD b k d0 d1 d2 d3 d4 with
  | false => exact (Kd.Code_noD b k d0 d1 d2 d3 d4 w hb.2 h).mono fun e w' hd => told_no hd
  | true =>
    obtain ⟨N, hN⟩ : ∃ N : Nat, k = (N : Int) := by
      have h2 := h
      simp only [Kd.codeOkD, Bool.and_eq_true, decide_eq_true_eq] at h2
      obtain ⟨⟨⟨hr, _⟩, _⟩, _⟩ := h2
      obtain ⟨_, h3, _⟩ := Kd.roomI_yes hr
      exact ⟨k.toNat, by omega⟩
    subst hN
    refine (Kd.Code_yesD b d0 d1 d2 d3 d4 N w he hx.1 hx.2 hy.1 hy.2 h).mono fun e w' hd => told_prog hd ?_
    unfold Kd.progLD
    split <;> first | (unfold Kd.progL1; simp) | (unfold Kd.progL2; simp) | (unfold Kd.progL3; simp) | (unfold Kd.progL4; simp) | (unfold Kd.progL5; simp)
set_option maxHeartbeats 2000000 in
theorem program_any (s : ByteArray) (b k d0 d1 d2 d3 d4 : Int) (w : World) (hb : I64 b) (h3 : I64 d3) (h4 : I64 d4) (he : Env w) :
    Calls Tryz.prog 54 #[.string s, .int .i64 b, .int .i64 k, .agg #[.int .i64 d0, .int .i64 d1, .int .i64 d2, .int .i64 d3, .int .i64 d4]] w (CodeTold w) := by
  obtain ⟨X, hX⟩ : ∃ X, X = w.alloc (.cells #[.int .i64 d0, .int .i64 d1, .int .i64 d2, .int .i64 d3, .int .i64 d4] 104) := ⟨_, rfl⟩
  have hq : X.heap[w.heap.size]? = some (.cells #[.int .i64 d0, .int .i64 d1, .int .i64 d2, .int .i64 d3, .int .i64 d4] 104) := by rw [hX]; exact heap_new w _ _ rfl
  have hbx : Below w.heap.size w X := by rw [hX]; exact (Below.refl _ _).alloc (Nat.le_refl _) _
  have c0 := cell_of_row _ _ 0 _ _ _ hq
  have c1 := cell_of_row _ _ 1 _ _ _ hq
  have c2 := cell_of_row _ _ 2 _ _ _ hq
  have c3 := cell_of_row _ _ 3 _ _ _ hq
  have c4 := cell_of_row _ _ 4 _ _ _ hq
  have hE := he.below hbx
  have form : ∀ {f : Nat}, Calls Tryz.prog f #[.int .i64 b, .int .i64 k, .agg #[.int .i64 d0, .int .i64 d1, .int .i64 d2, .int .i64 d3, .int .i64 d4]] X (CodeTold X) → Calls Tryz.prog f #[.int .i64 b, .int .i64 k, .agg #[.int .i64 d0, .int .i64 d1, .int .i64 d2, .int .i64 d3, .int .i64 d4]] X fun e w' => ∃ (g : Option Nat) (n c : Nat) (er : Int), e = .returned (.tuple #[.slice (g.map fun g => ⟨g, 0, none⟩) n c, .int .i64 er]) ∧
      Hid (CodeTold w (.returned (.tuple #[.slice (g.map fun g => ⟨g, 0, none⟩) n c, .int .i64 er])) w') := fun h => h.mono fun e w' ⟨h1, g, n, c, er, q, h2, h5, h6⟩ =>
    ⟨g, n, c, er, h2, Lib.hid ⟨hbx.trans (h1.mono hbx.size), g, n, c, er, q, rfl, h5.lower hbx.size, h6⟩⟩
  have HB := Lib.hid (form (bankCode_told b k d0 d1 d2 d3 d4 X hE hb))
  have HQ := Lib.hid (form (dequeCode_told b k d0 d1 d2 d3 d4 X hE hb h3))
  have HS := Lib.hid (form (setCode_told b k d0 d1 d2 d3 d4 X hE hb h3))
  have HD := Lib.hid (form (dictCode_told b k d0 d1 d2 d3 d4 X hE hb h3 h4))
  have HX := Lib.hid hX
  obtain ⟨t1, ht1⟩ : ∃ t, (s.toList == [98, 97, 110, 107]) = t := ⟨_, rfl⟩
  obtain ⟨t2, ht2⟩ : ∃ t, (s.toList == [115, 101, 116]) = t := ⟨_, rfl⟩
  obtain ⟨t3, ht3⟩ : ∃ t, (s.toList == [100, 105, 99, 116]) = t := ⟨_, rfl⟩
  clear form hE hbx hq hX he hb h3 h4
  go_enter Tryz.func54, Tryz.ntmps54
  go_upto_region 2 with (fail)
  rw [← HX.out]
  cases t1 with
  | true =>
    go_wp2_with (go_at_call 76; go_must (refine HB.out.mono ?_; rintro e w2 ⟨g, n, c, er, rfl, hd⟩))
    go_ret2
    exact hd.out
  | false =>
    cases t2 with
    | true =>
      go_wp2_with (go_at_call 77; go_must (refine HS.out.mono ?_; rintro e w2 ⟨g, n, c, er, rfl, hd⟩))
      go_ret2
      exact hd.out
    | false =>
      cases t3 with
      | true =>
        go_wp2_with (go_at_call 78; go_must (refine HD.out.mono ?_; rintro e w2 ⟨g, n, c, er, rfl, hd⟩))
        go_ret2
        exact hd.out
      | false =>
        go_wp2_with (go_at_call 79; go_must (refine HQ.out.mono ?_; rintro e w2 ⟨g, n, c, er, rfl, hd⟩))
        go_ret2
        exact hd.out
theorem doH : DoH :=
  ⟨fun A n L w hn h0 hn2 hs hz he => deed_any A n L w hn h0 hn2 hs hz he,
   fun s b k d0 d1 d2 d3 d4 w hb _ _ _ _ h3 h4 he => program_any s b k d0 d1 d2 d3 d4 w hb h3 h4 he⟩
end Go.Proofs.YtoiokbdipcecnaaGreatDoor
namespace Go.Proofs.YtoiokbdipcecnaaGreatDoor
open Go.RowKit
set_option maxRecDepth 100000

theorem endC_all (T : List (List UInt8)) : EndC T := fun _ _ _ _ _ _ _ _ _ _ he h1 h2 h3 h4 _ h6 => end_all doH he h1 h2 h3 h4 h6
theorem scrParse_far (t : List UInt8) (ht : 1048576 < t.length) (w : World) :
    Calls Tryz.prog 13 #[.string (S t)] w (PDoes t w) := by
  have hR : ParseR t (.error (234, 0)) := by unfold ParseR; rw [if_pos ht]
  have HR := Lib.hid hR
  have hsz : (S t).size = t.length := S_size _
  have hb : (1048576 : Int) < (t.length : Int) := by omega
  clear hR
  go_enter_defers Tryz.func13, Tryz.ntmps13
  go_wp2
  simp [bodyPostD, Leaves, results, Tryz.results13, go_sem]
  exact ⟨_, HR.out, rfl, (((Below.refl _ _).alloc (Nat.le_refl _) _).alloc (by simp) _).alloc (by simp; omega) _⟩
theorem scrParse_any (t : List UInt8) (w : World) (he : Env w) : Calls Tryz.prog 13 #[.string (S t)] w (PDoes t w) := by
  by_cases hl : 1048576 < t.length
  · exact scrParse_far t hl w
  · exact scrParse_in t (by omega) w he (endC_all _)
theorem fine_check {st : SS} {x : SV} (hf : Fine st) (hc : x.c = st.c) (hs : x.s = st.start) (hp : progsV x.P = st.progs) (hk : x.k = st.picks) (hd : x.d = st.drain) : x.check = 0 := by
  unfold SV.check scrCheckS
  rw [hc, hs, hp, hk, hd, if_neg (by rw [hf.cfg]; simp), if_neg (by have := hf.s; omega), if_neg (by have := hf.pg; omega), if_neg (fun h => h (badP_zero.2 hf.ck)), if_neg (by have := hf.pk; have := hf.dr; omega)]
theorem linesR_er {st : SS} {k : Nat} {L : List (List UInt8)} {res : Except (Int × Int) SS} (h : LinesR st k L res) : ∀ er ln, res = .error (er, ln) → er ≠ 0 := by
  induction h with
  | nil st k => intro er ln e; cases e
  | err h1 => intro er ln e; injection e with e; subst e; exact h1.er
  | ok _ _ ih => exact ih
theorem parseR_er {t : List UInt8} {er ln : Int} (h : ParseR t (.error (er, ln))) : er ≠ 0 := by
  unfold ParseR at h
  split at h
  · injection h with h; injection h with h _; omega
  · obtain ⟨r1, h1, h2⟩ := h
    cases r1 with
    | error y =>
      obtain ⟨e1, l1⟩ := y
      unfold andFin at h2
      injection h2 with h2; injection h2 with h2 _
      subst h2
      exact linesR_er h1 _ _ rfl
    | ok st =>
      unfold andFin finS at h2
      simp only at h2
      repeat' split at h2
      all_goals first
        | (injection h2 with h2; injection h2 with h2 _; omega)
        | (cases h2; done)
/-- what Parse answers is what Check takes -/
theorem Parse_checked (t : List UInt8) (w : World) (he : Env w) : Calls Tryz.prog 13 #[.string (S t)] w fun e w' =>
    ∃ (a0 a1 a2 a3 a4 a5 d : Int) (so po ko : Option Addr) (l1 l2 l3 sc pc kc : Nat) (ln er K : Int), e = .returned (.tuple #[.agg #[.int .i64 a0, .int .i64 a1, .int .i64 a2, .int .i64 a3, .int .i64 a4, .int .i64 a5, .slice so l1 sc, .slice po l2 pc, .slice ko l3 kc, .int .i64 d], .int .i64 ln, .int .i64 er]) ∧ Below w.heap.size w w' ∧ Hid (er = 0 → K = 0) ∧
      Hid (∀ W, Below w'.heap.size w' W → Calls Tryz.prog 9 #[.agg #[.int .i64 a0, .int .i64 a1, .int .i64 a2, .int .i64 a3, .int .i64 a4, .int .i64 a5, .slice so l1 sc, .slice po l2 pc, .slice ko l3 kc, .int .i64 d]] W fun e W' => e = .returned (.int .i64 K) ∧ Below W.heap.size W W') := by
  refine (scrParse_any t w he).mono ?_
  rintro e w' ⟨res, hR, hd⟩
  cases res with
  | error y =>
    obtain ⟨er, ln⟩ := y
    refine ⟨0, 0, 0, 0, 0, 0, 0, none, none, none, 0, 0, 0, 0, 0, 0, ln, er, 1, hd.1, hd.2, Lib.hid fun h => absurd h (parseR_er hR), Lib.hid fun W _ => ?_⟩
    have hck := scrCheck_any zeroSV W ⟨Sees.nil _ _, SeesR.nil _ _, Sees.nil _ _, fun y hy => (by cases hy), (by decide), (by decide), (by decide)⟩
    rw [zero_check] at hck
    exact hck
  | ok st =>
    obtain ⟨vs, vp, vk, vb, pv, rfl, h1, h2⟩ := hd
    have hf := hR.fine
    obtain ⟨x, e1, e2, e3, e4, e5, e6, e7⟩ := h1.sv hf
    refine ⟨_, _, _, _, _, _, _, _, _, _, _, _, _, _, _, _, 0, 0, 0, by rw [e1]; rfl, h2, Lib.hid fun _ => rfl, Lib.hid fun W hb => ?_⟩
    have hck := scrCheck_any x W (e2.below hb)
    rw [fine_check hf e3 e4 e5 e6 e7] at hck
    exact hck
set_option maxHeartbeats 8000000 in
theorem ScriptBack_any (x : SV) (t : List UInt8) (w : World) (he : Env w) (h : x.Sees w) (hi : x.In) :
    Calls Tryz.prog 6 #[x.v, .string (S t)] w fun e w' => e = .returned (.bool true) ∧ Below w.heap.size w w' := by
  have hP : ∀ p ∈ progsV x.P, InI p := fun p hp => by
    obtain ⟨y, hy, rfl⟩ := List.mem_map.1 hp
    exact hi.p y hy
  have hc := fun W (hb : Below w.heap.size w W) => scrCheck_any x W (h.below hb)
  have hp := fun W (hb : Below w.heap.size w W) => scrPrint_any x W (he.below hb) (h.below hb) hi
  have hpa := fun W (hb : Below w.heap.size w W) => Parse_checked t W (he.below hb)
  have hback : x.check = 0 → x.print = (x.text, 0) → ∀ W, Below w.heap.size w W → Calls Tryz.prog 13 #[.string (S x.text)] W fun e w' => ∃ (a0 a1 a2 a3 a4 a5 d : Int) (so po ko : Option Addr) (l1 l2 l3 sc pc kc : Nat), e = .returned (.tuple #[.agg #[.int .i64 a0, .int .i64 a1, .int .i64 a2, .int .i64 a3, .int .i64 a4, .int .i64 a5, .slice so l1 sc, .slice po l2 pc, .slice ko l3 kc, .int .i64 d], .int .i64 0, .int .i64 0]) ∧ Below W.heap.size W w' ∧
      Hid (∀ W', Below w'.heap.size w' W' → Below w.heap.size w W' → Calls Tryz.prog 14 #[.agg #[.int .i64 a0, .int .i64 a1, .int .i64 a2, .int .i64 a3, .int .i64 a4, .int .i64 a5, .slice so l1 sc, .slice po l2 pc, .slice ko l3 kc, .int .i64 d], x.v] W' fun e w'' => e = .returned (.bool true) ∧ Below W'.heap.size W' w'') := fun h0 hpr W hb => by
    have hlen : (scrText x.c x.s (progsV x.P) x.k x.d).length ≤ 1048576 := by
      unfold SV.print scrPrintS at hpr
      rw [if_pos (show scrCheckS x.c x.s (progsV x.P) x.k x.d = 0 from h0)] at hpr
      by_cases hz : 1048576 < (scrText x.c x.s (progsV x.P) x.k x.d).length
      · rw [if_pos hz] at hpr; injection hpr with _ hpr; omega
      · omega
    obtain ⟨hnd, st, hps, hrd⟩ := parse_back h0 hi.s hi.k hP hlen
    exact (Parse_as (x := x) hnd hlen hps hrd W (he.below hb)).mono fun e w' ⟨y, e1, e2, e3, e4⟩ =>
      ⟨_, _, _, _, _, _, _, _, _, _, _, _, _, _, _, _, e1, e4, Lib.hid fun W' h1 h2 => Same_yes y x W' (e2.below h1) (h.below h2) e3⟩
  have hpf : (x.check ≠ 0 ∧ x.print = ([], x.check)) ∨ (x.check = 0 ∧ x.print = (x.text, 0)) ∨ (x.check = 0 ∧ x.print = ([], 234)) := by
    unfold SV.print scrPrintS
    by_cases h0 : x.check = 0
    · rw [if_pos (show scrCheckS x.c x.s (progsV x.P) x.k x.d = 0 from h0)]
      by_cases hz : 1048576 < (scrText x.c x.s (progsV x.P) x.k x.d).length
      · rw [if_pos hz]; exact .inr (.inr ⟨h0, rfl⟩)
      · rw [if_neg hz]; exact .inr (.inl ⟨h0, rfl⟩)
    · rw [if_neg (show ¬ scrCheckS x.c x.s (progsV x.P) x.k x.d = 0 from h0)]; exact .inl ⟨h0, rfl⟩
  obtain ⟨K, hK⟩ : ∃ K, x.check = K := ⟨_, rfl⟩
  obtain ⟨TX, hTX⟩ : ∃ TX, x.text = TX := ⟨_, rfl⟩
  obtain ⟨PT, PE, hPR⟩ : ∃ PT PE, x.print = (PT, PE) := ⟨_, _, rfl⟩
  rw [hK, hTX, hPR] at hpf
  rw [hK, hPR, hTX] at hback
  rw [hPR] at hp
  rw [hK] at hc
  unfold SV.v at hc hp hback ⊢
  generalize x.c.getD 0 0 = c0 at *
  generalize x.c.getD 1 0 = c1 at *
  generalize x.c.getD 2 0 = c2 at *
  generalize x.c.getD 3 0 = c3 at *
  generalize x.c.getD 4 0 = c4 at *
  generalize x.c.getD 5 0 = c5 at *
  generalize x.s.length = ns at *
  generalize x.P.length = np at *
  generalize x.k.length = nk at *
  have HC := Lib.hid hc
  have HP := Lib.hid hp
  have HPA := Lib.hid hpa
  have HBACK := Lib.hid hback
  have HE := Lib.hid he
  have HPF := Lib.hid hpf
  clear hc hp hpa hback he h hi hP hpf hK hTX hPR
  go_enter Tryz.func6, Tryz.ntmps6
  go_upto_region 2 with (go_at_call 8; go_must (refine (awake23_any _ (HE.out.below ((Below.refl _ _).alloc (Nat.le_refl _) _))).mono ?_; rintro e w1 ⟨rfl, hb1⟩))
  have q1 := (hb1.block _ (by simp)).trans (heap_new w _ w.heap.size rfl)
  have HB1 := Lib.hid (((Below.refl _ _).alloc (Nat.le_refl _) _).trans (hb1.mono (by simp)) : Below w.heap.size w w1)
  have Q1 := Lib.hid q1
  have k0 := cell_of_row _ _ 0 _ _ _ q1
  have k1 := cell_of_row _ _ 1 _ _ _ q1
  have k2 := cell_of_row _ _ 2 _ _ _ q1
  have k3 := cell_of_row _ _ 3 _ _ _ q1
  have k4 := cell_of_row _ _ 4 _ _ _ q1
  have k5 := cell_of_row _ _ 5 _ _ _ q1
  have k6 := cell_of_row _ _ 6 _ _ _ q1
  have k7 := cell_of_row _ _ 7 _ _ _ q1
  have k8 := cell_of_row _ _ 8 _ _ _ q1
  have k9 := cell_of_row _ _ 9 _ _ _ q1
  have hlw : w.heap.size < w1.heap.size := lt_of_block q1
  clear hb1 q1
  go_upto_region 3 with (go_at_call 11; go_must (refine (HP.out _ HB1.out).mono ?_; rintro e w2 ⟨rfl, hb2⟩))
  have HB2 := Lib.hid (HB1.out.trans (hb2.mono HB1.out.size))
  have q2 := (hb2.block _ hlw).trans Q1.out
  clear k0 k1 k2 k3 k4 k5 k6 k7 k8 k9
  have Q2 := Lib.hid q2
  have k0 := cell_of_row _ _ 0 _ _ _ q2
  have k1 := cell_of_row _ _ 1 _ _ _ q2
  have k2 := cell_of_row _ _ 2 _ _ _ q2
  have k3 := cell_of_row _ _ 3 _ _ _ q2
  have k4 := cell_of_row _ _ 4 _ _ _ q2
  have k5 := cell_of_row _ _ 5 _ _ _ q2
  have k6 := cell_of_row _ _ 6 _ _ _ q2
  have k7 := cell_of_row _ _ 7 _ _ _ q2
  have k8 := cell_of_row _ _ 8 _ _ _ q2
  have k9 := cell_of_row _ _ 9 _ _ _ q2
  have hlw2 : w.heap.size < w2.heap.size := lt_of_block q2
  clear hb2 q2
  go_upto_if 26 with (go_at_call 9; go_must (refine (HC.out _ HB2.out).mono ?_; rintro e w3 ⟨rfl, hb3⟩))
  have HB3 := Lib.hid (HB2.out.trans (hb3.mono HB2.out.size))
  have Q3 := Lib.hid ((hb3.block _ hlw2).trans Q2.out)
  clear k0 k1 k2 k3 k4 k5 k6 k7 k8 k9 hb3
  go_cut [] (fun wx => Below w.heap.size w wx)
  case first =>
    rcases HPF.out with ⟨h0, e⟩ | ⟨h0, e⟩ | ⟨h0, e⟩
    · injection e with e1 e2
      subst e1; subst e2
      have h1 : (PE != 0) = true := by simpa using h0
      have hse : ((S []).toList == []) = true := by rw [S_toL]; rfl
      clear h0
      go_wp2
      go_meet
      exact HB3.out
    · injection e with e1 e2
      subst e1; subst e2; subst h0
      have HBK := Lib.hid (HBACK.out rfl rfl)
      go_upto_region 9 with (go_at_call 13; go_must (refine (HBK.out _ HB3.out).mono ?_; rintro e w7 ⟨a0, a1, a2, a3, a4, a5, yd, so, po, ko, l1, l2, l3, sc, pc, kc, rfl, hb7, hsm⟩))
      refine wp_gen (fun W => W.heap[w7.heap.size]? = some (.cells #[.int .i64 a0, .int .i64 a1, .int .i64 a2, .int .i64 a3, .int .i64 a4, .int .i64 a5, .slice so l1 sc, .slice po l2 pc, .slice ko l3 kc, .int .i64 yd] 29) ∧ Below w7.heap.size w7 W) ⟨heap_new _ _ _ rfl, (Below.refl _ _).alloc (Nat.le_refl _) _⟩ ?_
      rintro W ⟨hq, hBW⟩
      have hB7 := HB3.out.trans (hb7.mono HB3.out.size)
      have HBW := Lib.hid (hB7.trans (hBW.mono hB7.size))
      have hq0 := (hBW.block _ (by have := lt_of_block Q3.out; have := hb7.size; omega)).trans ((hb7.block _ (lt_of_block Q3.out)).trans Q3.out)
      have m0 := cell_of_row _ _ 0 _ _ _ hq
      have m1 := cell_of_row _ _ 1 _ _ _ hq
      have m2 := cell_of_row _ _ 2 _ _ _ hq
      have m3 := cell_of_row _ _ 3 _ _ _ hq
      have m4 := cell_of_row _ _ 4 _ _ _ hq
      have m5 := cell_of_row _ _ 5 _ _ _ hq
      have m6 := cell_of_row _ _ 6 _ _ _ hq
      have m7 := cell_of_row _ _ 7 _ _ _ hq
      have m8 := cell_of_row _ _ 8 _ _ _ hq
      have m9 := cell_of_row _ _ 9 _ _ _ hq
      have k0 := cell_of_row _ _ 0 _ _ _ hq0
      have k1 := cell_of_row _ _ 1 _ _ _ hq0
      have k2 := cell_of_row _ _ 2 _ _ _ hq0
      have k3 := cell_of_row _ _ 3 _ _ _ hq0
      have k4 := cell_of_row _ _ 4 _ _ _ hq0
      have k5 := cell_of_row _ _ 5 _ _ _ hq0
      have k6 := cell_of_row _ _ 6 _ _ _ hq0
      have k7 := cell_of_row _ _ 7 _ _ _ hq0
      have k8 := cell_of_row _ _ 8 _ _ _ hq0
      have k9 := cell_of_row _ _ 9 _ _ _ hq0
      have HBW7 := Lib.hid hBW
      clear hq hq0 hBW hB7 hb7
      go_wp2_with (go_at_call 14; go_must (refine (hsm.out _ HBW7.out HBW.out).mono ?_; rintro e w8 ⟨rfl, hb8⟩))
      go_meet
      exact HBW.out.trans (hb8.mono HBW.out.size)
    · injection e with e1 e2
      subst e1; subst e2; subst h0
      have hse : ((S []).toList == []) = true := by rw [S_toL]; rfl
      go_wp2
      go_meet
      exact HB3.out
  case rest =>
    have HBC := Lib.hid hcut
    go_upto_region 15 with (go_at_call 13; go_must (refine (HPA.out _ HBC.out).mono ?_; rintro e w7 ⟨a0, a1, a2, a3, a4, a5, yd, so, po, ko, l1, l2, l3, sc, pc, kc, ln, er, KK, rfl, hb7, hk7, hck⟩))
    refine wp_gen (fun W => W.heap[w7.heap.size]? = some (.cells #[.int .i64 a0, .int .i64 a1, .int .i64 a2, .int .i64 a3, .int .i64 a4, .int .i64 a5, .slice so l1 sc, .slice po l2 pc, .slice ko l3 kc, .int .i64 yd] 29) ∧ Below w7.heap.size w7 W) ⟨heap_new _ _ _ rfl, (Below.refl _ _).alloc (Nat.le_refl _) _⟩ ?_
    rintro W ⟨hq, hBW⟩
    have hB7 := HBC.out.trans (hb7.mono HBC.out.size)
    have HBW := Lib.hid (hB7.trans (hBW.mono hB7.size))
    have m0 := cell_of_row _ _ 0 _ _ _ hq
    have m1 := cell_of_row _ _ 1 _ _ _ hq
    have m2 := cell_of_row _ _ 2 _ _ _ hq
    have m3 := cell_of_row _ _ 3 _ _ _ hq
    have m4 := cell_of_row _ _ 4 _ _ _ hq
    have m5 := cell_of_row _ _ 5 _ _ _ hq
    have m6 := cell_of_row _ _ 6 _ _ _ hq
    have m7 := cell_of_row _ _ 7 _ _ _ hq
    have m8 := cell_of_row _ _ 8 _ _ _ hq
    have m9 := cell_of_row _ _ 9 _ _ _ hq
    have HBW7 := Lib.hid hBW
    clear hq hBW hB7 hb7
    by_cases her : er = 0
    · have hk := hk7.out her
      subst her; subst hk
      go_wp2_with (go_at_call 9; go_must (refine (hck.out _ HBW7.out).mono ?_; rintro e w8 ⟨rfl, hb8⟩))
      go_ret
      exact ⟨rfl, HBW.out.trans (hb8.mono HBW.out.size)⟩
    · have her2 : (er != 0) = true := by simpa using her
      clear her
      go_wp2_with (go_at_call 9; go_must (refine (hck.out _ HBW7.out).mono ?_; rintro e w8 ⟨rfl, hb8⟩))
      go_ret
      exact ⟨rfl, HBW.out.trans (hb8.mono HBW.out.size)⟩
open Go.ChangeShapes Go.WideShapes Go.ChangeAt in
theorem scriptBack_law {H : Type} (enc : TypeId × Value → H) {W : World} {base : Nat} {args : Array Value} {ds gs : List (DataW H)} {before : List MemPlace}
    (hval : ∀ (j : Nat) t v, Tryz.f6.params[j]? = some t → args[j]? = some v → Value.okWide Tryz.prog W .any base t v)
    (hW : DataW.Whole enc Tryz.prog Tryz.f6.params.toList Rows.scriptBackSpec.vars false W args.toList ds gs before)
    (_hreach : (DataW.weightsEach Tryz.prog (Tryz.f6.params.toList ++ (OpenSpec.ofChange Rows.scriptBackSpec).bare.plain.varTypes Tryz.prog) (ds ++ gs)).all (· ≤ reachBytes) = true) (he : Env W) :
    Calls Tryz.prog 6 args W fun e W' => ∃ v, e = .returned v ∧ Rows.scriptBackSpec.post enc Tryz.prog Tryz.f6 false true false false W args v W' := by
  have hW' := hW
  obtain ⟨p, q, hA0, hV, rfl, hfz, hnd⟩ := hW
  have hA : DataW.TrodAll enc Tryz.prog W 0 (fun _ => true) true Tryz.f6.params.toList args.toList ds p := hA0
  rw [Tryz.params6] at hA hval
  obtain ⟨v0, v1, d0, d1, p0, p1, rfl, rfl, rfl, h0, h1⟩ := trodAll_two hA
  obtain ⟨x, rfl, hs, hi⟩ := script_open (hval 0 _ _ rfl rfl) h0
  obtain ⟨s, rfl, rfl, rfl, _⟩ := Go.ChangeMaps.open_string Tryz.underlying9 (hval 1 _ _ rfl rfl) h1
  obtain ⟨t, rfl⟩ : ∃ t : List UInt8, s = S t := ⟨s.data.toList, by apply ByteArray.ext; simp [S]⟩
  exact (ScriptBack_any x t W he hs hi).mono fun e w' ⟨h1, h2⟩ => ⟨_, h1, law_post laidOut hW' rfl rfl rfl Tryz.underlying4 (by kernel_rfl) h2⟩
end Go.Proofs.YtoiokbdipcecnaaGreatDoor
