/-
  quash/quashlaw23.ScriptNoise at a script that may be: it answers true. Condition: what it sees in memory.
  And: ScriptNoise: the walk, the law. Condition: what it sees in memory.
  And: WHAT THE READING OF A SLICE OF INTS GIVES. No condition.
-/
import Derived.Test.YtoiokbdipcecnaaGreatDoorLaw
import Derived.Test.YtoiokbdipcecnaaGreatDoorSees
import Derived.Test.YtoiokbdipcecnaaGreatDoorScriptPrintsWalk
import Derived.Test.YtoiokbdipcecnaaGreatDoorScrText
import Derived.Test.YtoiokbdipcecnaaGreatDoorScrSame
namespace Go.Proofs.YtoiokbdipcecnaaGreatDoor
open Go.ChangeShapes Go.WideShapes Go.ChangeAt Go.RowKit
set_option maxRecDepth 100000

section
variable {H : Type} {enc : TypeId × Value → H} {W : World} {sp : Nat → Bool}
theorem cellsInt' : Tryz.prog.cellsOf 3 = 1 := by kernel_rfl
/-- a slice of int that came in -/
theorem intsI_open {b0 : Nat} {v : Value} {d : DataW H} {p : List MemPlace} (hv : Value.okWide Tryz.prog W .any b0 27 v) (h : DataW.Trod enc Tryz.prog W 0 (fun _ => true) true 27 v d p) :
    (v = .slice none 0 0 ∧ d = .nil) ∨ ∃ (ad : Addr) (c : Nat) (zs ys : List Int), v = .slice (some ad) zs.length c ∧ Sees W (some ad) zs ∧ zs.length ≤ c ∧ c ≤ maxLen ∧ (∀ z ∈ zs, -9223372036854775808 ≤ z ∧ z ≤ 9223372036854775807) ∧ ys.length = c ∧ d = .slice (lits .i64 zs) (lits .i64 (ys.drop zs.length)) := by
  obtain ⟨a, len, cap, rfl⟩ := okWide_slice Tryz.underlying27 hv
  obtain ⟨n, hf⟩ := h
  rcases open_ints Tryz.underlying27 Tryz.underlying3 cellsInt' hf with ⟨hcs, hx⟩ | ⟨a', len', cap', ys, hcs, _, hl, hm, hz, hx, hcell, hwz⟩
  · simp [Value.cells] at hcs
    obtain ⟨rfl, rfl, rfl⟩ := hcs
    simp only [Prod.mk.injEq] at hx
    exact Or.inl ⟨rfl, hx.1⟩
  · simp [Value.cells] at hcs
    obtain ⟨rfl, rfl, rfl⟩ := hcs
    simp only [Prod.mk.injEq] at hx
    simp only [if_true] at hz
    refine Or.inr ⟨a', cap, ys.take len, ys, by rw [List.length_take, Nat.min_eq_left (by omega)], ?_, by rw [List.length_take, Nat.min_eq_left (by omega)]; exact hl, hm, fun z hzm => ?_, hz, by rw [List.length_take, Nat.min_eq_left (by omega)]; exact hx.1⟩
    · by_cases h0 : ys.length = 0
      · have : ys.take len = [] := by rw [List.eq_nil_of_length_eq_zero h0]; simp
        rw [this]; exact Sees.nil _ _
      · obtain ⟨b, off, rfl, hc⟩ := Go.ints_at hcell (by omega)
        refine Sees.cells fun j hj => ?_
        have hj2 : j < len := by rw [List.length_take] at hj; omega
        rw [hc j (by omega), List.getD_eq_getElem?_getD, List.getD_eq_getElem?_getD, List.getElem?_take, if_pos hj2]
    · have hw := hwz z (List.mem_of_mem_take hzm)
      simp [Lit.wf, IntKind.min, IntKind.max, IntKind.signed, IntKind.bits] at hw
      exact ⟨by omega, by omega⟩
end
theorem bytesI : (Tryz.prog.bytesOf 3) = 8 := by kernel_rfl
end Go.Proofs.YtoiokbdipcecnaaGreatDoor
namespace Go.Proofs.YtoiokbdipcecnaaGreatDoor
open Go.RowKit
set_option maxRecDepth 100000

/-- a text that is read as a script: what Parse answers -/
theorem Parse_as {x : SV} {t : List UInt8} (hn : ∀ l ∈ linesL 10 t, noDo l = true) (ht : t.length ≤ 1048576) {st : SS} (hp : parseS t = .ok st) (hr : Read (cfgN x.c) x.s (progsV x.P) x.k x.d 4 0 st) (w : World) (he : Env w) :
    Calls Tryz.prog 13 #[.string (S t)] w fun e w' => ∃ y : SV, e = .returned (.tuple #[y.v, .int .i64 0, .int .i64 0]) ∧ y.Sees w' ∧ y.Alike x ∧ Below w.heap.size w w' := by
  refine (Parse_no t w (by omega) he hn).mono ?_
  rintro e w' h
  unfold PSDoes at h
  rw [hp] at h
  obtain ⟨vs, vp, vk, vb, pv, rfl, h1, h2, h3⟩ := h
  obtain ⟨y, e1, e2, e3, e4, e5, e6, e7⟩ := h1.sv h2
  rw [e1]
  refine ⟨y, rfl, e2, ⟨fun i hi => ?_, e4.trans hr.s, e5.trans hr.P, e6.trans hr.k, e7.trans hr.d⟩, h3⟩
  rw [e3, hr.c]
  match i, hi with
  | 0, _ => rfl
  | 1, _ => rfl
  | 2, _ => rfl
  | 3, _ => rfl
  | 4, _ => rfl
  | 5, _ => rfl
theorem scrText_len {c s : List Int} {P : List Prog} {k : List Int} {d : Int} (h : scrCheckS c s P k d = 0) (hs : InZ s) (hk : InZ k) (hP : ∀ p ∈ P, InI p) (hl : k.length ≤ 2000) : (scrText c s P k d).length + 650 ≤ 1048576 := by
  obtain ⟨h1, h2, h3, h4, h5, h6, h7, h8⟩ := scrCheck_zero h
  obtain ⟨hc, hc1, hc2⟩ := cfgB_in h1
  have a1 : (headT c).length ≤ 6 + 6 * 22 + 1 := rowL_len hc
  have a2 : (startT s).length ≤ 5 + 256 * 22 + 1 := by
    unfold startT
    split
    · simp
    · have := rowL_len (word := [115, 116, 97, 114, 116]) hs
      have : s.length ≤ 256 := by omega
      simp only [List.length_cons, List.length_nil] at *
      omega
  have a3 : (linesT P).length ≤ P.length * 11611 := linesT_len fun p hp => ⟨hP p hp, (checkL_ok (h5 p hp)).2.1⟩
  have a4 : (picksT k).length ≤ 5 + 2000 * 22 + 1 := by
    unfold picksT
    split
    · simp
    · have := rowL_len (word := [112, 105, 99, 107, 115]) hk
      simp only [List.length_cons, List.length_nil] at *
      omega
  have a5 : (drainT d).length ≤ 5 + 22 + 1 := by
    have := rowL_len (word := [100, 114, 97, 105, 110]) (ns := [d]) (fun x hx => by simp at hx; subst hx; omega)
    simpa [drainT] using this
  unfold scrText
  rw [List.length_append, List.length_append, List.length_append, List.length_append]
  omega
set_option maxHeartbeats 8000000 in
theorem ScriptNoise_off (x : SV) (ao : Option Addr) (n cp : Nat) (w : World) (he : Env w) (h : x.Sees w) (h0 : x.check ≠ 0 ∨ 2000 < x.k.length) :
    Calls Tryz.prog 7 #[x.v, .slice ao n cp] w fun e w' => e = .returned (.bool true) ∧ Below w.heap.size w w' := by
  have hc := fun W (hb : Below w.heap.size w W) => scrCheck_any x W (h.below hb)
  obtain ⟨K, hK⟩ : ∃ K, x.check = K := ⟨_, rfl⟩
  rw [hK] at hc h0
  unfold SV.v at hc ⊢
  generalize x.c.getD 0 0 = c0 at *
  generalize x.c.getD 1 0 = c1 at *
  generalize x.c.getD 2 0 = c2 at *
  generalize x.c.getD 3 0 = c3 at *
  generalize x.c.getD 4 0 = c4 at *
  generalize x.c.getD 5 0 = c5 at *
  generalize x.s.length = ns at *
  generalize x.P.length = np at *
  generalize x.k.length = nk at *
  have HC := Lib.hid hc
  have HE := Lib.hid he
  clear hc he h hK
  go_enter Tryz.func7, Tryz.ntmps7
  go_upto_region 2 with (go_at_call 8; go_must (refine (awake23_any _ (HE.out.below ((Below.refl _ _).alloc (Nat.le_refl _) _))).mono ?_; rintro e w1 ⟨rfl, hb1⟩))
  have q1 := (hb1.block _ (by simp)).trans (heap_new w _ w.heap.size rfl)
  have HB1 := Lib.hid (((Below.refl _ _).alloc (Nat.le_refl _) _).trans (hb1.mono (by simp)) : Below w.heap.size w w1)
  have Q1 := Lib.hid q1
  have k0 := cell_of_row _ _ 0 _ _ _ q1
  have k1 := cell_of_row _ _ 1 _ _ _ q1
  have k2 := cell_of_row _ _ 2 _ _ _ q1
  have k3 := cell_of_row _ _ 3 _ _ _ q1
  have k4 := cell_of_row _ _ 4 _ _ _ q1
  have k5 := cell_of_row _ _ 5 _ _ _ q1
  have k6 := cell_of_row _ _ 6 _ _ _ q1
  have k7 := cell_of_row _ _ 7 _ _ _ q1
  have k8 := cell_of_row _ _ 8 _ _ _ q1
  have k9 := cell_of_row _ _ 9 _ _ _ q1
  have hlw : w.heap.size < w1.heap.size := lt_of_block q1
  clear hb1 q1
  go_upto_region 3 with (go_at_call 9; go_must (refine (HC.out _ HB1.out).mono ?_; rintro e w2 ⟨rfl, hb2⟩))
  have HB2 := Lib.hid (HB1.out.trans (hb2.mono HB1.out.size))
  have q2 := (hb2.block _ hlw).trans Q1.out
  clear k0 k1 k2 k3 k4 k5 k6 k7 k8 k9
  have k8 := cell_of_row _ _ 8 _ _ _ q2
  clear hb2 q2
  by_cases hz : K = 0
  · subst hz
    have hk : (2000 : Int) < (nk : Int) := by rcases h0 with h0 | h0 <;> omega
    clear h0
    go_wp2
    go_ret
    exact ⟨rfl, HB2.out⟩
  · have hz1 : (K == 0) = false := by simpa using hz
    have hz2 : (K != 0) = true := by simpa using hz
    clear h0
    go_wp2
    go_ret
    exact ⟨rfl, HB2.out⟩
end Go.Proofs.YtoiokbdipcecnaaGreatDoor
namespace Go.Proofs.YtoiokbdipcecnaaGreatDoor
open Go.RowKit
set_option maxRecDepth 100000

theorem noise_plain {zs : List Int} {k i : Nat} {t : List UInt8} {b : UInt8} (h : t[i]? = some b) (hb : b ≠ 10) : noiseT zs k (t.drop i) = b :: noiseT zs k (t.drop (i + 1)) := by
  obtain ⟨h1, h2⟩ := List.getElem?_eq_some_iff.1 h
  rw [List.drop_eq_getElem_cons h1, h2, noiseT, if_neg hb]
theorem noise_break {zs : List Int} {k i : Nat} {t : List UInt8} (h : t[i]? = some 10) : noiseT zs k (t.drop i) = 10 :: (noiseA (zs.take 50) ((k + 1 : Nat) : Int) ++ noiseT zs (k + 1) (t.drop (i + 1))) := by
  obtain ⟨h1, h2⟩ := List.getElem?_eq_some_iff.1 h
  rw [List.drop_eq_getElem_cons h1, h2, noiseT, if_pos rfl]
theorem noiseA_at {zs : List Int} {j : Nat} {i : Int} (h : j < zs.length) (h5 : j < 50) : noiseA ((zs.take 50).drop j) i = (if zs.getD j 0 = i then noiseB else []) ++ noiseA ((zs.take 50).drop (j + 1)) i := by
  have hl : j < (zs.take 50).length := by simp; omega
  rw [List.drop_eq_getElem_cons hl, noiseA]
  congr 2
  simp [List.getD, List.getElem?_eq_getElem h]
theorem noiseA_end {zs : List Int} {j : Nat} {i : Int} (h : zs.length ≤ j ∨ 50 ≤ j) : noiseA ((zs.take 50).drop j) i = [] := by
  rw [List.drop_eq_nil_of_le (by simp; omega), noiseA]
set_option maxHeartbeats 8000000 in
theorem ScriptNoise_on (x : SV) (ao : Option Addr) (n cp : Nat) (zs : List Int) (w : World) (he : Env w) (h : x.Sees w) (hi : x.In) (hs : Sees w ao zs) (hn : n = zs.length) (h0 : x.check = 0) (h1 : x.k.length ≤ 2000) :
    Calls Tryz.prog 7 #[x.v, .slice ao n cp] w fun e w' => e = .returned (.bool true) ∧ Below w.heap.size w w' := by
  have hP : ∀ p ∈ progsV x.P, InI p := fun p hp => by
    obtain ⟨y, hy, rfl⟩ := List.mem_map.1 hp
    exact hi.p y hy
  have hlen := scrText_len h0 hi.s hi.k hP h1
  have hpr : x.print = (x.text, 0) := by
    unfold SV.print scrPrintS
    rw [if_pos (show scrCheckS x.c x.s (progsV x.P) x.k x.d = 0 from h0), if_neg (by show ¬ 1048576 < (scrText x.c x.s (progsV x.P) x.k x.d).length; omega)]
    rfl
  have hc := fun W (hb : Below w.heap.size w W) => scrCheck_any x W (h.below hb)
  have hp := fun W (hb : Below w.heap.size w W) => scrPrint_any x W (he.below hb) (h.below hb) hi
  obtain ⟨hnd, st, hps, hrd⟩ := parse_noise h0 hi.s hi.k hP zs hlen
  have hNTl : (noiseT zs 0 (scrText x.c x.s (progsV x.P) x.k x.d)).length ≤ 1048576 := Nat.le_trans (noise_small _ _) hlen
  have hpa : ∀ W, Below w.heap.size w W → Calls Tryz.prog 13 #[.string (S (noiseT zs 0 (scrText x.c x.s (progsV x.P) x.k x.d)))] W fun e w' => ∃ (a0 a1 a2 a3 a4 a5 d : Int) (so po ko : Option Addr) (l1 l2 l3 sc pc kc : Nat), e = .returned (.tuple #[.agg #[.int .i64 a0, .int .i64 a1, .int .i64 a2, .int .i64 a3, .int .i64 a4, .int .i64 a5, .slice so l1 sc, .slice po l2 pc, .slice ko l3 kc, .int .i64 d], .int .i64 0, .int .i64 0]) ∧ Below W.heap.size W w' ∧
      Hid (∀ W', Below w'.heap.size w' W' → Below w.heap.size w W' → Calls Tryz.prog 14 #[.agg #[.int .i64 a0, .int .i64 a1, .int .i64 a2, .int .i64 a3, .int .i64 a4, .int .i64 a5, .slice so l1 sc, .slice po l2 pc, .slice ko l3 kc, .int .i64 d], x.v] W' fun e w'' => e = .returned (.bool true) ∧ Below W'.heap.size W' w'') := fun W hb =>
    (Parse_as (x := x) hnd hNTl hps hrd W (he.below hb)).mono fun e w' ⟨y, e1, e2, e3, e4⟩ =>
      ⟨_, _, _, _, _, _, _, _, _, _, _, _, _, _, _, _, e1, e4, Lib.hid fun W' h1 h2 => Same_yes y x W' (e2.below h1) (h.below h2) e3⟩
  rw [hpr] at hp
  rw [h0] at hc
  obtain ⟨TX, hTX⟩ : ∃ TX, x.text = TX := ⟨_, rfl⟩
  rw [hTX] at hp
  have hTX2 : scrText x.c x.s (progsV x.P) x.k x.d = TX := hTX
  rw [hTX2] at hpa hNTl hlen
  obtain ⟨NT, hNT⟩ : ∃ NT, noiseT zs 0 TX = NT := ⟨_, rfl⟩
  rw [hNT] at hpa hNTl
  have hne : NT ≠ [] := by
    intro e
    rw [e] at hNT
    have h5 : 0 < TX.length := by
      rw [← hTX2]
      unfold scrText drainT rowL
      simp
      omega
    cases TX with
    | nil => simp at h5
    | cons b r => rw [noiseT] at hNT; split at hNT <;> simp at hNT
  have HNE := Lib.hid hne
  obtain ⟨TS, hTS⟩ : ∃ TS, TS = S TX := ⟨_, rfl⟩
  have hsz : TS.size = TX.length := by rw [hTS, S_size]
  have hbyte : ∀ (i : Nat) (hlt : i < TS.size), ∃ b : UInt8, TX[i]? = some b ∧ TS[i]'hlt = b := fun i hlt => by
    subst hTS
    have hl : i < TX.length := by omega
    refine ⟨TX[i], List.getElem?_eq_getElem hl, ?_⟩
    simp [S, ByteArray.getElem_eq_getElem_data]
  rw [← hTS] at hp
  have HBY := Lib.hid hbyte
  have HSZ := Lib.hid hsz
  have HNT := Lib.hid hNT
  have HZ := Lib.hid hs
  have HN := Lib.hid hn
  have hszl : TS.size ≤ 1048576 := by omega
  unfold SV.v at hc hp hpa ⊢
  have hnk : (x.k.length : Int) ≤ 2000 := by omega
  generalize x.c.getD 0 0 = c0 at *
  generalize x.c.getD 1 0 = c1 at *
  generalize x.c.getD 2 0 = c2 at *
  generalize x.c.getD 3 0 = c3 at *
  generalize x.c.getD 4 0 = c4 at *
  generalize x.c.getD 5 0 = c5 at *
  generalize x.s.length = ns at *
  generalize x.P.length = np at *
  generalize x.k.length = nk at *
  have HC := Lib.hid hc
  have HP := Lib.hid hp
  have HPA := Lib.hid hpa
  have HE := Lib.hid he
  have HLEN := Lib.hid hlen
  have HNTL := Lib.hid hNTl
  clear hc hp hpa he h hi hs hn h0 h1 hP hlen hpr hnd hps hrd hNTl hTX hTX2 hNT hne hTS hsz hbyte
  go_enter Tryz.func7, Tryz.ntmps7
  go_upto_region 2 with (go_at_call 8; go_must (refine (awake23_any _ (HE.out.below ((Below.refl _ _).alloc (Nat.le_refl _) _))).mono ?_; rintro e w1 ⟨rfl, hb1⟩))
  have q1 := (hb1.block _ (by simp)).trans (heap_new w _ w.heap.size rfl)
  have HB1 := Lib.hid (((Below.refl _ _).alloc (Nat.le_refl _) _).trans (hb1.mono (by simp)) : Below w.heap.size w w1)
  have Q1 := Lib.hid q1
  have k0 := cell_of_row _ _ 0 _ _ _ q1
  have k1 := cell_of_row _ _ 1 _ _ _ q1
  have k2 := cell_of_row _ _ 2 _ _ _ q1
  have k3 := cell_of_row _ _ 3 _ _ _ q1
  have k4 := cell_of_row _ _ 4 _ _ _ q1
  have k5 := cell_of_row _ _ 5 _ _ _ q1
  have k6 := cell_of_row _ _ 6 _ _ _ q1
  have k7 := cell_of_row _ _ 7 _ _ _ q1
  have k8 := cell_of_row _ _ 8 _ _ _ q1
  have k9 := cell_of_row _ _ 9 _ _ _ q1
  have hlw : w.heap.size < w1.heap.size := lt_of_block q1
  clear hb1 q1
  go_upto_region 3 with (go_at_call 9; go_must (refine (HC.out _ HB1.out).mono ?_; rintro e w2 ⟨rfl, hb2⟩))
  have HB2 := Lib.hid (HB1.out.trans (hb2.mono HB1.out.size))
  have q2 := (hb2.block _ hlw).trans Q1.out
  clear k0 k1 k2 k3 k4 k5 k6 k7 k8 k9
  have Q2 := Lib.hid q2
  have k0 := cell_of_row _ _ 0 _ _ _ q2
  have k1 := cell_of_row _ _ 1 _ _ _ q2
  have k2 := cell_of_row _ _ 2 _ _ _ q2
  have k3 := cell_of_row _ _ 3 _ _ _ q2
  have k4 := cell_of_row _ _ 4 _ _ _ q2
  have k5 := cell_of_row _ _ 5 _ _ _ q2
  have k6 := cell_of_row _ _ 6 _ _ _ q2
  have k7 := cell_of_row _ _ 7 _ _ _ q2
  have k8 := cell_of_row _ _ 8 _ _ _ q2
  have k9 := cell_of_row _ _ 9 _ _ _ q2
  have hlw2 : w.heap.size < w2.heap.size := lt_of_block q2
  clear hb2 q2
  go_upto_region 5 with (fail)
  go_upto_region 6 with (go_at_call 11; go_must (refine (HP.out _ HB2.out).mono ?_; rintro e w3 ⟨rfl, hb3⟩))
  have HB3 := Lib.hid (HB2.out.trans (hb3.mono HB2.out.size))
  have Q3 := Lib.hid ((hb3.block _ hlw2).trans Q2.out)
  clear k0 k1 k2 k3 k4 k5 k6 k7 k8 k9 hb3
  go_wp2
  go_loopw [9, 10, 11] (fun v ln u wr => ∃ (i k : Nat) (pre : List UInt8), i ≤ TS.size ∧ k ≤ i ∧ u = .int .i64 i ∧ ln = .int .i64 k ∧ OwnB wr w3.heap.size v pre ∧ pre ++ noiseT zs k (TX.drop i) = NT ∧ Below w3.heap.size w3 wr) (fun _ _ u _ => TS.size - (intOf u).toNat)
  case atStart => exact ⟨0, 0, [], Nat.zero_le _, Nat.le_refl _, rfl, rfl, World.ownsRow_nil _ _ _ _, by rw [List.drop_zero]; exact HNT.out, Below.refl _ _⟩
  case round =>
    obtain ⟨i, k, pre, hiN, hki, rfl, rfl, hown, hpre, hB⟩ := hrel
    obtain ⟨aov, nv, cv, rfl, hnv⟩ := hown.form'
    have HO := Lib.hid hown
    have HB := Lib.hid hB
    have HPRE := Lib.hid hpre
    have hprel : pre.length ≤ 1048576 := by
      have e := congrArg List.length hpre
      rw [List.length_append] at e
      have := HNTL.out
      omega
    have hz := hB.size
    clear hown hB hpre hnv
    by_cases hlt : i < TS.size
    · obtain ⟨b, hb1, hb2⟩ := HBY.out i hlt
      obtain ⟨z, hzb⟩ : ∃ z : Int, z = (b.toNat : Int) := ⟨_, rfl⟩
      have hi0 : (0 : Int) ≤ (i : Int) := by omega
      have hi1 : (i : Int) < (TS.size : Int) := by omega
      have hix : ∀ W, (Instr.index 9 (.string TS) (.int .i64 (i : Int))).run Tryz.prog W = .ok (.int .u8 z) W := fun W => by
        rw [run_index_string W _ _ _ _ Tryz.underlying9, dif_pos ⟨hi0, hi1⟩]
        simp only [Int.toNat_natCast]
        rw [hb2, hzb]
      have HX := Lib.hid hb1
      have HZB := Lib.hid hzb
      clear hb1 hb2 hzb
      go_upto_region 14 with (at_builtin; go_must (refine wpList_app1 (HO.out.below ((Below.refl _ _).alloc (Nat.le_refl _) _)) (by simp; omega) _ b z _ (heap_new _ _ _ rfl) HZB.out (by omega) rfl _ _ rfl rfl rfl ?_; intro v5 w5 hown5 hgrow5; have HB5 := Lib.hid ((HB.out.alloc hz _).grown hgrow5 (by simp; omega) (fun k hk => own_ge HO.out hk)); have HO5 := Lib.hid hown5; clear hown5 hgrow5))
      have hz5 := HB5.out.size
      have hkn : (k : Int) ≤ 1048576 := by omega
      by_cases hz10 : z = 10
      · subst hz10
        obtain rfl : b = 10 := UInt8.toNat_inj.1 (by have := HZB.out; show b.toNat = 10; omega)
        have hbr := noise_break (zs := zs) (k := k) HX.out
        have e0 := HPRE.out
        rw [hbr] at e0
        have HE0 := Lib.hid (show (pre ++ [10]) ++ (noiseA ((zs.take 50).drop 0) ((k + 1 : Nat) : Int) ++ noiseT zs (k + 1) (TX.drop (i + 1))) = NT by rw [← e0, List.drop_zero]; simp)
        clear hbr e0
        go_wp2
        go_loopw [9, 12] (fun v u wr => ∃ (m : Nat) (p2 : List UInt8), m ≤ n ∧ m ≤ 50 ∧ u = .int .i64 m ∧ OwnB wr w3.heap.size v p2 ∧ p2 ++ (noiseA ((zs.take 50).drop m) ((k + 1 : Nat) : Int) ++ noiseT zs (k + 1) (TX.drop (i + 1))) = NT ∧ Below w3.heap.size w3 wr) (fun _ u _ => 50 - (intOf u).toNat)
        case atStart => exact ⟨0, _, Nat.zero_le _, Nat.zero_le _, rfl, HO5.out, HE0.out, HB5.out⟩
        case round =>
          obtain ⟨m, p2, hmn, hm5, rfl, hown2, hp2, hBi⟩ := hrel
          obtain ⟨aow, nw, cw, rfl, hnw⟩ := hown2.form'
          have HO6 := Lib.hid hown2
          have HB6 := Lib.hid hBi
          have HP2 := Lib.hid hp2
          have hp2l : p2.length ≤ 1048576 := by
            have e := congrArg List.length hp2
            rw [List.length_append] at e
            have := HNTL.out
            omega
          have hz6 := hBi.size
          have hm0 : (0 : Int) ≤ (m : Int) := by omega
          clear hown2 hBi hp2 hnw
          by_cases hin : m < n ∧ m < 50
          · obtain ⟨g1, g2⟩ := hin
            have hmz : m < zs.length := by rw [← HN.out]; exact g1
            obtain ⟨bz, oz, hza, hzc⟩ := HZ.out.below (HB3.out.trans (HB6.out.mono HB3.out.size))
            obtain rfl := hza (by intro e; rw [e] at hmz; simp at hmz)
            have cz := hzc m hmz
            have hat := noiseA_at (i := ((k + 1 : Nat) : Int)) hmz g2
            generalize zs.getD m 0 = y at cz hat
            have g3 : (m : Int) < (n : Int) := by omega
            have g4 : (m : Int) < 50 := by omega
            have HAT := Lib.hid hat
            clear hzc hat
            by_cases hy : y = ((k + 1 : Nat) : Int)
            · have e1 := HAT.out
              rw [if_pos hy] at e1
              have e2 := HP2.out
              rw [e1] at e2
              have HE2 := Lib.hid (show (p2 ++ noiseB) ++ (noiseA ((zs.take 50).drop (m + 1)) ((k + 1 : Nat) : Int) ++ noiseT zs (k + 1) (TX.drop (i + 1))) = NT by rw [← e2]; simp)
              have hy2 : y = (k : Int) + 1 := by omega
              subst hy2
              clear e1 e2 hy
              go_wp2_with (at_builtin; go_must (refine wpList_appS HO6.out hz6 noiseB (by simp [noiseB]; omega) rfl _ _ rfl rfl rfl ?_; intro v7 w7 hown7 hgrow7; have HB7 := Lib.hid (HB6.out.grown hgrow7 hz6 (fun k hk => own_ge HO6.out hk)); have HO7 := Lib.hid hown7; clear hown7 hgrow7))
              go_roundw
              case rel => exact ⟨m + 1, _, (by omega), (by omega), (by go_num), HO7.out, HE2.out, HB7.out⟩
              case measure => simp [intOf]; omega
            · have e1 := HAT.out
              rw [if_neg hy] at e1
              have e2 := HP2.out
              rw [e1] at e2
              have HE2 := Lib.hid (show p2 ++ (noiseA ((zs.take 50).drop (m + 1)) ((k + 1 : Nat) : Int) ++ noiseT zs (k + 1) (TX.drop (i + 1))) = NT by rw [← e2]; simp)
              have hy2 : (y == (k : Int) + 1) = false := by simp; omega
              clear e1 e2 hy
              go_wp2
              go_roundw
              case rel => exact ⟨m + 1, _, (by omega), (by omega), (by go_num), HO6.out, HE2.out, HB6.out⟩
              case measure => simp [intOf]; omega
          · have e2 := HP2.out
            rw [noiseA_end (by rw [← HN.out]; omega), List.nil_append] at e2
            have HE2 := Lib.hid e2
            clear e2
            have fin : ∀ {P : Prop}, P → P := fun h => h
            by_cases g1 : m < n
            · have g2 : ¬ (m : Int) < 50 := by omega
              have g3 : (m : Int) < (n : Int) := by omega
              go_wp2
              go_roundw
              case rel => exact ⟨i + 1, k + 1, _, (by omega), (by omega), (by go_num), (by go_num), HO6.out, HE2.out, HB6.out⟩
              case measure => simp [intOf]; omega
            · have g3 : ¬ (m : Int) < (n : Int) := by omega
              go_wp2
              go_roundw
              case rel => exact ⟨i + 1, k + 1, _, (by omega), (by omega), (by go_num), (by go_num), HO6.out, HE2.out, HB6.out⟩
              case measure => simp [intOf]; omega
      · have hb10 : b ≠ 10 := by
          intro e
          subst e
          exact hz10 HZB.out
        have hpl := noise_plain (zs := zs) (k := k) HX.out hb10
        have e0 := HPRE.out
        rw [hpl] at e0
        have HE0 := Lib.hid (show (pre ++ [b]) ++ noiseT zs k (TX.drop (i + 1)) = NT by rw [← e0]; simp)
        have hzt : (z != 10) = true := by simpa using hz10
        clear hpl e0 hz10
        go_wp2
        go_roundw
        case rel => exact ⟨i + 1, k, _, (by omega), (by omega), (by go_num), rfl, HO5.out, HE0.out, HB5.out⟩
        case measure => simp [intOf]; omega
    · obtain rfl : i = TS.size := by omega
      have e0 := HPRE.out
      rw [List.drop_eq_nil_of_le (by rw [HSZ.out]; exact Nat.le_refl _), noiseT, List.append_nil] at e0
      subst e0
      obtain ⟨g9, hv9⟩ : ∃ g, aov = some ⟨g, 0, none⟩ := by
        obtain ⟨a9, c9, e9, hsome⟩ := HO.out.form
        injection e9 with e1 _ e2
        clear e2
        obtain ⟨g, hg⟩ := hsome (by intro e; exact HNE.out (List.eq_nil_of_length_eq_zero e))
        exact ⟨g, e1.trans hg⟩
      subst hv9
      obtain rfl : nv = pre.length := by
        obtain ⟨a9, c9, e9, _⟩ := HO.out.form
        injection e9 with _ e2 _
      have hcv := run_convert_bytes_back (P := Tryz.prog) wr 42 9 5 ⟨g9, 0, none⟩ cv pre Tryz.underlying42 Tryz.underlying5 Tryz.underlying9 (fun j hj => by
        rw [Addr.add_lit, Nat.zero_add]
        refine (HO.out.cellAt j (by omega)).trans ?_
        simp [Lib.byteCells, List.getElem?_eq_getElem hj])
      have hBw7 := HB3.out.trans (HB.out.mono HB3.out.size)
      go_upto_region 22 with (go_at_call 13; go_must (refine (HPA.out _ hBw7).mono ?_; rintro e w7 ⟨a0, a1, a2, a3, a4, a5, yd, so, po, ko, l1, l2, l3, sc, pc, kc, rfl, hb7, hsm⟩))
      refine wp_gen (fun W => W.heap[w7.heap.size]? = some (.cells #[.int .i64 a0, .int .i64 a1, .int .i64 a2, .int .i64 a3, .int .i64 a4, .int .i64 a5, .slice so l1 sc, .slice po l2 pc, .slice ko l3 kc, .int .i64 yd] 29) ∧ Below w7.heap.size w7 W) ⟨heap_new _ _ _ rfl, (Below.refl _ _).alloc (Nat.le_refl _) _⟩ ?_
      rintro W ⟨hq, hBW⟩
      have hB7 := hBw7.trans (hb7.mono hBw7.size)
      have HBW := Lib.hid (hB7.trans (hBW.mono hB7.size))
      have hltb : w.heap.size < w3.heap.size := lt_of_block Q3.out
      have hq0 := ((((HB.out.trans (hb7.mono HB.out.size)).trans (hBW.mono (by have := HB.out.size; have := hb7.size; omega))).block _ hltb)).trans Q3.out
      have m0 := cell_of_row _ _ 0 _ _ _ hq
      have m1 := cell_of_row _ _ 1 _ _ _ hq
      have m2 := cell_of_row _ _ 2 _ _ _ hq
      have m3 := cell_of_row _ _ 3 _ _ _ hq
      have m4 := cell_of_row _ _ 4 _ _ _ hq
      have m5 := cell_of_row _ _ 5 _ _ _ hq
      have m6 := cell_of_row _ _ 6 _ _ _ hq
      have m7 := cell_of_row _ _ 7 _ _ _ hq
      have m8 := cell_of_row _ _ 8 _ _ _ hq
      have m9 := cell_of_row _ _ 9 _ _ _ hq
      have k0 := cell_of_row _ _ 0 _ _ _ hq0
      have k1 := cell_of_row _ _ 1 _ _ _ hq0
      have k2 := cell_of_row _ _ 2 _ _ _ hq0
      have k3 := cell_of_row _ _ 3 _ _ _ hq0
      have k4 := cell_of_row _ _ 4 _ _ _ hq0
      have k5 := cell_of_row _ _ 5 _ _ _ hq0
      have k6 := cell_of_row _ _ 6 _ _ _ hq0
      have k7 := cell_of_row _ _ 7 _ _ _ hq0
      have k8 := cell_of_row _ _ 8 _ _ _ hq0
      have k9 := cell_of_row _ _ 9 _ _ _ hq0
      have HBW7 := Lib.hid hBW
      clear hq hq0 hBW hB7 hb7 hBw7 hcv
      go_wp2_with (go_at_call 14; go_must (refine (hsm.out _ HBW7.out HBW.out).mono ?_; rintro e w8 ⟨rfl, hb8⟩))
      go_ret
      exact ⟨rfl, HBW.out.trans (hb8.mono HBW.out.size)⟩
theorem ScriptNoise_any (x : SV) (ao : Option Addr) (n cp : Nat) (zs : List Int) (w : World) (he : Env w) (h : x.Sees w) (hi : x.In) (hs : Sees w ao zs) (hn : n = zs.length) :
    Calls Tryz.prog 7 #[x.v, .slice ao n cp] w fun e w' => e = .returned (.bool true) ∧ Below w.heap.size w w' := by
  by_cases h0 : x.check = 0
  · by_cases h1 : x.k.length ≤ 2000
    · exact ScriptNoise_on x ao n cp zs w he h hi hs hn h0 h1
    · exact ScriptNoise_off x ao n cp w he h (.inr (by omega))
  · exact ScriptNoise_off x ao n cp w he h (.inl h0)
open Go.ChangeShapes Go.WideShapes Go.ChangeAt in
theorem scriptNoise_law {H : Type} (enc : TypeId × Value → H) {W : World} {base : Nat} {args : Array Value} {ds gs : List (DataW H)} {before : List MemPlace}
    (hval : ∀ (j : Nat) t v, Tryz.f7.params[j]? = some t → args[j]? = some v → Value.okWide Tryz.prog W .any base t v)
    (hW : DataW.Whole enc Tryz.prog Tryz.f7.params.toList Rows.scriptNoiseSpec.vars false W args.toList ds gs before)
    (_hreach : (DataW.weightsEach Tryz.prog (Tryz.f7.params.toList ++ (OpenSpec.ofChange Rows.scriptNoiseSpec).bare.plain.varTypes Tryz.prog) (ds ++ gs)).all (· ≤ reachBytes) = true) (he : Env W) :
    Calls Tryz.prog 7 args W fun e W' => ∃ v, e = .returned v ∧ Rows.scriptNoiseSpec.post enc Tryz.prog Tryz.f7 false true false false W args v W' := by
  have hW' := hW
  obtain ⟨p, q, hA0, hV, rfl, hfz, hnd⟩ := hW
  have hA : DataW.TrodAll enc Tryz.prog W 0 (fun _ => true) true Tryz.f7.params.toList args.toList ds p := hA0
  rw [Tryz.params7] at hA hval
  obtain ⟨v0, v1, d0, d1, p0, p1, rfl, rfl, rfl, h0, h1⟩ := trodAll_two hA
  obtain ⟨x, rfl, hs, hi⟩ := script_open (hval 0 _ _ rfl rfl) h0
  obtain ⟨ao, n, c, zs, rfl, hz, hn⟩ : ∃ ao n c zs, v1 = .slice ao n c ∧ Sees W ao zs ∧ n = zs.length := by
    rcases intsI_open (hval 1 _ _ rfl rfl) h1 with ⟨rfl, rfl⟩ | ⟨ad, c, zs, ys, rfl, hs, hzc, _⟩
    · exact ⟨none, 0, 0, [], rfl, Sees.nil _ _, rfl⟩
    · exact ⟨some ad, _, c, zs, rfl, hs, rfl⟩
  exact (ScriptNoise_any x ao n c zs W he hs hi hz hn).mono fun e w' ⟨h1, h2⟩ => ⟨_, h1, law_post laidOut hW' rfl rfl rfl Tryz.underlying4 (by kernel_rfl) h2⟩
end Go.Proofs.YtoiokbdipcecnaaGreatDoor
