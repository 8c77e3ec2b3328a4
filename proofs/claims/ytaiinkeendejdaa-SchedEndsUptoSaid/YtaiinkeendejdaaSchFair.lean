/-
  quash/quashlaw04.SchedFair: what stands behind the call of Play, alone. No condition.
-/
import Derived.Test.YtaiinkeendejdaaSchFairS
import Derived.Test.YtaiinkeendejdaaSchSome
import Derived.BigQuiet
namespace Go.Proofs.Ytaiinkeendejdaa
open Go.RowKit
set_option maxRecDepth 100000
noncomputable def bodyFair : Code := (Try.f8).body.getD .skip
noncomputable def restFair : Code := match bodyFair with | .seq _ (.seq _ (.seq _ (.seq _ (.seq _ c)))) => c | _ => .skip
theorem fair_lone : codeC (opW Try.prog (fun f => lones.contains f) (bare 0)) restFair = true := by kernel_rfl
/-- the two rows: who has ended, how often each was picked -/
structure FairSt (eb pb n : Nat) (l k : List Mk) (w : World) : Prop where
  ends : ∀ t : Nat, t ≤ n → w.cell? ⟨eb, t, none⟩ = some (.bool (endP l t))
  cnts : ∀ t : Nat, t ≤ n → w.cell? ⟨pb, t, none⟩ = some (.int .i64 (cntP k t : Nat))
  warm : ∀ i, w.frozen? ⟨eb, i, none⟩ = false ∧ w.frozen? ⟨pb, i, none⟩ = false
theorem FairSt.drew {eb pb n : Nat} {l k : List Mk} {w : World} (h : FairSt eb pb n l k w) (d : Nat) : FairSt eb pb n l k (w.drewN d) := ⟨h.ends, h.cnts, h.warm⟩
theorem cntP_le (l : List Mk) (t : Int) : cntP l t ≤ l.length := List.countP_le_length
theorem FairSt.pick {eb pb n T : Nat} {l : List Mk} {x : Mk} {w : World} (h : FairSt eb pb n l l w) (hne : eb ≠ pb) (hT : T ≤ n) (hx : x.2.1 = (T : Int)) : FairSt eb pb n l (l ++ [x]) (w.setCell ⟨pb, T, none⟩ (.int .i64 ((cntP l T : Nat) + 1))) :=
  ⟨fun t ht => (World.cell?_setCell_other _ _ _ _ (fun e => hne (congrArg Addr.block e).symm)).trans (h.ends t ht), fun t ht => by
    rw [cntP_app, hx]
    by_cases e : t = T
    · subst e
      rw [World.cell?_setCell_same _ _ _ (h.cnts t ht)]
      simp
    · rw [World.cell?_setCell_other _ _ _ _ (fun e' => e (congrArg Addr.off e').symm), if_neg (by simp; omega), Nat.add_zero]
      exact h.cnts t ht,
   fun i => ⟨(frozen_setCell _ _ _ _).trans (h.warm i).1, (frozen_setCell _ _ _ _).trans (h.warm i).2⟩⟩
theorem FairSt.ended {eb pb n T : Nat} {l k : List Mk} {x : Mk} {w : World} (h : FairSt eb pb n l k w) (hne : eb ≠ pb) (hT : T ≤ n) (hx : x.2.1 = (T : Int)) (hl : endP l T = false) : FairSt eb pb n (l ++ [x]) k (w.setCell ⟨eb, T, none⟩ (.bool (x.2.2 == 4))) :=
  ⟨fun t ht => by
    rw [endP_app, hx]
    by_cases e : t = T
    · subst e
      rw [World.cell?_setCell_same _ _ _ (h.ends t ht), hl]
      simp
    · rw [World.cell?_setCell_other _ _ _ _ (fun e' => e (congrArg Addr.off e').symm), h.ends t ht]
      have : ((T : Int) == (t : Int)) = false := by simp; omega
      rw [this]; simp,
   fun t ht => (World.cell?_setCell_other _ _ _ _ (fun e => hne (congrArg Addr.block e))).trans (h.cnts t ht),
   fun i => ⟨(frozen_setCell _ _ _ _).trans (h.warm i).1, (frozen_setCell _ _ _ _).trans (h.warm i).2⟩⟩
theorem fairSt_start {w W : World} {n : Nat} {t1 t2 : TypeId} (hn : n ≤ 8) (h : W = (w.alloc (.cells #[.bool false, .bool false, .bool false, .bool false, .bool false, .bool false, .bool false, .bool false, .bool false] t1)).alloc (.cells #[.int .i64 0, .int .i64 0, .int .i64 0, .int .i64 0, .int .i64 0, .int .i64 0, .int .i64 0, .int .i64 0, .int .i64 0] t2)) : FairSt w.heap.size (w.heap.size + 1) n [] [] W := by
  have h1 : W.heap[w.heap.size]? = some (.cells #[.bool false, .bool false, .bool false, .bool false, .bool false, .bool false, .bool false, .bool false, .bool false] t1) := by
    rw [h]
    show ((w.heap.push _).push _)[_]? = _
    rw [Array.getElem?_push, Array.size_push, if_neg (by omega), Array.getElem?_push, if_pos rfl]
  have h2 : W.heap[w.heap.size + 1]? = some (.cells #[.int .i64 0, .int .i64 0, .int .i64 0, .int .i64 0, .int .i64 0, .int .i64 0, .int .i64 0, .int .i64 0, .int .i64 0] t2) := by
    rw [h]
    show ((w.heap.push _).push _)[_]? = _
    rw [Array.getElem?_push, Array.size_push, if_pos rfl]
  have nine : ∀ t : Nat, t ≤ n → t = 0 ∨ t = 1 ∨ t = 2 ∨ t = 3 ∨ t = 4 ∨ t = 5 ∨ t = 6 ∨ t = 7 ∨ t = 8 := fun t ht => by omega
  refine ⟨fun t ht => ?_, fun t ht => ?_, fun i => ⟨by simp [World.frozen?, h1], by simp [World.frozen?, h2]⟩⟩
  · rw [cell_of_row _ _ _ _ _ _ h1]
    rcases nine t ht with rfl | rfl | rfl | rfl | rfl | rfl | rfl | rfl | rfl <;> rfl
  · rw [cell_of_row _ _ _ _ _ _ h2]
    rcases nine t ht with rfl | rfl | rfl | rfl | rfl | rfl | rfl | rfl | rfl <;> rfl
set_option maxHeartbeats 4000000 in
theorem fair_rest {n K : Nat} {a0 mo : Option Addr} {c0 n0 mc rc m : Nat} {ro : Option Addr} {D : Int} {x2 x3 x9 x10 x11 x12 x13 x14 x15 x16 x17 x18 x19 x20 x21 x22 x23 x24 x25 x26 x27 x28 x29 x30 x31 x32 x33 x34 x35 x36 x37 x38 x39 x40 x41 x42 x43 x44 x45 x46 x47 x48 x49 x50 x51 x52 x53 x54 x55 x56 x57 x58 x59 x60 x61 x62 x63 x64 x65 x66 x67 x68 x69 x70 x71 x72 x73 x74 x75 x76 x77 x78 x79 x80 x81 x82 x83 x84 x85 x86 x87 x88 x89 x90 x91 x92 x93 x94 x95 x96 x97 x98 x99 x100 x101 x102 x103 x104 x105 x106 x107 x108 x109 x110 x111 x112 x113 x114 x115 x116 x117 x118 x119 x120 x121 x122 x123 x124 x125 x126 x127 x128 x129 x130 x131 x132 : Value} {ms : List Mk} {w : World} (hn : n ≤ 8) (hD : bits .and .i64 D 1023 = (K : Int)) (hK10 : K ≤ 1023) (hs : SeesM w mo ms) (hm : ms.length = m) (hF : FairL n ms) (hK : m ≤ K) (hend : m = K ∨ ∀ t, t < n → endP ms ((t : Int) + 1) = true) :
    restFair.wp Try.prog (fun e a' w' => e = .ret ∧ a'.tmps.getD 4 undef = .bool true ∧ Below w.heap.size w w') ⟨#[.slice a0 n0 c0, .int .i64 D, x2, x3, .bool false, .bool true, .slice ro n rc, .slice mo m mc, .int .i64 0, x9, x10, x11, x12, x13, x14, x15, x16, x17, x18, x19, x20, x21, x22, x23, x24, x25, x26, x27, x28, x29, x30, x31, x32, x33, x34, x35, x36, x37, x38, x39, x40, x41, x42, x43, x44, x45, x46, x47, x48, x49, x50, x51, x52, x53, x54, x55, x56, x57, x58, x59, x60, x61, x62, x63, x64, x65, x66, x67, x68, x69, x70, x71, x72, x73, x74, x75, x76, x77, x78, x79, x80, x81, x82, x83, x84, x85, x86, x87, x88, x89, x90, x91, x92, x93, x94, x95, x96, x97, x98, x99, x100, x101, x102, x103, x104, x105, x106, x107, x108, x109, x110, x111, x112, x113, x114, x115, x116, x117, x118, x119, x120, x121, x122, x123, x124, x125, x126, x127, x128, x129, x130, x131, x132], []⟩ w := by
  simp only [restFair, bodyFair, Try.f8, Option.getD_some]
  have hkm : decide ((K : Int) < (m : Int)) = false := by rw [decide_eq_false_iff_not]; omega
  have hkm2 : decide (K < m) = false := by rw [decide_eq_false_iff_not]; omega
  go_upto_region 10 with (fail)
  obtain ⟨W1, hW1⟩ : ∃ W1, W1 = (w.alloc (.cells #[.bool false, .bool false, .bool false, .bool false, .bool false, .bool false, .bool false, .bool false, .bool false] 42)).alloc (.cells #[.int .i64 0, .int .i64 0, .int .i64 0, .int .i64 0, .int .i64 0, .int .i64 0, .int .i64 0, .int .i64 0, .int .i64 0] 39) := ⟨_, rfl⟩
  have hst0 : FairSt w.heap.size (w.heap.size + 1) n [] [] W1 := fairSt_start hn hW1
  have hB0 : Below w.heap.size w W1 := by rw [hW1]; exact ((Below.refl _ _).alloc (Nat.le_refl _) _).alloc (by simp) _
  rw [← hW1]
  clear hW1
  obtain ⟨pb, hpb⟩ : ∃ x, x = w.heap.size + 1 := ⟨_, rfl⟩
  obtain ⟨eb, heb⟩ : ∃ x, x = w.heap.size := ⟨_, rfl⟩
  rw [← hpb]
  have hst0 : FairSt eb pb n [] [] W1 := by rw [hpb, heb]; exact hst0
  have hne : eb ≠ pb := by omega
  have hebw : w.heap.size ≤ eb := by omega
  have hpbw : w.heap.size ≤ pb := by omega
  rw [← heb]
  have HS := Lib.hid hs
  have HM := Lib.hid hm
  have HF := Lib.hid hF
  have HEND := Lib.hid hend
  have HST0 := Lib.hid hst0
  have HB0 := Lib.hid hB0
  clear hs hm hF hend hst0 hB0 hpb heb
  go_wp2
  go_loopw [11] (fun i wr => ∃ j : Nat, j ≤ m ∧ i = .int .i64 j ∧ FairSt eb pb n (ms.take j) (ms.take j) wr ∧ Below w.heap.size w wr) (fun i _ => m - (intOf i).toNat)
  case atStart => exact ⟨0, Nat.zero_le _, rfl, HST0.out, HB0.out⟩
  case round =>
    obtain ⟨j, hj, rfl, hst, hB⟩ := hrel
    have HST := Lib.hid hst
    have HB := Lib.hid hB
    clear hst hB
    by_cases hlt : j < m
    · obtain ⟨x, hx⟩ : ∃ x, ms[j]? = some x := ⟨_, List.getElem?_eq_getElem (by rw [HM.out]; exact hlt)⟩
      obtain ⟨f1, f2, f3, f4⟩ := HF.out j x hx
      obtain ⟨b, o, h1, h2⟩ := HS.out
      obtain rfl := h1 (by intro e; rw [e] at hx; simp at hx)
      obtain ⟨k1, k2, k3⟩ := h2 j x hx
      have c2 : wr.cell? ⟨b, o + j * 3 + 1, none⟩ = some (.int .i64 x.2.1) := by rw [Nat.add_assoc]; exact (HB.out.cell (p := ⟨b, o + (j * 3 + 1), none⟩) (block_lt_of_cell k2)).trans k2
      obtain ⟨T, hT⟩ := Int.eq_ofNat_of_zero_le (show 0 ≤ x.2.1 by omega)
      have hT : x.2.1 = (T : Int) := hT
      rw [hT] at c2 f1 f2 f3 f4
      obtain ⟨l, hl⟩ : ∃ l, l = ms.take j := ⟨_, rfl⟩
      rw [← hl] at f3 f4
      have hst := HST.out
      rw [← hl] at hst
      have hll : l.length = j := by rw [hl, List.length_take, HM.out]; omega
      have hTn : T ≤ n := by omega
      have e1 := hst.ends T hTn
      rw [f3] at e1
      have e2 := hst.cnts T hTn
      have hfz := (hst.warm T).2
      have hcl := cntP_le l (T : Int)
      obtain ⟨P, hP⟩ : ∃ P, P = cntP l (T : Int) := ⟨_, rfl⟩
      rw [← hP] at e2 hcl f4
      have ht1 : decide ((T : Int) < 1) = false := by rw [decide_eq_false_iff_not]; omega
      have ht2 : decide ((n : Int) < (T : Int)) = false := by rw [decide_eq_false_iff_not]; omega
      have hlo : (0 : Int) ≤ (j : Int) := by omega
      have hhi : (j : Int) < (m : Int) := by omega
      have hlo2 : (0 : Int) ≤ (T : Int) := by omega
      have hhi2 : (T : Int) < 9 := by omega
      have w1 : IntKind.i64.wrap ((P : Int) + 1) = (P : Int) + 1 := by rw [IntKind.wrap_i64]; omega
      have hpick := hst.pick hne hTn hT
      rw [← hP] at hpick
      have HPK := Lib.hid hpick
      have HX := Lib.hid hx
      have HT := Lib.hid hT
      have HL := Lib.hid hl
      have HF3 := Lib.hid f3
      have HF4 := Lib.hid f4
      have HP := Lib.hid hP
      have HK3 := Lib.hid k3
      clear hst hpick hx hT hl f3 f4 h1 h2 k1 k2 k3 hP
      go_upto_region 17 with (fail)
      obtain ⟨W2, hW2⟩ : ∃ W2, W2 = wr.setCell ⟨pb, T, none⟩ (.int .i64 ((P : Int) + 1)) := ⟨_, rfl⟩
      have hst2 : FairSt eb pb n l (l ++ [x]) W2 := by rw [hW2]; exact HPK.out
      have hB2 : Below w.heap.size w W2 := by rw [hW2]; exact HB.out.setCell hpbw _
      rw [← hW2]
      clear hW2
      have HS2 := Lib.hid hst2
      have HB2 := Lib.hid hB2
      have HFALL : ∀ z : Value, z = z := fun _ => rfl
      clear hst2 hB2 e1 e2 hfz HFALL
      go_wp2
      go_loopw [13] (fun i wr => ∃ u : Nat, u ≤ n ∧ i = .int .i64 ((u : Int) + 1) ∧ FairSt eb pb n l (l ++ [x]) wr ∧ Below w.heap.size w wr) (fun i _ => n + 1 - (intOf i).toNat)
      case atStart => exact ⟨0, Nat.zero_le _, rfl, HS2.out, HB2.out⟩
      case round =>
        obtain ⟨u, hu, rfl, hst3, hB3⟩ := hrel
        have HS3 := Lib.hid hst3
        have HB3 := Lib.hid hB3
        by_cases hun : u < n
        · have hle : decide ((u : Int) + 1 ≤ (n : Int)) = true := by rw [decide_eq_true_eq]; omega
          obtain ⟨U, hU⟩ : ∃ U, U = u + 1 := ⟨_, rfl⟩
          have hUi : (u : Int) + 1 = (U : Int) := by omega
          have e3 := hst3.ends U (by omega)
          have e4 := hst3.cnts U (by omega)
          have e5 := hst3.cnts T hTn
          have hPT : cntP (l ++ [x]) (T : Int) = P + 1 := by rw [cntP_app, HT.out, ← HP.out]; simp
          rw [hPT] at e5
          have hcu := cntP_le (l ++ [x]) (U : Int)
          rw [List.length_append, hll, List.length_singleton] at hcu
          obtain ⟨Q, hQ⟩ : ∃ Q, Q = cntP (l ++ [x]) (U : Int) := ⟨_, rfl⟩
          rw [← hQ] at e4 hcu
          have hlo3 : (0 : Int) ≤ (U : Int) := by omega
          have hhi3 : (U : Int) < 9 := by omega
          have e5' : wr.cell? ⟨pb, T, none⟩ = some (.int .i64 ((P : Int) + 1)) := e5
          have w3 : IntKind.i64.wrap ((P : Int) + 1 - (Q : Int)) = (P : Int) + 1 - (Q : Int) := by rw [IntKind.wrap_i64]; omega
          have w4 : IntKind.i64.wrap ((U : Int) + 1) = (U : Int) + 1 := by rw [IntKind.wrap_i64]; omega
          rw [hUi] at hle ⊢
          have hle2 : decide (U ≤ n) = true := by rw [decide_eq_true_eq]; omega
          cases hE : endP l (U : Int) with
          | true =>
            rw [hE] at e3
            have HU := Lib.hid hU
            clear hst3 hB3 hQ e5 hUi hU hPT
            go_upto_region 20 with (fail)
            go_quiet (fail)
            go_wp2
            go_roundw
            case rel => exact ⟨U, by have := HU.out; omega, by go_num, HS3.out.drew nq, Below.drewK HB3.out nq⟩
            case measure => have := HU.out; simp [intOf]; omega
          | false =>
            rw [hE] at e3
            obtain ⟨g1, g2⟩ := HF4.out U (by omega) (by omega) hE
            rw [← hQ] at g1 g2
            have hd1 : decide (1 < (P : Int) + 1 - (Q : Int)) = false := by rw [decide_eq_false_iff_not]; omega
            have HU := Lib.hid hU
            have HG2 := Lib.hid g2
            clear hst3 hB3 hQ e5 hUi hU hPT g2 g1
            by_cases hUT : U < T
            · have hd2 : decide ((U : Int) < (T : Int)) = true := by rw [decide_eq_true_eq]; omega
              have hd3 : decide ((Q : Int) < (P : Int) + 1) = false := by rw [decide_eq_false_iff_not]; have := HG2.out (by omega); omega
              go_upto_region 20 with (fail)
              go_quiet (fail)
              go_wp2
              go_roundw
              case rel => exact ⟨U, by have := HU.out; omega, by go_num, HS3.out.drew nq, Below.drewK HB3.out nq⟩
              case measure => have := HU.out; simp [intOf]; omega
            · have hd2 : decide ((U : Int) < (T : Int)) = false := by rw [decide_eq_false_iff_not]; omega
              go_upto_region 20 with (fail)
              go_quiet (fail)
              go_wp2
              go_roundw
              case rel => exact ⟨U, by have := HU.out; omega, by go_num, HS3.out.drew nq, Below.drewK HB3.out nq⟩
              case measure => have := HU.out; simp [intOf]; omega
        · obtain rfl : u = n := by omega
          have hle : decide ((u : Int) + 1 ≤ (u : Int)) = false := by rw [decide_eq_false_iff_not]; omega
          have k3 := HK3.out
          have c3 : wr.cell? ⟨b, o + j * 3 + 2, none⟩ = some (.int .i64 x.2.2) := by rw [Nat.add_assoc]; exact (HB3.out.cell (p := ⟨b, o + (j * 3 + 2), none⟩) (block_lt_of_cell k3)).trans k3
          have e6 := hst3.ends T hTn
          have hfz2 := (hst3.warm T).1
          obtain ⟨A, hA⟩ : ∃ A, A = x.2.2 := ⟨_, rfl⟩
          rw [← hA] at c3
          have hend2 := hst3.ended (x := x) hne hTn HT.out HF3.out
          rw [← hA] at hend2
          have HE2 := Lib.hid hend2
          clear hst3 hB3 k3 hA hend2
          go_wp2
          go_roundw
          case rel => exact ⟨j + 1, by omega, by go_num, by rw [List.take_add_one, HX.out, ← HL.out]; exact HE2.out, HB3.out.setCell hebw _⟩
          case measure => simp [intOf]; omega
    · obtain rfl : j = m := by omega
      by_cases hmk : j = K
      · have hd : decide ((j : Int) = (K : Int)) = true := by rw [decide_eq_true_eq]; omega
        go_wp2
        exact HB.out
      · have hd : decide ((j : Int) = (K : Int)) = false := by rw [decide_eq_false_iff_not]; omega
        have hd2 : decide (j = K) = false := by rw [decide_eq_false_iff_not]; omega
        have hall : ∀ t, t < n → endP ms ((t : Int) + 1) = true := by
          rcases HEND.out with h | h
          · exact absurd h hmk
          · exact h
        have hT : ms.take j = ms := List.take_of_length_le (by rw [HM.out]; exact Nat.le_refl _)
        have hst := HST.out
        rw [hT] at hst
        have HST2 := Lib.hid hst
        have HALL := Lib.hid hall
        clear hst hT hall
        go_wp2
        go_loopw [14] (fun i wr2 => ∃ u : Nat, u ≤ n ∧ i = .int .i64 ((u : Int) + 1) ∧ wr2 = wr) (fun i _ => n + 1 - (intOf i).toNat)
        case atStart => exact ⟨0, Nat.zero_le _, rfl, rfl⟩
        case round =>
          obtain ⟨u, hu, rfl, rfl⟩ := hrel
          by_cases hun : u < n
          · have hle : decide ((u : Int) + 1 ≤ (n : Int)) = true := by rw [decide_eq_true_eq]; omega
            have e3 := HST2.out.ends (u + 1) (by omega)
            have hUi : ((u + 1 : Nat) : Int) = (u : Int) + 1 := by omega
            rw [hUi, HALL.out u hun] at e3
            obtain ⟨U, hU⟩ : ∃ U, U = u + 1 := ⟨_, rfl⟩
            rw [← hU] at e3
            have hUi2 : (u : Int) + 1 = (U : Int) := by omega
            rw [hUi2] at hle ⊢
            have hle2 : decide (U ≤ n) = true := by rw [decide_eq_true_eq]; omega
            have hlo3 : (0 : Int) ≤ (U : Int) := by omega
            have hhi3 : (U : Int) < 9 := by omega
            have w4 : IntKind.i64.wrap ((U : Int) + 1) = (U : Int) + 1 := by rw [IntKind.wrap_i64]; omega
            have HU := Lib.hid hU
            clear hUi hUi2 hU
            go_wp2
            go_roundw
            case rel => exact ⟨U, by have := HU.out; omega, by go_num, trivial⟩
            case measure => have := HU.out; simp [intOf]; omega
          · obtain rfl : u = n := by omega
            have hle : decide ((u : Int) + 1 ≤ (u : Int)) = false := by rw [decide_eq_false_iff_not]; omega
            go_wp2
            exact HB.out
end Go.Proofs.Ytaiinkeendejdaa
