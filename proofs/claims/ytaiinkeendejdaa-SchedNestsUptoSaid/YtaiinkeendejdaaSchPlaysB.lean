/-
  quash/quashlaw04.SchedPlays: what stands behind the calls of Play, alone. No condition.
  And: quash/quashlaw04.SchedPlays: what stands ahead of the calls of Play, and behind them, alone. No condition.
-/
import Derived.Test.YtaiinkeendejdaaSchSome
import Derived.Test.YtaiinkeendejdaaSchRefPlay
import Derived.BigQuiet
namespace Go.Proofs.Ytaiinkeendejdaa
open Go.RowKit
set_option maxRecDepth 100000
noncomputable def bodyPlays : Code := (Try.f3).body.getD .skip
noncomputable def cutPlays : Code := match bodyPlays with | .seq _ (.seq _ (.seq _ (.seq _ (.seq c _)))) => c | _ => .skip
noncomputable def lentPlays : Code := match bodyPlays with | .seq _ (.seq _ (.seq _ (.seq _ (.seq _ (.seq _ (.seq c _)))))) => c | _ => .skip
noncomputable def restPlays : Code := match bodyPlays with | .seq _ (.seq _ (.seq _ (.seq _ (.seq _ (.seq _ (.seq _ (.seq _ (.seq _ (.seq _ c))))))))) => c | _ => .skip
theorem cutP_lone : codeC (opW Try.prog (fun f => lones.contains f) (bare 0)) cutPlays = true := by kernel_rfl
theorem lentP_lone : codeC (opW Try.prog (fun f => lones.contains f) (bare 0)) lentPlays = true := by kernel_rfl
theorem restP_lone : codeC (opW Try.prog (fun f => lones.contains f) (bare 0)) restPlays = true := by kernel_rfl
/-- the drain that is played -/
def cutD (D : Int) : Int := if 2000 < D ∧ D ≤ 65536 then D % 2000 else D
set_option maxHeartbeats 1000000 in
theorem plays_cut {a0 pa ro : Option Addr} {n0 c0 np pc m rc : Nat} {D : Int} {x3 x4 x5 x10 x11 x12 x13 x14 x15 x16 x17 x18 x19 x20 x21 x22 x23 x24 x25 x26 x27 x28 x29 x30 x31 x32 x33 x34 x35 x36 x37 x38 x39 x40 x41 x42 x43 x44 x45 x46 x47 x48 x49 x50 x51 x52 x53 x54 x55 x56 x57 x58 x59 x60 x61 x62 x63 x64 x65 x66 x67 x68 x69 x70 x71 x72 x73 x74 x75 x76 x77 x78 x79 x80 x81 x82 x83 x84 x85 x86 x87 x88 x89 x90 x91 x92 x93 x94 x95 x96 x97 x98 x99 x100 x101 x102 x103 x104 x105 x106 x107 x108 x109 x110 x111 x112 x113 x114 x115 x116 x117 x118 x119 x120 x121 x122 x123 x124 x125 x126 x127 x128 x129 x130 x131 x132 x133 x134 x135 x136 x137 : Value} {w : World} (h64 : -9223372036854775808 ≤ D ∧ D ≤ 9223372036854775807) :
    cutPlays.wp Try.prog (fun e a' w' => e = .normal ∧ a'.defers = [] ∧ (∃ y26 y27 y28 y29 y30 y31 y32 y33, a'.tmps = #[.slice a0 n0 c0, .slice pa np pc, .int .i64 D, x3, x4, x5, .bool false, .bool true, .slice ro m rc, .int .i64 (cutD D), x10, x11, x12, x13, x14, x15, x16, x17, x18, x19, x20, x21, x22, x23, x24, x25, y26, y27, y28, y29, y30, y31, y32, y33, x34, x35, x36, x37, x38, x39, x40, x41, x42, x43, x44, x45, x46, x47, x48, x49, x50, x51, x52, x53, x54, x55, x56, x57, x58, x59, x60, x61, x62, x63, x64, x65, x66, x67, x68, x69, x70, x71, x72, x73, x74, x75, x76, x77, x78, x79, x80, x81, x82, x83, x84, x85, x86, x87, x88, x89, x90, x91, x92, x93, x94, x95, x96, x97, x98, x99, x100, x101, x102, x103, x104, x105, x106, x107, x108, x109, x110, x111, x112, x113, x114, x115, x116, x117, x118, x119, x120, x121, x122, x123, x124, x125, x126, x127, x128, x129, x130, x131, x132, x133, x134, x135, x136, x137]) ∧ w'.heap = w.heap) ⟨#[.slice a0 n0 c0, .slice pa np pc, .int .i64 D, x3, x4, x5, .bool false, .bool true, .slice ro m rc, .int .i64 D, x10, x11, x12, x13, x14, x15, x16, x17, x18, x19, x20, x21, x22, x23, x24, x25, x26, x27, x28, x29, x30, x31, x32, x33, x34, x35, x36, x37, x38, x39, x40, x41, x42, x43, x44, x45, x46, x47, x48, x49, x50, x51, x52, x53, x54, x55, x56, x57, x58, x59, x60, x61, x62, x63, x64, x65, x66, x67, x68, x69, x70, x71, x72, x73, x74, x75, x76, x77, x78, x79, x80, x81, x82, x83, x84, x85, x86, x87, x88, x89, x90, x91, x92, x93, x94, x95, x96, x97, x98, x99, x100, x101, x102, x103, x104, x105, x106, x107, x108, x109, x110, x111, x112, x113, x114, x115, x116, x117, x118, x119, x120, x121, x122, x123, x124, x125, x126, x127, x128, x129, x130, x131, x132, x133, x134, x135, x136, x137], []⟩ w := by
  simp only [cutPlays, bodyPlays, Try.f3, Option.getD_some]
  by_cases h1 : 2000 < D
  · by_cases h2 : D ≤ 65536
    · have hc : cutD D = D.tmod 2000 := by
        unfold cutD
        rw [if_pos ⟨h1, h2⟩, Int.tmod_eq_emod_of_nonneg (by omega)]
      have hw : IntKind.i64.wrap (D.tmod 2000) = D.tmod 2000 := by rw [IntKind.wrap_i64, Int.tmod_eq_emod_of_nonneg (by omega)]; omega
      rw [hc]
      go_wp2
      all_goals (first | rfl | exact (Int.tmod_eq_emod_of_nonneg (by omega)).symm | exact ⟨⟨_, _, _, _, _, _, _, _, rfl⟩, trivial⟩ | exact ⟨⟨_, _, _, _, _, _, _, _, rfl⟩, rfl⟩ | exact ⟨_, _, _, _, _, _, _, _, rfl⟩)
    · have hc : cutD D = D := by unfold cutD; rw [if_neg (fun h => h2 h.2)]
      rw [hc]
      go_wp2
      all_goals (first | rfl | exact (Int.tmod_eq_emod_of_nonneg (by omega)).symm | exact ⟨⟨_, _, _, _, _, _, _, _, rfl⟩, trivial⟩ | exact ⟨⟨_, _, _, _, _, _, _, _, rfl⟩, rfl⟩ | exact ⟨_, _, _, _, _, _, _, _, rfl⟩)
  · have hc : cutD D = D := by unfold cutD; rw [if_neg (fun h => h1 h.1)]
    rw [hc]
    go_wp2
    all_goals (first | rfl | exact (Int.tmod_eq_emod_of_nonneg (by omega)).symm | exact ⟨⟨_, _, _, _, _, _, _, _, rfl⟩, trivial⟩ | exact ⟨⟨_, _, _, _, _, _, _, _, rfl⟩, rfl⟩ | exact ⟨_, _, _, _, _, _, _, _, rfl⟩)
/-- rows of the call's own that read as others do, with marks behind them -/
def LentAll (w : World) (B : Nat) (GS L : List PV) : Prop := GS.length = L.length ∧ ∀ (i : Nat) y, GS[i]? = some y → ∃ g x, L[i]? = some x ∧ y.1 = some ⟨g, 0, none⟩ ∧ y.2.2 = x.2.2 ∧ Bal w B g y.2.1 (x.2.2 ++ spare2)
theorem Bal.grown {w w' : World} {B B' g cap : Nat} {zs : List Int} {v : Value} {l : List PV} (h : Bal w B g cap zs) (hv : OwnS w B' v l) (hg : w.grownBy w' v.ownBlock) : Bal w' B g cap zs := by
  refine ownsRow_at h fun g' hg' => ?_
  obtain rfl : g = g' := by simpa [Value.ownBlock] using hg'
  refine hg.block g h.lt.1 fun e => ?_
  obtain ⟨cur, h1, _⟩ := h.block
  rcases hv.2 with ⟨hv, _⟩ | ⟨g', cap', cur', hv, h3, hh, _⟩
  · rw [hv] at e; cases e
  · rw [hv] at e
    have e : g = g' := by simpa [Value.ownBlock] using e
    subst e
    rw [h1] at hh
    have := Option.some.inj hh
    simp at this
theorem LentAll.below {w w' : World} {B : Nat} {GS L : List PV} (h : LentAll w B GS L) (hb : Below w.heap.size w w') : LentAll w' B GS L := ⟨h.1, fun i y hy => by
  obtain ⟨g, x, h1, h2, h3, h4⟩ := h.2 i y hy
  exact ⟨g, x, h1, h2, h3, h4.below hb⟩⟩
theorem LentAll.grown {w w' : World} {B B' : Nat} {GS L : List PV} {v : Value} {l : List PV} (h : LentAll w B GS L) (hv : OwnS w B' v l) (hg : w.grownBy w' v.ownBlock) : LentAll w' B GS L := ⟨h.1, fun i y hy => by
  obtain ⟨g, x, h1, h2, h3, h4⟩ := h.2 i y hy
  exact ⟨g, x, h1, h2, h3, h4.grown hv hg⟩⟩
theorem LentAll.snoc {w : World} {B : Nat} {GS L : List PV} {j g cap : Nat} {x : PV} (h : LentAll w B GS (L.take j)) (hx : L[j]? = some x) (hb : Bal w B g cap (x.2.2 ++ spare2)) : LentAll w B (GS ++ [(some ⟨g, 0, none⟩, cap, x.2.2)]) (L.take (j + 1)) := by
  have hj : j < L.length := (List.getElem?_eq_some_iff.1 hx).1
  have hl : (L.take j).length = j := by rw [List.length_take]; omega
  rw [List.take_add_one, hx]
  refine ⟨by rw [List.length_append, List.length_append, h.1]; rfl, fun i y hy => ?_⟩
  have hgl : GS.length = j := h.1.trans hl
  by_cases hi : i < j
  · rw [List.getElem?_append_left (by omega)] at hy
    rw [List.getElem?_append_left (by omega)]
    exact h.2 i y hy
  · have hil := (List.getElem?_eq_some_iff.1 hy).1
    rw [List.length_append, List.length_singleton] at hil
    obtain rfl : i = j := by omega
    rw [List.getElem?_append_right (by omega), hgl, Nat.sub_self] at hy
    obtain rfl := Option.some.inj hy
    exact ⟨g, x, by rw [List.getElem?_append_right (by omega), hl, Nat.sub_self]; rfl, rfl, rfl, hb⟩
theorem wpList_appendS {w : World} {B : Nat} {v : Value} {xs : List PV} (x : PV) (hown : OwnS w B v xs) (hB : B ≤ w.heap.size) (g c : Nat) (hs : w.cell? ⟨g, 0, none⟩ = some (pvVal x)) (hb : xs.length < 1000000)
    {ops : Array Oper} {Q : Exit → Act → World → Prop} {a : Act} {rest : List Oper} {o : Oper} (hgd : o.guard = none) (s y : Operand) (hop : o.op = Op.call { callee := Callee.builtin Builtin.append, args := #[s, y], argTypes := #[22, 22] })
    (ev : a.eval s = v) (hx : a.eval y = .slice (some ⟨g, 0, none⟩) 1 c)
    (hK : ∀ v' w', OwnS w' B v' (xs ++ [x]) → w.grownBy w' v.ownBlock → wpList Try.prog ops Q rest (a.put o.dst v') w') : wpList Try.prog ops Q (o :: rest) a w := by
  obtain ⟨i0, hi, hz0, hz1, hz2⟩ := info_parts infoS
  have hnews : ∀ (j : Nat) u, ([x].map pvVal)[j]? = some u → w.cell? ((⟨g, 0, none⟩ : Addr).add j) = some u := fun j u hj => by
    match j, hj with
    | 0, hj =>
      simp at hj
      subst hj
      simpa [Addr.add] using hs
    | j + 1, hj => simp at hj
  exact wpList_append_own _ hgd s y 22 hop B 23 i0 (.slice none 0 0) 1 24 Try.underlying22 hi hz0 hz1 hz2 rfl (by decide) v xs.length (xs.map pvVal) ev hown ⟨g, 0, none⟩ 1 c ([x].map pvVal) hx rfl hnews pv_one (by unfold maxLen; omega) (by omega) hB
    (fun v' w' h1 h2 _ => hK v' w' (by unfold OwnS; rw [List.length_append, List.map_append]; exact h1) h2)
set_option maxHeartbeats 2000000 in
theorem plays_lent {a0 pa ro : Option Addr} {n0 c0 np pc m rc : Nat} {D D2 : Int} {x3 x4 x5 x11 x12 x13 x14 x15 x16 x17 x18 x19 x20 x21 x22 x23 x24 x25 x26 x27 x28 x29 x30 x31 x32 x33 x34 x35 x36 x37 x38 x39 x40 x41 x42 x43 x44 x45 x46 x47 x48 x49 x50 x51 x52 x53 x54 x55 x56 x57 x58 x59 x60 x61 x62 x63 x64 x65 x66 x67 x68 x69 x70 x71 x72 x73 x74 x75 x76 x77 x78 x79 x80 x81 x82 x83 x84 x85 x86 x87 x88 x89 x90 x91 x92 x93 x94 x95 x96 x97 x98 x99 x100 x101 x102 x103 x104 x105 x106 x107 x108 x109 x110 x111 x112 x113 x114 x115 x116 x117 x118 x119 x120 x121 x122 x123 x124 x125 x126 x127 x128 x129 x130 x131 x132 x133 x134 x135 x136 x137 : Value} {L : List PV} {w : World} (hm : L.length = m) (hm9 : m ≤ 9) (hs : SeesV w ro L) (hp : PVs (fun x => x < w.heap.size) w L) (hlen : ∀ x ∈ L, x.2.2.length ≤ 300) :
    lentPlays.wp Try.prog (fun e a' w' => e = .normal ∧ a'.defers = [] ∧ (∃ ov y11 y34 y35 y36 y37 y38 y39 y40 y41 y42 y43 y44 y45 y46 y47, a'.tmps = #[.slice a0 n0 c0, .slice pa np pc, .int .i64 D, x3, x4, x5, .bool false, .bool true, .slice ro m rc, .int .i64 D2, ov, y11, x12, x13, x14, x15, x16, x17, x18, x19, x20, x21, x22, x23, x24, x25, x26, x27, x28, x29, x30, x31, x32, x33, y34, y35, y36, y37, y38, y39, y40, y41, y42, y43, y44, y45, y46, y47, x48, x49, x50, x51, x52, x53, x54, x55, x56, x57, x58, x59, x60, x61, x62, x63, x64, x65, x66, x67, x68, x69, x70, x71, x72, x73, x74, x75, x76, x77, x78, x79, x80, x81, x82, x83, x84, x85, x86, x87, x88, x89, x90, x91, x92, x93, x94, x95, x96, x97, x98, x99, x100, x101, x102, x103, x104, x105, x106, x107, x108, x109, x110, x111, x112, x113, x114, x115, x116, x117, x118, x119, x120, x121, x122, x123, x124, x125, x126, x127, x128, x129, x130, x131, x132, x133, x134, x135, x136, x137] ∧ ∃ GS, OwnS w' w.heap.size ov GS ∧ LentAll w' w.heap.size GS L) ∧ Below w.heap.size w w') ⟨#[.slice a0 n0 c0, .slice pa np pc, .int .i64 D, x3, x4, x5, .bool false, .bool true, .slice ro m rc, .int .i64 D2, .slice none 0 0, x11, x12, x13, x14, x15, x16, x17, x18, x19, x20, x21, x22, x23, x24, x25, x26, x27, x28, x29, x30, x31, x32, x33, x34, x35, x36, x37, x38, x39, x40, x41, x42, x43, x44, x45, x46, x47, x48, x49, x50, x51, x52, x53, x54, x55, x56, x57, x58, x59, x60, x61, x62, x63, x64, x65, x66, x67, x68, x69, x70, x71, x72, x73, x74, x75, x76, x77, x78, x79, x80, x81, x82, x83, x84, x85, x86, x87, x88, x89, x90, x91, x92, x93, x94, x95, x96, x97, x98, x99, x100, x101, x102, x103, x104, x105, x106, x107, x108, x109, x110, x111, x112, x113, x114, x115, x116, x117, x118, x119, x120, x121, x122, x123, x124, x125, x126, x127, x128, x129, x130, x131, x132, x133, x134, x135, x136, x137], []⟩ w := by
  simp only [lentPlays, bodyPlays, Try.f3, Option.getD_some]
  have HS := Lib.hid hs
  have HM := Lib.hid hm
  have HP := Lib.hid hp
  have HLEN := Lib.hid hlen
  clear hs hm hp hlen
  go_wp2
  go_loopw [10, 11] (fun v i wr => ∃ j : Nat, j ≤ m ∧ i = .int .i64 j ∧ (∃ GS, OwnS wr w.heap.size v GS ∧ LentAll wr w.heap.size GS (L.take j)) ∧ Below w.heap.size w wr) (fun _ i _ => m - (intOf i).toNat)
  case atStart => exact ⟨0, Nat.zero_le _, rfl, ⟨[], OwnS.nil _ _, rfl, fun i y hy => by simp at hy⟩, Below.refl _ _⟩
  case round =>
    obtain ⟨j, hj, rfl, ⟨GS, hown, hla⟩, hB⟩ := hrel
    have hz := hB.size
    have HB := Lib.hid hB
    have HO := Lib.hid hown
    have HA := Lib.hid hla
    clear hB hown hla
    by_cases hlt : j < m
    · obtain ⟨x, hx⟩ : ∃ x, L[j]? = some x := ⟨_, List.getElem?_eq_getElem (by rw [HM.out]; exact hlt)⟩
      obtain ⟨b, o, h1, h2⟩ := HS.out
      obtain rfl := h1 (by intro e; rw [e] at hx; simp at hx)
      have c1a := h2 j x hx
      obtain ⟨p1, p2, p3, p4⟩ := HP.out x (List.mem_of_getElem? hx)
      have hsx : Sees wr x.1 x.2.2 := by
        by_cases h0 : x.2.2 = []
        · rw [h0]; exact Sees.nil _ _
        · obtain ⟨z, hz⟩ : ∃ z, x.2.2[0]? = some z := ⟨_, List.getElem?_eq_getElem (List.length_pos_iff.2 h0)⟩
          obtain ⟨q, u, e, _, _⟩ := p4 0 z hz
          refine ⟨q, u, fun _ => e, fun i hi => ?_⟩
          obtain ⟨z', hz'⟩ : ∃ z, x.2.2[i]? = some z := ⟨_, List.getElem?_eq_getElem hi⟩
          obtain ⟨q', u', e', k1, k2⟩ := p4 i z' hz'
          rw [e] at e'
          cases e'
          rw [List.getD_eq_getElem?_getD, hz', Option.getD_some]
          exact (HB.out.cell (p := ⟨q, u + i, none⟩) k1).trans k2
      obtain ⟨Q, hQ⟩ : ∃ Q, Q = x.2.2.length := ⟨_, rfl⟩
      have c1 : wr.cell? ⟨b, o + j, none⟩ = some (.slice x.1 Q x.2.1) := by rw [hQ]; exact (HB.out.cell (p := ⟨b, o + j, none⟩) (block_lt_of_cell c1a)).trans c1a
      have hQl := HLEN.out x (List.mem_of_getElem? hx)
      rw [← hQ] at hQl
      have hlo : (0 : Int) ≤ (j : Int) := by omega
      have hhi : (j : Int) < (m : Int) := by omega
      have hgs : GS.length < 1000000 := by have := HA.out.1; rw [List.length_take] at this; omega
      have HX := Lib.hid hx
      have HSX := Lib.hid hsx
      have HQ := Lib.hid hQ
      have HP1 := Lib.hid p1
      clear hx c1a h1 h2 hQ hsx p2 p3 p4 p1
      go_upto_region 10 with (fail)
      go_wp2_with (first
        | (go_at_call 11; go_must (refine (lent_any x.1 Q x.2.1 x.2.2 _ HQ.out.symm HSX.out HP1.out (by omega)).mono ?_; rintro e w1 ⟨g, cap, rfl, hb1, hB1⟩))
        | (at_builtin; refine wpList_appendS (B := w.heap.size) (some ⟨g, 0, none⟩, cap, x.2.2) ((HO.out.below hB1).at (fun gg hgg => Below.heap_alloc _ _ _ ((HO.out.below hB1).block hgg).2)) (by have := hB1.size; simp; omega) w1.heap.size 1 (by rw [show pvVal (some ⟨g, 0, none⟩, cap, x.2.2) = .slice (some ⟨g, 0, none⟩) Q cap by rw [HQ.out]; rfl]; exact cell_alloc_new _ _ _) hgs rfl _ _ rfl rfl rfl ?_; intro v3 w3 hown3 hgrow3))
      have hz1 := hB1.size
      have hlow : ∀ k, u10.ownBlock = some k → w.heap.size ≤ k := fun k hk => (HO.out.block hk).1
      have hB3 : Below w.heap.size w w3 := ((HB.out.trans (hB1.mono hz)).alloc (by omega) _).grown hgrow3 (by simp <;> omega) hlow
      have hown1 : OwnS w1 w.heap.size u10 GS := HO.out.below hB1
      have hla1 : LentAll w1 w.heap.size GS (L.take j) := HA.out.below hB1
      have hla2 := (hla1.snoc HX.out (own_lower hb1 hz))
      have hla3 := (hla2.below (alloc_below' _ (Nat.le_refl _) (.cells #[.slice (some ⟨g, 0, none⟩) Q cap] 23))).grown (hown1.at (fun gg hgg => Below.heap_alloc _ _ _ (hown1.block hgg).2)) hgrow3
      have HO3 := Lib.hid hown3
      have HA3 := Lib.hid hla3
      have HB3 := Lib.hid hB3
      clear hown3 hla3 hB3 hgrow3 hla2 hla1 hown1 hB1 hb1
      go_roundw
      case rel => exact ⟨j + 1, by omega, by go_num, ⟨_, HO3.out, HA3.out⟩, HB3.out⟩
      case measure => simp [intOf]; omega
    · obtain rfl : j = m := by omega
      have hT : L.take j = L := List.take_of_length_le (by rw [HM.out]; exact Nat.le_refl _)
      have hla := HA.out
      rw [hT] at hla
      have HA2 := Lib.hid hla
      clear hla hT
      go_wp2
      exact ⟨⟨GS, HO.out, HA2.out⟩, HB.out⟩
end Go.Proofs.Ytaiinkeendejdaa
namespace Go.Proofs.Ytaiinkeendejdaa
open Go.RowKit
set_option maxRecDepth 100000
/-- a row of n marks of the call's own, whatever they are -/
def RawM (w : World) (B : Nat) (v : Value) (n : Nat) : Prop := ∃ xs, w.ownsRow B 34 3 v n xs
theorem RawM.set {w : World} {B g cap n k : Nat} (h : RawM w B (.slice (some ⟨g, 0, none⟩) n cap) n) (u : Value) : RawM (w.setCell ⟨g, k, none⟩ u) B (.slice (some ⟨g, 0, none⟩) n cap) n := by
  obtain ⟨xs, h⟩ := h
  exact ⟨_, (World.ownsRow.stored h k u).1⟩
theorem RawM.block {w : World} {B g cap n : Nat} (h : RawM w B (.slice (some ⟨g, 0, none⟩) n cap) n) : B ≤ g ∧ ∃ cur, w.heap[g]? = some (.cells cur 34) ∧ n * 3 ≤ cur.size := by
  obtain ⟨xs, h1, h2⟩ := h
  rcases h2 with ⟨hv, _⟩ | ⟨g', cap', cur, hv, h3, hh, h4, _, h5, _⟩
  · cases hv
  · cases hv
    exact ⟨h3, cur, hh, by rw [h5]; omega⟩
theorem RawM.cell {w : World} {B g cap n k : Nat} (h : RawM w B (.slice (some ⟨g, 0, none⟩) n cap) n) (hk : k < n * 3) : (∃ u, w.cell? ⟨g, k, none⟩ = some u) ∧ w.frozen? ⟨g, k, none⟩ = false := by
  obtain ⟨_, cur, hb, hl⟩ := h.block
  refine ⟨⟨cur[k]'(by omega), ?_⟩, by simp [World.frozen?, hb]⟩
  rw [cell_of_row _ _ _ _ _ _ hb]
  exact Array.getElem?_eq_getElem _
theorem RawM.alloc {w : World} {B n : Nat} {v : Value} (h : RawM w B v n) (o : Obj) : RawM (w.alloc o) B v n := by
  obtain ⟨xs, h⟩ := h
  refine ⟨xs, ownsRow_at h fun g hg => Below.heap_alloc _ _ _ ?_⟩
  obtain ⟨cur, hc⟩ := own_block h hg
  exact (Array.getElem?_eq_some_iff.1 hc).1
theorem grown_set {w w' : World} {r : Option Nat} (h : w.grownBy w' r) {g k : Nat} (hr : r = some g) (u : Value) : w.grownBy (w'.setCell ⟨g, k, none⟩ u) r :=
  ⟨h.os, h.tape, h.output, by simpa using h.size, fun x hx hne => (Below.heap_setCell _ _ _ _ (fun e => hne (by rw [hr]; exact congrArg some e))).trans (h.block x hx hne)⟩
theorem grown_trans {w w' w'' : World} {r : Option Nat} (h : w.grownBy w' r) (k : w'.grownBy w'' r) : w.grownBy w'' r :=
  ⟨k.os.trans h.os, k.tape.trans h.tape, k.output.trans h.output, Nat.le_trans h.size k.size, fun x hx hne => (k.block x (Nat.lt_of_lt_of_le hx h.size) hne).trans (h.block x hx hne)⟩
theorem grown_alloc {w w' : World} {r : Option Nat} (h : w.grownBy w' r) (o : Obj) : w.grownBy (w'.alloc o) r :=
  ⟨h.os, h.tape, h.output, Nat.le_trans h.size (by simp), fun x hx hne => (Below.heap_alloc _ _ _ (Nat.lt_of_lt_of_le hx h.size)).trans (h.block x hx hne)⟩
theorem SeesM.grown {w w' : World} {r : Option Nat} {ao : Option Addr} {l : List Mk} (h : SeesM w ao l) (k : w.grownBy w' r) (hne : ∀ p o, ao = some ⟨p, o, none⟩ → r ≠ some p) : SeesM w' ao l := by
  obtain ⟨b, o, h1, h2⟩ := h
  refine ⟨b, o, h1, fun j x hx => ?_⟩
  obtain ⟨c1, c2, c3⟩ := h2 j x hx
  have e := h1 (fun e => by rw [e] at hx; simp at hx)
  have hb : w'.heap[b]? = w.heap[b]? := k.block b (block_lt_of_cell c1) (fun e' => hne b o e e'.symm)
  exact ⟨(World.cell?_of_block (a := ⟨b, o + j * 3, none⟩) hb).trans c1, (World.cell?_of_block (a := ⟨b, o + (j * 3 + 1), none⟩) hb).trans c2, (World.cell?_of_block (a := ⟨b, o + (j * 3 + 2), none⟩) hb).trans c3⟩
theorem wpList_appendRaw {w : World} {B : Nat} {v : Value} {n : Nat} (hraw : RawM w B v n) (hB : B ≤ w.heap.size) (g c : Nat) {x : Mk} (hs : SeesM w (some ⟨g, 0, none⟩) [x]) (hb : n < 1000000)
    {ops : Array Oper} {Q : Exit → Act → World → Prop} {a : Act} {rest : List Oper} {o : Oper} (hgd : o.guard = none) (s y : Operand) (hop : o.op = Op.call { callee := Callee.builtin Builtin.append, args := #[s, y], argTypes := #[27, 27] })
    (ev : a.eval s = v) (hx : a.eval y = .slice (some ⟨g, 0, none⟩) 1 c)
    (hK : ∀ v' w', w.grownBy w' v.ownBlock → wpList Try.prog ops Q rest (a.put o.dst v') w') : wpList Try.prog ops Q (o :: rest) a w := by
  obtain ⟨i0, hi, hz0, hz1, hz2⟩ := info_parts infoM
  obtain ⟨xs, hown⟩ := hraw
  exact wpList_append_own _ hgd s y 27 hop B 34 i0 (.agg #[.int .i64 0, .int .i64 0, .int .i64 0]) 3 24 Try.underlying27 hi hz0 hz1 hz2 rfl (by decide) v n xs ev hown ⟨g, 0, none⟩ 1 c (markCells [x]) hx rfl hs.news markCells_one (by unfold maxLen; omega) (by omega) hB
    (fun v' w' _ h2 _ => hK v' w' h2)
theorem SeesM.belowB {w w' : World} {ao : Option Addr} {l : List Mk} (h : SeesM w ao l) (hb : Below w.heap.size w w') : SeesM w' ao l := by
  obtain ⟨b, o, h1, h2⟩ := h
  refine ⟨b, o, h1, fun j x hx => ?_⟩
  obtain ⟨c1, c2, c3⟩ := h2 j x hx
  exact ⟨(hb.cell (p := ⟨b, o + j * 3, none⟩) (block_lt_of_cell c1)).trans c1, (hb.cell (p := ⟨b, o + (j * 3 + 1), none⟩) (block_lt_of_cell c2)).trans c2, (hb.cell (p := ⟨b, o + (j * 3 + 2), none⟩) (block_lt_of_cell c3)).trans c3⟩
set_option maxHeartbeats 4000000 in
theorem plays_rest {a0 pa ro oo m2 : Option Addr} {n0 c0 np pc m rc oc kg kc M c2 B B1 B2 : Nat} {D D2 E : Int} {lv x3 x4 x5 x11 x17 x18 x19 x20 x21 x22 x23 x24 x25 x26 x27 x28 x29 x30 x31 x32 x33 x34 x35 x36 x37 x38 x39 x40 x41 x42 x43 x44 x45 x46 x47 x48 x49 x50 x51 x52 x53 x54 x55 x56 x57 x58 x59 x60 x61 x62 x63 x64 x65 x66 x67 x68 x69 x70 x71 x72 x73 x74 x75 x76 x77 x78 x79 x80 x81 x82 x83 x84 x85 x86 x87 x88 x89 x90 x91 x92 x93 x94 x95 x96 x97 x98 x99 x100 x101 x102 x103 x104 x105 x106 x107 x108 x109 x110 x111 x112 x113 x114 x115 x116 x117 x118 x119 x120 x121 x122 x123 x124 x125 x126 x127 x128 x129 x130 x131 x132 x133 x134 x135 x136 x137 : Value} {L GS : List PV} {picks : List Int} {MS : List Mk} {w : World} (hm : L.length = m) (hm9 : m ≤ 9) (hs : SeesV w ro L) (hr : ∀ p o, ro = some ⟨p, o, none⟩ → p < w.heap.size) (hp : PVs (fun x => x < w.heap.size) w L) (hpk : Sees w pa picks) (hnp : picks.length = np) (hnpm : np ≤ 2000000)
    (h64 : ∀ x ∈ picks, -9223372036854775808 ≤ x ∧ x ≤ 9223372036854775807) (ho : SeesV w oo GS) (hla : LentAll w 0 GS L) (hk : Bal w 0 kg kc (picks ++ spare2)) (hR : playR (L.map (·.2.2)) picks D2 = (MS, E)) (hM : MS.length = M) (hMM : M < 1000000)
    (h1 : OwnM w B1 lv MS) (h2 : OwnM w B2 (.slice m2 M c2) MS) (hdiff : ∀ g, lv.ownBlock = some g → (Value.slice m2 M c2).ownBlock ≠ some g) (hBB : B ≤ B1) (hBw : B ≤ w.heap.size) (hB1w : B1 ≤ w.heap.size) :
    restPlays.wp Try.prog (fun e a' w' => e = .ret ∧ a'.tmps.getD 6 undef = .bool true ∧ Below B w w') ⟨#[.slice a0 n0 c0, .slice pa np pc, .int .i64 D, x3, x4, x5, .bool false, .bool true, .slice ro m rc, .int .i64 D2, .slice oo m oc, x11, .slice (some ⟨kg, 0, none⟩) np kc, lv, .int .i64 E, .slice m2 M c2, .int .i64 E, x17, x18, x19, x20, x21, x22, x23, x24, x25, x26, x27, x28, x29, x30, x31, x32, x33, x34, x35, x36, x37, x38, x39, x40, x41, x42, x43, x44, x45, x46, x47, x48, x49, x50, x51, x52, x53, x54, x55, x56, x57, x58, x59, x60, x61, x62, x63, x64, x65, x66, x67, x68, x69, x70, x71, x72, x73, x74, x75, x76, x77, x78, x79, x80, x81, x82, x83, x84, x85, x86, x87, x88, x89, x90, x91, x92, x93, x94, x95, x96, x97, x98, x99, x100, x101, x102, x103, x104, x105, x106, x107, x108, x109, x110, x111, x112, x113, x114, x115, x116, x117, x118, x119, x120, x121, x122, x123, x124, x125, x126, x127, x128, x129, x130, x131, x132, x133, x134, x135, x136, x137], []⟩ w := by
  simp only [restPlays, bodyPlays, Try.f3, Option.getD_some]
  have HS := Lib.hid hs
  have HM := Lib.hid hm
  have HP := Lib.hid hp
  have HRR := Lib.hid hr
  have HPK := Lib.hid hpk
  have HNP := Lib.hid hnp
  have H64 := Lib.hid h64
  have HO := Lib.hid ho
  have HLA := Lib.hid hla
  have HK := Lib.hid hk
  have HR := Lib.hid hR
  have HMM := Lib.hid hM
  have H1 := Lib.hid h1
  have H2 := Lib.hid h2
  have HDI := Lib.hid hdiff
  clear hs hm hp hr hpk hnp h64 ho hla hk hR hM h1 h2 hdiff
  go_upto_region 15 with (first
    | (go_at_call 13; go_must (refine (refPlay_any (qa := ro) (qc := rc) (pc := pc) (plans_of HS.out HRR.out HP.out) (by rw [List.length_map]; exact HM.out) HNP.out HPK.out (by unfold maxLen; omega) H64.out).mono ?_; rintro e w1 ⟨mv, rfl, hown, hB1⟩; rw [HR.out])))
  rw [HR.out] at hown
  obtain ⟨m3, c3, hmv, hsee3, _⟩ := hown.slice
  have hml : MS.length = M := HMM.out
  rw [hml] at hmv
  subst hmv
  have hn3 : ∀ p o, m3 = some ⟨p, o, none⟩ → w.heap.size ≤ p := fun p o e => by subst e; exact (hown.block rfl).1
  have hz1 := hB1.size
  have HB1 := Lib.hid hB1
  have HS3 := Lib.hid hsee3
  have HN3 := Lib.hid hn3
  have HML := Lib.hid hml
  clear hown hsee3 hn3 hml hB1
  go_upto_region 16 with (first | (go_at_call 14; go_must (refine (whole_any kg kc 0 pa np pc picks _ HNP.out (HK.out.below HB1.out) (HPK.out.below HB1.out) (by unfold maxLen; omega)).mono ?_; rintro e w2 ⟨rfl, d2, rfl⟩)))
  have hB2 : Below w.heap.size w (w1.drewN d2) := Below.drewK HB1.out d2
  have hs3 : SeesM (w1.drewN d2) m3 MS := HS3.out
  obtain ⟨W2, hW2⟩ : ∃ W2, W2 = w1.drewN d2 := ⟨_, rfl⟩
  rw [← hW2] at hB2 hs3 ⊢
  have HB2 := Lib.hid hB2
  have HS4 := Lib.hid hs3
  clear hW2 hB2 hs3
  go_wp2
  go_loopw [19, 20] (fun v i wr => ∃ j : Nat, j ≤ m ∧ v = .bool true ∧ i = .int .i64 j ∧ SeesM wr m3 MS ∧ Below w.heap.size w wr) (fun _ i _ => m - (intOf i).toNat)
  case atStart => exact ⟨0, Nat.zero_le _, rfl, rfl, HS4.out, HB2.out⟩
  case round =>
    obtain ⟨j, hj, rfl, rfl, hs5, hB5⟩ := hrel
    have HS5 := Lib.hid hs5
    have HB5 := Lib.hid hB5
    clear hs5 hB5
    by_cases hlt : j < m
    · obtain ⟨y, hy⟩ : ∃ y, GS[j]? = some y := ⟨_, List.getElem?_eq_getElem (by rw [HLA.out.1, HM.out]; exact hlt)⟩
      obtain ⟨g, x, hx, hy1, hy2, hbal⟩ := HLA.out.2 j y hy
      obtain ⟨b, o, g1, g2⟩ := HS.out
      obtain rfl := g1 (by intro e; rw [e] at hx; simp at hx)
      have r0 := g2 j x hx
      obtain ⟨b2, o2, k1, k2⟩ := HO.out
      obtain rfl := k1 (by intro e; rw [e] at hy; simp at hy)
      have q0 := k2 j y hy
      obtain ⟨p1, p2, p3, p4⟩ := HP.out x (List.mem_of_getElem? hx)
      obtain ⟨Q, hQ⟩ : ∃ Q, Q = x.2.2.length := ⟨_, rfl⟩
      have hyv : pvVal y = .slice (some ⟨g, 0, none⟩) Q y.2.1 := by unfold pvVal; rw [hy1, hy2, hQ]
      have r1 : wr.cell? ⟨b, o + j, none⟩ = some (.slice x.1 Q x.2.1) := by rw [hQ]; exact (HB5.out.cell (p := ⟨b, o + j, none⟩) (block_lt_of_cell r0)).trans r0
      have q1 : wr.cell? ⟨b2, o2 + j, none⟩ = some (.slice (some ⟨g, 0, none⟩) Q y.2.1) := by rw [← hyv]; exact (HB5.out.cell (p := ⟨b2, o2 + j, none⟩) (block_lt_of_cell q0)).trans q0
      have hsx : Sees w x.1 x.2.2 := by
        by_cases h0 : x.2.2 = []
        · rw [h0]; exact Sees.nil _ _
        · obtain ⟨z, hz⟩ : ∃ z, x.2.2[0]? = some z := ⟨_, List.getElem?_eq_getElem (List.length_pos_iff.2 h0)⟩
          obtain ⟨q, u, e, _, _⟩ := p4 0 z hz
          refine ⟨q, u, fun _ => e, fun i hi => ?_⟩
          obtain ⟨z', hz'⟩ : ∃ z, x.2.2[i]? = some z := ⟨_, List.getElem?_eq_getElem hi⟩
          obtain ⟨q', u', e', _, g3⟩ := p4 i z' hz'
          rw [e] at e'
          cases e'
          rw [List.getD_eq_getElem?_getD, hz', Option.getD_some]
          exact g3
      have hQm : Q ≤ maxLen := by omega
      have hlo : (0 : Int) ≤ (j : Int) := by omega
      have hhi : (j : Int) < (m : Int) := by omega
      have HSX := Lib.hid hsx
      have HBA := Lib.hid hbal
      have HQ := Lib.hid hQ
      clear hy hx g1 g2 k1 k2 r0 q0 p1 p2 p3 p4 hQ hyv hsx hbal hy1 hy2
      go_upto_region 19 with (fail)
      go_quiet ((go_at_call 14; exact Calls.quiet_of (whole_any g y.2.1 0 x.1 Q x.2.1 x.2.2 _ HQ.out.symm (HBA.out.below (Below.drewK HB5.out _)) (HSX.out.below (Below.drewK HB5.out _)) hQm)))
      go_wp2
      go_roundw
      case rel => exact ⟨j + 1, by omega, by go_num, by go_num, HS5.out, Below.drewK HB5.out nq⟩
      case measure => simp [intOf]; omega
    · obtain rfl : j = m := by omega
      obtain ⟨m1, c1, hlv, hsee1, _⟩ := H1.out.slice
      rw [HML.out] at hlv
      subst hlv
      obtain ⟨_, _, e2, hsee2, _⟩ := H2.out.slice
      injection e2 with e2a e2b e2c
      rw [← e2a] at hsee2
      clear e2a e2b e2c
      have hM6 : M ≤ maxLen := by unfold maxLen; omega
      have hsa : SeesM wr m1 MS := hsee1.belowB HB5.out
      have hsb : SeesM wr m2 MS := hsee2.belowB HB5.out
      have HSA := Lib.hid hsa
      have HSB := Lib.hid hsb
      clear hsa hsb hsee1 hsee2
      go_upto_region 22 with (first | (go_at_call 15; go_must (refine (Same_yes m1 m3 M c1 c3 MS _ HML.out HSA.out HS5.out hM6).mono ?_; rintro e w6 ⟨rfl, d6, rfl⟩)))
      obtain ⟨W4, hW4⟩ : ∃ W4, W4 = wr.drewN d6 := ⟨_, rfl⟩
      have hr4 : RawM W4 B1 (.slice m1 M c1) M := by
        rw [hW4]
        have h := H1.out
        have h2 : OwnM wr B1 (.slice m1 M c1) MS := h.at fun g hg => HB5.out.block g (h.block hg).2
        unfold OwnM at h2
        rw [HML.out] at h2
        exact ⟨_, h2⟩
      have hB4 : Below w.heap.size w W4 := by rw [hW4]; exact Below.drewK HB5.out d6
      have hs24 : SeesM W4 m2 MS := by rw [hW4]; exact HSB.out
      have hs34 : SeesM W4 m3 MS := by rw [hW4]; exact HS5.out
      rw [← hW4]
      have HR4 := Lib.hid hr4
      have HB4 := Lib.hid hB4
      have HS24 := Lib.hid hs24
      have HS34 := Lib.hid hs34
      clear hW4 hr4 hB4 hs24 hs34
      go_wp2
      go_loopw [21] (fun i wr => ∃ i0 : Nat, i0 ≤ M ∧ i = .int .i64 i0 ∧ RawM wr B1 (.slice m1 M c1) M ∧ W4.grownBy wr (Value.slice m1 M c1).ownBlock) (fun i _ => M - (intOf i).toNat)
      case atStart => exact ⟨0, Nat.zero_le _, rfl, HR4.out, World.grownBy.refl W4 _⟩
      case round =>
        obtain ⟨q, hq, rfl, hraw, hgr⟩ := hrel
        have HRAW := Lib.hid hraw
        have HGR := Lib.hid hgr
        by_cases hqm : q < M
        · obtain ⟨gb, rfl⟩ : ∃ gb, m1 = some ⟨gb, 0, none⟩ := by
            rcases H1.out.form with ⟨e, e2⟩ | ⟨gg, cap, e⟩
            · have := HML.out; rw [e2] at this; simp at this; omega
            · injection e with e1 _ _; exact ⟨gg, e1⟩
          obtain ⟨⟨ua, ca⟩, fa⟩ := hraw.cell (k := q * 3) (by omega)
          obtain ⟨⟨ub, cb⟩, fb⟩ := hraw.cell (k := q * 3 + 1) (by omega)
          obtain ⟨⟨uc, cc⟩, fc⟩ := hraw.cell (k := q * 3 + 2) (by omega)
          have hlo : (0 : Int) ≤ (q : Int) := by omega
          have hhi : (q : Int) < (M : Int) := by omega
          clear hraw hgr
          go_wp2
          exact ⟨⟨q + 1, by omega, by go_num, ((HRAW.out.set _).set _).set _, grown_set (grown_set (grown_set HGR.out rfl _) rfl _) rfl _⟩, by simp [intOf]; omega⟩
        · obtain rfl : q = M := by omega
          clear hraw hgr
          have hlow : ∀ k, (Value.slice m1 q c1).ownBlock = some k → B ≤ k := fun k hk => Nat.le_trans hBB (H1.out.block hk).1
          have hn2 : ∀ p o, m2 = some ⟨p, o, none⟩ → (Value.slice m1 q c1).ownBlock ≠ some p := fun p o e h => HDI.out p h (by rw [e]; rfl)
          have hn3 : ∀ p o, m3 = some ⟨p, o, none⟩ → (Value.slice m1 q c1).ownBlock ≠ some p := fun p o e h => by have := HN3.out p o e; have := (H1.out.block h).2; omega
          have hz4 := HB4.out.size
          have hzr := HGR.out.size
          have hB1r : B1 ≤ wr.heap.size := by omega
          have HL := Lib.hid hlow
          have HN2 := Lib.hid hn2
          have HN3' := Lib.hid hn3
          clear hlow hn2 hn3
          go_wp2_with (first
            | (at_builtin; refine wpList_appendRaw (n := q) (v := .slice m1 q c1) (B := B1) (x := (-1, 0, 0)) (HRAW.out.alloc _) (by simp <;> omega) wr.heap.size 1 (seesM_one (heap_alloc_new _ _)) hMM rfl _ _ rfl rfl rfl ?_; intro v7 w7 hg7)
            | (go_at_call 15; go_must (refine (Same_yes m2 m3 q c2 c3 MS _ HML.out ((HS24.out.grown (grown_alloc HGR.out _) HN2.out).grown hg7 HN2.out) ((HS34.out.grown (grown_alloc HGR.out _) HN3'.out).grown hg7 HN3'.out) (by unfold maxLen; omega)).mono ?_; rintro e w8 ⟨rfl, d8, rfl⟩)))
          exact Below.drewK ((HB4.out.mono hBw).grown (grown_trans (grown_alloc HGR.out _) hg7) (by omega) HL.out) d8
end Go.Proofs.Ytaiinkeendejdaa
