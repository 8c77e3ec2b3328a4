/-
  quash/quashref23.Same of two scripts that read alike: true. Condition: what they see in memory (SV.Sees).
-/
import Derived.Test.YtoiokbdipcecnaaGreatDoorScrVal
import Derived.Deep.QuietTactic
namespace Go.Proofs.YtoiokbdipcecnaaGreatDoor
open Go.RowKit
set_option maxRecDepth 100000

structure SV.Alike (x y : SV) : Prop where
  c : ∀ i, i < 6 → x.c.getD i 0 = y.c.getD i 0
  s : x.s = y.s
  P : progsV x.P = progsV y.P
  k : x.k = y.k
  d : x.d = y.d
theorem alike_part {x y : SV} (h : x.Alike y) {j : Nat} {p : PartV} (hp : x.P[j]? = some p) : ∃ q, y.P[j]? = some q ∧ q.2.2 = p.2.2 := by
  have h1 := progsV_at hp
  rw [h.P] at h1
  unfold progsV at h1
  rw [List.getElem?_map] at h1
  obtain ⟨q, h2, h3⟩ := Option.map_eq_some_iff.1 h1
  exact ⟨q, h2, h3⟩
theorem two_boxes (w : World) (A B : Obj) : ((w.alloc A).alloc B).heap[w.heap.size]? = some A ∧ ((w.alloc A).alloc B).heap[w.heap.size + 1]? = some B ∧ Below w.heap.size w ((w.alloc A).alloc B) := by
  have hb : Below w.heap.size w (w.alloc A) := (Below.refl _ _).alloc (Nat.le_refl _) _
  have hz : (w.alloc A).heap.size = w.heap.size + 1 := by simp
  refine ⟨(((Below.refl _ (w.alloc A)).alloc (Nat.le_refl _) B).block _ (by rw [hz]; omega)).trans (heap_new w A _ rfl), heap_new _ B _ hz.symm, hb.alloc (by rw [hz]; omega) _⟩
theorem sees_at {w : World} {ao : Option Addr} {zs : List Int} (h : Sees w ao zs) {k : Nat} (hk : k < zs.length) : ∃ b o, ao = some ⟨b, o, none⟩ ∧ w.cell? ⟨b, o + k, none⟩ = some (.int .i64 (zs.getD k 0)) := by
  obtain ⟨b, o, h1, h2⟩ := h
  exact ⟨b, o, h1 (by intro e; subst e; simp at hk), h2 k hk⟩
theorem seesP_at {w : World} {ao : Option Addr} {l : List (Int × Int)} (h : SeesP w ao l) {k : Nat} (hk : k < l.length) : ∃ b o x, ao = some ⟨b, o, none⟩ ∧ l[k]? = some x ∧ w.cell? ⟨b, o + k * 2, none⟩ = some (.int .i64 x.1) ∧ w.cell? ⟨b, o + k * 2 + 1, none⟩ = some (.int .i64 x.2) := by
  obtain ⟨b, o, h1, h2⟩ := h
  have e : l[k]? = some l[k] := List.getElem?_eq_getElem hk
  exact ⟨b, o, l[k], h1 (by intro e; subst e; simp at hk), e, h2 k _ e⟩
set_option maxHeartbeats 8000000 in
theorem Same_yes (x y : SV) (w : World) (hx : x.Sees w) (hy : y.Sees w) (ha : x.Alike y) :
    Calls Tryz.prog 14 #[x.v, y.v] w fun e w' => e = .returned (.bool true) ∧ Below w.heap.size w w' := by
  have HX := Lib.hid hx
  have HY := Lib.hid hy
  have HA := Lib.hid ha
  have hPl : x.P.length = y.P.length := by rw [← progsV_length x.P, ← progsV_length y.P, ha.P]
  unfold SV.v
  rw [ha.c 0 (by decide), ha.c 1 (by decide), ha.c 2 (by decide), ha.c 3 (by decide), ha.c 4 (by decide), ha.c 5 (by decide), ha.d, ha.s, ha.k, hPl]
  obtain ⟨ns, hns⟩ : ∃ n, n = y.s.length := ⟨_, rfl⟩
  obtain ⟨np, hnp⟩ : ∃ n, n = y.P.length := ⟨_, rfl⟩
  obtain ⟨nk, hnk⟩ : ∃ n, n = y.k.length := ⟨_, rfl⟩
  have hs1 := hy.sl
  have hp1 := hy.pl
  have hk1 := hy.kl
  rw [← hns] at hs1 ⊢
  rw [← hnp] at hp1 ⊢
  rw [← hnk] at hk1 ⊢
  have HNS := Lib.hid hns
  have HNP := Lib.hid (hPl.trans hnp.symm)
  have HNK := Lib.hid hnk
  generalize y.c.getD 0 0 = c0
  generalize y.c.getD 1 0 = c1
  generalize y.c.getD 2 0 = c2
  generalize y.c.getD 3 0 = c3
  generalize y.c.getD 4 0 = c4
  generalize y.c.getD 5 0 = c5
  generalize y.d = d
  unfold maxLen at hs1 hp1 hk1
  clear hx hy ha hPl hns hnp hnk
  go_enter Tryz.func14, Tryz.ntmps14
  go_upto_region 3 with (fail)
  obtain ⟨W, hW⟩ : ∃ W, W = (w.alloc (.cells #[.int .i64 c0, .int .i64 c1, .int .i64 c2, .int .i64 c3, .int .i64 c4, .int .i64 c5, .slice x.so ns x.sc, .slice x.po np x.pc, .slice x.ko nk x.kc, .int .i64 d] 29)).alloc (.cells #[.int .i64 c0, .int .i64 c1, .int .i64 c2, .int .i64 c3, .int .i64 c4, .int .i64 c5, .slice y.so ns y.sc, .slice y.po np y.pc, .slice y.ko nk y.kc, .int .i64 d] 29) := ⟨_, rfl⟩
  rw [← hW]
  have hq := two_boxes w (.cells #[.int .i64 c0, .int .i64 c1, .int .i64 c2, .int .i64 c3, .int .i64 c4, .int .i64 c5, .slice x.so ns x.sc, .slice x.po np x.pc, .slice x.ko nk x.kc, .int .i64 d] 29) (.cells #[.int .i64 c0, .int .i64 c1, .int .i64 c2, .int .i64 c3, .int .i64 c4, .int .i64 c5, .slice y.so ns y.sc, .slice y.po np y.pc, .slice y.ko nk y.kc, .int .i64 d] 29)
  rw [← hW] at hq
  obtain ⟨q1, q2, hB⟩ := hq
  have q6x := cell_of_row _ _ 6 _ _ _ q1
  have q7x := cell_of_row _ _ 7 _ _ _ q1
  have q8x := cell_of_row _ _ 8 _ _ _ q1
  have q6y := cell_of_row _ _ 6 _ _ _ q2
  have q7y := cell_of_row _ _ 7 _ _ _ q2
  have q8y := cell_of_row _ _ 8 _ _ _ q2
  have SX := Lib.hid (show Sees W x.so y.s from HA.out.s ▸ HX.out.s.below hB)
  have SY := Lib.hid (HY.out.s.below hB)
  have KX := Lib.hid (show Sees W x.ko y.k from HA.out.k ▸ HX.out.k.below hB)
  have KY := Lib.hid (HY.out.k.below hB)
  have HXW := Lib.hid (HX.out.below hB)
  have HYW := Lib.hid (HY.out.below hB)
  have HB := Lib.hid hB
  clear q1 q2 hB hW
  go_wp2
  go_loopw [5] (fun v wr => ∃ k : Nat, k ≤ ns ∧ v = .int .i64 k ∧ ∃ dd, wr = W.drewN dd) (fun v _ => ns - (intOf v).toNat)
  case atStart => exact ⟨0, by omega, rfl, 0, rfl⟩
  case round =>
    obtain ⟨k, hk, rfl, dd, rfl⟩ := hrel
    by_cases hlt : k < ns
    · obtain ⟨b, o, e1, k1⟩ := sees_at SX.out (by rw [← HNS.out]; exact hlt)
      obtain ⟨b', o', e2, k2⟩ := sees_at SY.out (by rw [← HNS.out]; exact hlt)
      generalize y.s.getD k 0 = z at k1 k2
      rw [e1] at q6x ⊢
      rw [e2] at q6y ⊢
      have hlo : (0 : Int) ≤ (k : Int) := by omega
      have hhi : (k : Int) < (ns : Int) := by omega
      clear e1 e2
      go_wp2
      go_quiet (fail)
      go_wp2
      go_roundw
      case rel => exact ⟨k + 1, by omega, by go_num, _, rfl⟩
      case measure => simp [intOf]; omega
    · obtain rfl : ns = k := by omega
      clear hk hlt
      go_wp2
      go_loopw [6] (fun v wr => ∃ k : Nat, k ≤ nk ∧ v = .int .i64 k ∧ ∃ dd, wr = W.drewN dd) (fun v _ => nk - (intOf v).toNat)
      case atStart => exact ⟨0, by omega, rfl, _, rfl⟩
      case round =>
        obtain ⟨k, hk, rfl, dd, rfl⟩ := hrel
        by_cases hlt : k < nk
        · obtain ⟨b, o, e1, k1⟩ := sees_at KX.out (by rw [← HNK.out]; exact hlt)
          obtain ⟨b', o', e2, k2⟩ := sees_at KY.out (by rw [← HNK.out]; exact hlt)
          generalize y.k.getD k 0 = z at k1 k2
          rw [e1] at q8x ⊢
          rw [e2] at q8y ⊢
          have hlo : (0 : Int) ≤ (k : Int) := by omega
          have hhi : (k : Int) < (nk : Int) := by omega
          clear e1 e2
          go_wp2
          go_quiet (fail)
          go_wp2
          go_roundw
          case rel => exact ⟨k + 1, by omega, by go_num, _, rfl⟩
          case measure => simp [intOf]; omega
        · obtain rfl : nk = k := by omega
          clear hk hlt
          go_wp2
          go_loopw [7] (fun v wr => ∃ k : Nat, k ≤ np ∧ v = .int .i64 k ∧ ∃ dd, wr = W.drewN dd) (fun v _ => np - (intOf v).toNat)
          case atStart => exact ⟨0, by omega, rfl, _, rfl⟩
          case round =>
            obtain ⟨k, hk, rfl, dd, rfl⟩ := hrel
            by_cases hlt : k < np
            · obtain ⟨p, hp⟩ : ∃ p, x.P[k]? = some p := ⟨_, List.getElem?_eq_getElem (by rw [HNP.out]; exact hlt)⟩
              obtain ⟨q, hq, hpq⟩ := alike_part HA.out hp
              obtain ⟨b, o, e1, c1, s1⟩ := HXW.out.part hp
              obtain ⟨b', o', e2, c2, s2⟩ := HYW.out.part hq
              have hle := HXW.out.ok p (List.mem_of_getElem? hp)
              obtain ⟨pa, pc, pl⟩ := p
              obtain ⟨qa, qc, ql⟩ := q
              simp only at hpq c1 c2 s1 s2 hle
              subst hpq
              have S1 := Lib.hid s1
              have S2 := Lib.hid s2
              obtain ⟨n, hn⟩ : ∃ n, n = ql.length := ⟨_, rfl⟩
              rw [← hn] at c1 c2 hle
              have HN := Lib.hid hn
              rw [e1] at q7x ⊢
              rw [e2] at q7y ⊢
              have hlo : (0 : Int) ≤ (k : Int) := by omega
              have hhi : (k : Int) < (np : Int) := by omega
              unfold maxLen at hle
              clear e1 e2 hp hq s1 s2 hn
              go_wp2
              go_quiet (fail)
              go_wp2
              go_loopw [8] (fun v wr => ∃ j : Nat, j ≤ n ∧ v = .int .i64 j ∧ ∃ dd, wr = W.drewN dd) (fun v _ => n - (intOf v).toNat)
              case atStart => exact ⟨0, by omega, rfl, dd + nq, by rw [World.drewN_drewN]⟩
              case round =>
                obtain ⟨j, hj, rfl, dd, rfl⟩ := hrel
                by_cases hlj : j < n
                · obtain ⟨b1, o1, z, e1, hz, k1, k2⟩ := seesP_at S1.out (by rw [← HN.out]; exact hlj)
                  obtain ⟨b2, o2, z', e2, hz', k3, k4⟩ := seesP_at S2.out (by rw [← HN.out]; exact hlj)
                  rw [hz] at hz'
                  injection hz' with hz'
                  subst hz'
                  obtain ⟨z1, z2⟩ := z
                  simp only at k1 k2 k3 k4
                  have hjo : (0 : Int) ≤ (j : Int) := by omega
                  have hji : (j : Int) < (n : Int) := by omega
                  rw [e1] at c1
                  rw [e2] at c2
                  try rw [e1]
                  try rw [e2]
                  clear e1 e2 hz
                  go_wp2
                  go_quiet (fail)
                  go_wp2
                  go_roundw
                  case rel => exact ⟨j + 1, by omega, by go_num, _, rfl⟩
                  case measure => simp [intOf]; omega
                · obtain rfl : n = j := by omega
                  clear hj hlj
                  go_wp2
                  go_roundw
                  case rel => exact ⟨k + 1, by omega, by go_num, _, rfl⟩
                  case measure => simp [intOf]; omega
            · obtain rfl : np = k := by omega
              clear hk hlt
              go_wp2
              go_ret
              exact ⟨rfl, HB.out.trans (below_drewN _ W _)⟩
end Go.Proofs.YtoiokbdipcecnaaGreatDoor
