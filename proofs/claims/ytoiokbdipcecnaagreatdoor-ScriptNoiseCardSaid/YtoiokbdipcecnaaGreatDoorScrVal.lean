/-
  A script as a value; quash/script.Check and quash/quashref23.Check: every script. Condition: what it sees in memory (SV.Sees).
-/
import Derived.Test.YtoiokbdipcecnaaGreatDoorScrStart
import Derived.Test.YtoiokbdipcecnaaGreatDoorRefSmall15
import Derived.Test.YtoiokbdipcecnaaGreatDoorJoinMem
import Derived.Test.YtoiokbdipcecnaaGreatDoorSees
namespace Go.Proofs.YtoiokbdipcecnaaGreatDoor
open Go.RowKit
set_option maxRecDepth 100000

/-- a script: its numbers, its slices (address, capacity, what they read as) -/
structure SV where
  c : List Int
  so : Option Addr
  sc : Nat
  s : List Int
  po : Option Addr
  pc : Nat
  P : List PartV
  ko : Option Addr
  kc : Nat
  k : List Int
  d : Int
def SV.v (x : SV) : Value := .agg #[.int .i64 (x.c.getD 0 0), .int .i64 (x.c.getD 1 0), .int .i64 (x.c.getD 2 0), .int .i64 (x.c.getD 3 0), .int .i64 (x.c.getD 4 0), .int .i64 (x.c.getD 5 0), .slice x.so x.s.length x.sc, .slice x.po x.P.length x.pc, .slice x.ko x.k.length x.kc, .int .i64 x.d]
structure SV.Sees (w : World) (x : SV) : Prop where
  s : Go.Proofs.YtoiokbdipcecnaaGreatDoor.Sees w x.so x.s
  p : SeesR w x.po x.P
  k : Go.Proofs.YtoiokbdipcecnaaGreatDoor.Sees w x.ko x.k
  ok : ∀ y ∈ x.P, y.2.2.length ≤ maxLen
  sl : x.s.length ≤ maxLen
  pl : x.P.length ≤ maxLen
  kl : x.k.length ≤ maxLen
theorem SV.Sees.below {w w' : World} {x : SV} (h : x.Sees w) (hb : Below w.heap.size w w') : x.Sees w' := ⟨h.s.below hb, h.p.below hb, h.k.below hb, h.ok, h.sl, h.pl, h.kl⟩
/-- the first program that may not be -/
def badP : List Prog → Int
  | [] => 0
  | p :: r => if (checkL p).1 = 0 then badP r else (checkL p).1
def scrCheckS (c s : List Int) (P : List Prog) (k : List Int) (d : Int) : Int :=
  if cfgB c = false then 1 else if c.getD 0 0 < (s.length : Int) then 230 else if P.length < 1 ∨ 8 < P.length then 231
  else if badP P ≠ 0 then badP P else if 65536 < k.length ∨ d < 0 ∨ 65536 < d then 232 else 0
def SV.check (x : SV) : Int := scrCheckS x.c x.s (progsV x.P) x.k x.d
theorem badP_at {P : List Prog} {k : Nat} {p : Prog} (h : P[k]? = some p) : badP (P.drop k) = if (checkL p).1 = 0 then badP (P.drop (k + 1)) else (checkL p).1 := by
  obtain ⟨h1, h2⟩ := List.getElem?_eq_some_iff.1 h
  rw [List.drop_eq_getElem_cons h1, h2, badP]
theorem badP_zero {P : List Prog} : badP P = 0 ↔ ∀ p ∈ P, (checkL p).1 = 0 := by
  induction P with
  | nil => exact ⟨fun _ p h => (by cases h), fun _ => rfl⟩
  | cons p r ih =>
    rw [badP]
    by_cases h : (checkL p).1 = 0
    · rw [if_pos h, ih]
      exact ⟨fun h2 q hq => (List.mem_cons.1 hq).elim (fun e => e ▸ h) (fun hq => h2 q hq), fun h2 q hq => h2 q (List.mem_cons_of_mem _ hq)⟩
    · rw [if_neg h]
      exact ⟨fun h2 => absurd h2 h, fun h2 => absurd (h2 p (List.mem_cons_self ..)) h⟩
theorem SV.Sees.part {w : World} {x : SV} (h : x.Sees w) {k : Nat} {y : PartV} (hy : x.P[k]? = some y) : ∃ b o, x.po = some ⟨b, o, none⟩ ∧ w.cell? ⟨b, o + k, none⟩ = some (.slice y.1 y.2.2.length y.2.1) ∧ SeesP w y.1 y.2.2 := by
  obtain ⟨b, o, h1, h2⟩ := h.p
  exact ⟨b, o, h1 (by intro e; rw [e] at hy; cases hy), h2 k y hy⟩
set_option maxHeartbeats 4000000 in
theorem scrCheck_any (x : SV) (w : World) (h : x.Sees w) :
    Calls Tryz.prog 9 #[x.v] w fun e w' => e = .returned (.int .i64 x.check) ∧ Below w.heap.size w w' := by
  have H := Lib.hid h
  obtain ⟨K, hK⟩ : ∃ K, x.check = K := ⟨_, rfl⟩
  rw [hK]
  unfold SV.check scrCheckS at hK
  unfold SV.v
  have hcfg := fun W => spaceCheck_any x.c W
  unfold cfgV at hcfg
  obtain ⟨cb, hcb⟩ : ∃ b, cfgB x.c = b := ⟨_, rfl⟩
  rw [hcb] at hcfg hK
  have HPL := Lib.hid (progsV_length x.P)
  rw [progsV_length] at hK
  generalize x.c.getD 0 0 = c0 at *
  generalize x.c.getD 1 0 = c1 at *
  generalize x.c.getD 2 0 = c2 at *
  generalize x.c.getD 3 0 = c3 at *
  generalize x.c.getD 4 0 = c4 at *
  generalize x.c.getD 5 0 = c5 at *
  obtain ⟨ns, hns⟩ : ∃ n, n = x.s.length := ⟨_, rfl⟩
  obtain ⟨np, hnp⟩ : ∃ n, n = x.P.length := ⟨_, rfl⟩
  obtain ⟨nk, hnk⟩ : ∃ n, n = x.k.length := ⟨_, rfl⟩
  have hs1 := h.sl
  have hp1 := h.pl
  have hk1 := h.kl
  rw [← hns] at hK hs1 ⊢
  rw [← hnp] at hK hp1 ⊢
  rw [← hnk] at hK hk1 ⊢
  have HN := Lib.hid hnp
  generalize x.so = so
  generalize x.sc = sc
  generalize x.pc = pc
  generalize x.ko = ko
  generalize x.kc = kc
  generalize x.d = d at hK ⊢
  unfold maxLen at hs1 hp1 hk1
  clear h hns hnp hnk hcb
  cases cb with
  | false =>
    have HC := Lib.hid hcfg
    rw [if_pos rfl] at hK
    have HK := Lib.hid hK
    clear hcfg hK
    go_enter Tryz.func9, Tryz.ntmps9
    go_wp2_with (go_at_call 15; go_must (refine (HC.out _).mono ?_; rintro e w1 ⟨rfl, hb1⟩))
    go_ret
    exact ⟨by rw [← HK.out]; rfl, ((Below.refl _ _).alloc (Nat.le_refl _) _).trans (hb1.mono (by simp))⟩
  | true =>
    rw [if_neg (by decide)] at hK
    by_cases h1 : c0 < (ns : Int)
    · rw [if_pos h1] at hK
      have HC := Lib.hid hcfg
      have HK := Lib.hid hK
      clear hcfg hK
      go_enter Tryz.func9, Tryz.ntmps9
      go_wp2_with (go_at_call 15; go_must (refine (HC.out _).mono ?_; rintro e w1 ⟨rfl, hb1⟩; have q := (hb1.block _ (by simp)).trans (heap_new w _ w.heap.size rfl); have q6 := cell_of_row _ _ 6 _ _ _ q; have q0 := cell_of_row _ _ 0 _ _ _ q; clear q))
      go_ret
      exact ⟨by rw [← HK.out]; rfl, ((Below.refl _ _).alloc (Nat.le_refl _) _).trans (hb1.mono (by simp))⟩
    · rw [if_neg h1] at hK
      by_cases h2 : np < 1 ∨ 8 < np
      · rw [if_pos h2] at hK
        have HC := Lib.hid hcfg
        have HK := Lib.hid hK
        clear hcfg hK
        rcases h2 with h2 | h2
        · obtain rfl : np = 0 := by omega
          clear h2
          go_enter Tryz.func9, Tryz.ntmps9
          go_wp2_with (go_at_call 15; go_must (refine (HC.out _).mono ?_; rintro e w1 ⟨rfl, hb1⟩; have q := (hb1.block _ (by simp)).trans (heap_new w _ w.heap.size rfl); have q6 := cell_of_row _ _ 6 _ _ _ q; have q0 := cell_of_row _ _ 0 _ _ _ q; have q7 := cell_of_row _ _ 7 _ _ _ q; clear q))
          go_ret
          exact ⟨by rw [← HK.out]; rfl, ((Below.refl _ _).alloc (Nat.le_refl _) _).trans (hb1.mono (by simp))⟩
        · have h3 : ¬ (np : Int) < 1 := by omega
          have h4 : (8 : Int) < (np : Int) := by omega
          clear h2
          go_enter Tryz.func9, Tryz.ntmps9
          go_wp2_with (go_at_call 15; go_must (refine (HC.out _).mono ?_; rintro e w1 ⟨rfl, hb1⟩; have q := (hb1.block _ (by simp)).trans (heap_new w _ w.heap.size rfl); have q6 := cell_of_row _ _ 6 _ _ _ q; have q0 := cell_of_row _ _ 0 _ _ _ q; have q7 := cell_of_row _ _ 7 _ _ _ q; clear q))
          go_ret
          exact ⟨by rw [← HK.out]; rfl, ((Below.refl _ _).alloc (Nat.le_refl _) _).trans (hb1.mono (by simp))⟩
      · rw [if_neg h2] at hK
        have h3 : ¬ (np : Int) < 1 := by omega
        have h4 : ¬ (8 : Int) < (np : Int) := by omega
        have HC := Lib.hid hcfg
        have HK := Lib.hid hK
        clear hcfg hK h2
        go_enter Tryz.func9, Tryz.ntmps9
        go_wp2_with (go_at_call 15; go_must (refine (HC.out _).mono ?_; rintro e w1 ⟨rfl, hb1⟩; have q := (hb1.block _ (by simp)).trans (heap_new w _ w.heap.size rfl); have q6 := cell_of_row _ _ 6 _ _ _ q; have q0 := cell_of_row _ _ 0 _ _ _ q; have q7 := cell_of_row _ _ 7 _ _ _ q; have Q := Lib.hid q; clear q))
        have HB1 := Lib.hid (((Below.refl _ _).alloc (Nat.le_refl _) _).trans (hb1.mono (by simp)) : Below w.heap.size w w1)
        have hlt0 : w.heap.size < w1.heap.size := lt_of_block Q.out
        clear hb1 q6 q0 q7
        go_loopw [36] (fun i wr => ∃ k : Nat, k ≤ np ∧ i = .int .i64 k ∧ Below w1.heap.size w1 wr ∧ badP ((progsV x.P).drop k) = badP (progsV x.P)) (fun i _ => np - (intOf i).toNat)
        case atStart => exact ⟨0, Nat.zero_le _, rfl, Below.refl _ _, rfl⟩
        case round =>
          obtain ⟨k, hk, rfl, hB, hbad⟩ := hrel
          have HB := Lib.hid hB
          have HBAD := Lib.hid hbad
          have HBR := Lib.hid (HB1.out.trans (hB.mono HB1.out.size))
          clear hB hbad
          by_cases hlt : k < np
          · obtain ⟨y, hy⟩ : ∃ y, x.P[k]? = some y := ⟨_, List.getElem?_eq_getElem (by rw [← HN.out]; exact hlt)⟩
            obtain ⟨b, o, hpo, hc, hsp⟩ := H.out.part hy
            have c0' := (HBR.out.cell (p := ⟨b, _, none⟩) (block_lt_of_cell hc)).trans hc
            have hck := fun W (hb : Below w.heap.size w W) => Check_all y.1 y.2.2.length y.2.1 y.2.2 W rfl (hsp.below hb) (H.out.ok y (List.mem_of_getElem? hy))
            have hbs := badP_at (progsV_at hy)
            rw [HBAD.out] at hbs
            rw [hpo]
            obtain ⟨y1, y2, y3⟩ := y
            simp only at hck hbs c0'
            generalize y3.length = yn at hck c0'
            have HCK := Lib.hid hck
            have hi0 : (0 : Int) ≤ (k : Int) := by omega
            have hi1 : (k : Int) < (np : Int) := by omega
            by_cases hz : (checkL y3).1 = 0
            · rw [if_pos hz] at hbs
              have HBS := Lib.hid hbs
              have HZ := Lib.hid hz
              clear hy hc hsp hck hbs hz hpo
              go_wp2_with (go_at_call 16; go_must (refine (HCK.out _ HBR.out).mono ?_; rintro e w2 ⟨rfl, hb2⟩; rw [HZ.out]))
              go_roundw
              case rel => exact ⟨k + 1, by omega, by go_num, HB.out.trans (hb2.mono HB.out.size), HBS.out.symm⟩
              case measure => simp [intOf]; omega
            · rw [if_neg hz] at hbs
              have hz1 : ((checkL y3).1 != 0) = true := by simpa using hz
              have HKK := Lib.hid (show (checkL y3).1 = K by rw [← HK.out, if_pos (by rw [hbs]; exact hz), hbs])
              generalize (checkL y3).1 = z1 at hz1 HKK HCK
              clear hy hc hsp hck hbs hz hpo
              go_wp2_with (go_at_call 16; go_must (refine (HCK.out _ HBR.out).mono ?_; rintro e w2 ⟨rfl, hb2⟩))
              go_ret
              exact ⟨by rw [← HKK.out]; rfl, HBR.out.trans (hb2.mono HBR.out.size)⟩
          · obtain rfl : k = np := by omega
            have hbz : badP (progsV x.P) = 0 := by rw [← HBAD.out, List.drop_eq_nil_of_le (by rw [HPL.out, ← HN.out]; exact Nat.le_refl _)]; rfl
            have hk2 := HK.out
            rw [hbz, if_neg (by simp)] at hk2
            have hq := (HB.out.block _ hlt0).trans Q.out
            have r8 := cell_of_row _ _ 8 _ _ _ hq
            have r9 := cell_of_row _ _ 9 _ _ _ hq
            clear hq hbz
            by_cases j1 : 65536 < nk
            · rw [if_pos (.inl j1)] at hk2
              have HKK := Lib.hid hk2
              have j1' : (65536 : Int) < (nk : Int) := by omega
              clear hk2 j1
              go_wp2
              go_ret
              exact ⟨by rw [← HKK.out]; rfl, HBR.out⟩
            · have j1' : ¬ (65536 : Int) < (nk : Int) := by omega
              by_cases j2 : d < 0
              · rw [if_pos (.inr (.inl j2))] at hk2
                have HKK := Lib.hid hk2
                clear hk2 j1
                go_wp2
                go_ret
                exact ⟨by rw [← HKK.out]; rfl, HBR.out⟩
              · by_cases j3 : 65536 < d
                · rw [if_pos (.inr (.inr j3))] at hk2
                  have HKK := Lib.hid hk2
                  clear hk2 j1
                  go_wp2
                  go_ret
                  exact ⟨by rw [← HKK.out]; rfl, HBR.out⟩
                · rw [if_neg (by omega)] at hk2
                  have HKK := Lib.hid hk2
                  clear hk2 j1
                  go_wp2
                  go_ret
                  exact ⟨by rw [← HKK.out]; rfl, HBR.out⟩
end Go.Proofs.YtoiokbdipcecnaaGreatDoor
