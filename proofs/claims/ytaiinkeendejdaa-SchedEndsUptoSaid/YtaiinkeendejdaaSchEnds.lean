/-
  quash/quashlaw04.SchedEnds: the loop ahead of the call of Play, and what stands behind it, alone. No condition.
  And: SCHED: what a play comes to, mark by mark; a drain that is long enough ends all. No condition.
-/
import Derived.Test.YtaiinkeendejdaaSchFairS
import Derived.Test.YtaiinkeendejdaaSchFair
namespace Go.Proofs.Ytaiinkeendejdaa
open Go.RowKit
open Go.ConcN (sumTo upd upd_ne upd_same)
/-- what a pick of thread t (from 1 on) comes to behind these marks -/
def wantP (ps : List (List Int)) (l : List Mk) (t : Nat) : Int :=
  if endP l t then 4 else match (ps.getD (t - 1) [])[cntP l t]? with
    | some z => z
    | none => 4
def EndAt (ps : List (List Int)) (picks : List Int) (l : List Mk) (x : Mk) : Prop :=
  x.1 = (l.length : Int) + 1 ∧ ∃ t : Nat, x.2.1 = (t : Int) ∧ 1 ≤ t ∧ t ≤ ps.length ∧ x.2.2 = wantP ps l t ∧ (∀ p, picks[l.length]? = some p → t = roundS ps.length p + 1) ∧ (picks.length ≤ l.length → endP l t = false)
def EndsL (ps : List (List Int)) (picks : List Int) (ms : List Mk) : Prop := ∀ i x, ms[i]? = some x → EndAt ps picks (ms.take i) x
theorem EndsL.snoc {ps : List (List Int)} {picks : List Int} {ms : List Mk} {x : Mk} (h : EndsL ps picks ms) (hx : EndAt ps picks ms x) : EndsL ps picks (ms ++ [x]) := fun i y hy => by
  by_cases hi : i < ms.length
  · rw [List.getElem?_append_left hi] at hy
    rw [List.take_append_of_le_length (by omega)]
    exact h i y hy
  · have hl := (List.getElem?_eq_some_iff.1 hy).1
    rw [List.length_append, List.length_singleton] at hl
    obtain rfl : i = ms.length := by omega
    rw [List.getElem?_append_right (Nat.le_refl _), Nat.sub_self] at hy
    obtain rfl := Option.some.inj hy
    rw [List.take_left]
    exact hx
structure EndsInv (ps : List (List Int)) (s : Nat → Nat) (e : Nat → Bool) (ms : List Mk) : Prop where
  ends : ∀ t, t < ps.length → e t = endP ms ((t : Int) + 1)
  at_ : ∀ t, t < ps.length → e t = false → s t = cntP ms ((t : Int) + 1) ∧ s t ≤ (ps.getD t []).length
def restT (ps : List (List Int)) (s : Nat → Nat) (e : Nat → Bool) (t : Nat) : Nat := if e t then 0 else (ps.getD t []).length - s t + 1
def potT (ps : List (List Int)) (s : Nat → Nat) (e : Nat → Bool) : Nat := sumTo ps.length (restT ps s e)
theorem sumTo_one {f g : Nat → Nat} {k d : Nat} : ∀ {n : Nat}, k < n → (∀ t, t ≠ k → g t = f t) → g k + d ≤ f k → sumTo n g + d ≤ sumTo n f
  | n + 1, hk, h, hd => by
    have e : ∀ m, (∀ t, t < m → g t = f t) → sumTo m g = sumTo m f := fun m hm => Go.ConcN.sumTo_congr hm
    simp only [sumTo]
    by_cases hkn : k = n
    · subst hkn
      rw [e k fun t ht => h t (by omega)]
      omega
    · have := sumTo_one (n := n) (by omega) h hd
      rw [h n (Ne.symm hkn)]
      omega
/-- one pick -/
theorem ends_pick {ps : List (List Int)} {k : Nat} {x : (Nat → Nat) × (Nat → Bool) × List Mk} (I : EndsInv ps x.1 x.2.1 x.2.2) (hk : k < ps.length) :
    (∃ m, (rstep (planNext ps) x k).2.2 = x.2.2 ++ [m] ∧ m.1 = (x.2.2.length : Int) + 1 ∧ m.2.1 = ((k + 1 : Nat) : Int) ∧ m.2.2 = wantP ps x.2.2 (k + 1)) ∧ EndsInv ps (rstep (planNext ps) x k).1 (rstep (planNext ps) x k).2.1 (rstep (planNext ps) x k).2.2 ∧
      potT ps (rstep (planNext ps) x k).1 (rstep (planNext ps) x k).2.1 + (if x.2.1 k = true then 0 else 1) ≤ potT ps x.1 x.2.1 := by
  obtain ⟨s, e, ms⟩ := x
  have I1 := I.ends
  have I2 := I.at_
  simp only at I1 I2 ⊢
  have ek : (((k + 1 : Nat)) : Int) = (k : Int) + 1 := by omega
  have etn : ((k : Int) + 1 - 1).toNat = k := by omega
  have hcnt : ∀ (a b : Int) (t : Nat), cntP (ms ++ [(a, (k : Int) + 1, b)]) ((t : Int) + 1) = cntP ms ((t : Int) + 1) + (if t = k then 1 else 0) := fun a b t => by
    rw [cntP_app]
    by_cases h : t = k
    · subst h; simp
    · rw [if_neg h, if_neg (by simp; omega)]
  have hoth : ∀ (a b : Int) (t : Nat), t ≠ k → endP (ms ++ [(a, (k : Int) + 1, b)]) ((t : Int) + 1) = endP ms ((t : Int) + 1) := fun a b t h => by
    rw [endP_app]
    have : ((k : Int) + 1 == (t : Int) + 1) = false := by simp; omega
    simp [this]
  by_cases he : e k = true
  · have hR : rstep (planNext ps) (s, e, ms) k = (s, e, ms ++ [((ms.length : Int) + 1, (k : Int) + 1, 4)]) := by unfold rstep; rw [if_pos he]
    rw [hR]
    dsimp only
    have hE : endP ms ((k : Int) + 1) = true := (I1 k hk).symm.trans he
    refine ⟨⟨_, rfl, rfl, ek.symm, ?_⟩, ⟨fun t ht => ?_, fun t ht het => ?_⟩, by rw [if_pos he]; exact Nat.le_refl _⟩
    · unfold wantP
      rw [ek, hE]; rfl
    · rw [I1 t ht]
      by_cases h : t = k
      · subst h; rw [endP_app, hE]; rfl
      · rw [hoth _ _ _ h]
    · have h : t ≠ k := fun h => by subst h; rw [he] at het; cases het
      rw [hcnt, if_neg h]
      exact I2 t ht het
  · have he : e k = false := by simpa using he
    have hE : endP ms ((k : Int) + 1) = false := (I1 k hk).symm.trans he
    obtain ⟨hs1, hs2⟩ := I2 k hk he
    have hw : wantP ps ms (k + 1) = (planNext ps s ((k : Int) + 1)).1 := by
      unfold wantP planNext
      rw [ek, hE, etn, ← hs1, Nat.add_sub_cancel]
      cases (ps.getD k [])[s k]? <;> rfl
    obtain ⟨a, ha⟩ : ∃ a, a = wantP ps ms (k + 1) := ⟨_, rfl⟩
    have hR : rstep (planNext ps) (s, e, ms) k = ((planNext ps s ((k : Int) + 1)).2, upd e k (a == 4), ms ++ [((ms.length : Int) + 1, (k : Int) + 1, a)]) := by
      unfold rstep
      rw [if_neg (show ¬ (e k = true) by rw [he]; decide), ha, hw]
    have hs' : ∀ t, t ≠ k → (planNext ps s ((k : Int) + 1)).2 t = s t := fun t ht => by
      unfold planNext
      rw [etn]
      cases (ps.getD k [])[s k]? with
      | none => rfl
      | some z => exact upd_ne _ _ ht
    have hsk : a ≠ 4 → (planNext ps s ((k : Int) + 1)).2 k = s k + 1 ∧ s k + 1 ≤ (ps.getD k []).length := fun h4 => by
      rw [ha, hw] at h4
      unfold planNext at h4 ⊢
      rw [etn] at h4 ⊢
      cases hx : (ps.getD k [])[s k]? with
      | none => rw [hx] at h4; exact absurd rfl h4
      | some z => exact ⟨upd_same _ _ _, (List.getElem?_eq_some_iff.1 hx).1⟩
    rw [hR]
    dsimp only
    refine ⟨⟨_, rfl, rfl, ek.symm, ha⟩, ⟨fun t ht => ?_, fun t ht het => ?_⟩, ?_⟩
    · show upd e k (a == 4) t = _
      by_cases h : t = k
      · subst h; rw [upd_same, endP_app, hE]; simp
      · rw [upd_ne _ _ h, hoth _ _ _ h]; exact I1 t ht
    · have het : upd e k (a == 4) t = false := het
      rw [hcnt]
      by_cases h : t = k
      · subst h
        rw [upd_same] at het
        obtain ⟨g1, g2⟩ := hsk (by simpa using het)
        show (planNext ps s ((t : Int) + 1)).2 t = _ ∧ (planNext ps s ((t : Int) + 1)).2 t ≤ _
        rw [g1, if_pos rfl, hs1]
        exact ⟨rfl, by rw [← hs1]; exact g2⟩
      · rw [upd_ne _ _ h] at het
        show (planNext ps s ((k : Int) + 1)).2 t = _ ∧ (planNext ps s ((k : Int) + 1)).2 t ≤ _
        rw [hs' t h, if_neg h]
        exact I2 t ht het
    · rw [if_neg (show ¬ (e k = true) by rw [he]; decide)]
      show potT ps (planNext ps s ((k : Int) + 1)).2 (upd e k (a == 4)) + 1 ≤ potT ps s e
      refine sumTo_one hk (fun t ht => ?_) ?_
      · unfold restT; rw [upd_ne _ _ ht, hs' t ht]
      · unfold restT
        rw [upd_same, he]
        by_cases h4 : a = 4
        · rw [h4]; simp
        · obtain ⟨g1, g2⟩ := hsk h4
          have : (a == 4) = false := by simpa using h4
          rw [this, g1]
          simp only [Bool.false_eq_true, if_false]
          omega
theorem ends_drain {ps : List (List Int)} {picks : List Int} : ∀ (d fr : Nat) (x : (Nat → Nat) × (Nat → Bool) × List Mk), fr ≤ ps.length → EndsInv ps x.1 x.2.1 x.2.2 → EndsL ps picks x.2.2 → picks.length ≤ x.2.2.length → potT ps x.1 x.2.1 ≤ d →
    EndsL ps picks (drainS (planNext ps) ps.length d fr x).2.2 ∧ x.2.2.length ≤ (drainS (planNext ps) ps.length d fr x).2.2.length ∧ (drainS (planNext ps) ps.length d fr x).2.2.length ≤ x.2.2.length + d ∧ ∀ t, t < ps.length → endP (drainS (planNext ps) ps.length d fr x).2.2 ((t : Int) + 1) = true
  | 0, fr, x, _, I, L, _, hp => by
    refine ⟨L, Nat.le_refl _, Nat.le_refl _, fun t ht => ?_⟩
    show endP x.2.2 _ = true
    rw [← I.ends t ht]
    have := Go.ConcN.le_sumTo (f := restT ps x.1 x.2.1) ht
    have h0 : restT ps x.1 x.2.1 t ≤ 0 := Nat.le_trans this hp
    unfold restT at h0
    cases h : x.2.1 t with
    | true => rfl
    | false => rw [h] at h0; simp at h0
  | d + 1, fr, x, hfr, I, L, hl, hp => by
    cases hk : nextS x.2.1 ps.length fr with
    | none =>
      rw [drainS_none hk]
      exact ⟨L, Nat.le_refl _, by omega, fun t ht => (I.ends t ht).symm.trans (nextS_all hfr hk t ht)⟩
    | some k =>
      rw [drainS_some hk]
      obtain ⟨hkn, hek, _⟩ := nextS_around hfr hk
      obtain ⟨⟨m, hm, m1, m2, m3⟩, I', hp'⟩ := ends_pick I hkn
      have hEk : endP x.2.2 (((k + 1 : Nat)) : Int) = false := by
        have := I.ends k hkn
        rw [hek] at this
        exact this.symm
      have L' : EndsL ps picks (rstep (planNext ps) x k).2.2 := by
        rw [hm]
        exact L.snoc ⟨m1, k + 1, m2, by omega, by omega, m3, fun p hpk => by have := (List.getElem?_eq_some_iff.1 hpk).1; omega, fun _ => hEk⟩
      have hlen := rstep_len (next := planNext ps) x k
      rw [hek] at hp'
      simp only [Bool.false_eq_true, if_false] at hp'
      obtain ⟨g1, g2, g3, g4⟩ := ends_drain d (k + 1) (rstep (planNext ps) x k) (by omega) I' L' (by omega) (by omega)
      exact ⟨g1, by omega, by omega, g4⟩
theorem ends_picks {ps : List (List Int)} {picks : List Int} (h0 : 0 < ps.length) : ∀ j, j ≤ picks.length → EndsInv ps (picksX (planNext ps) ps.length (picks.take j) fun _ => 0).1 (picksX (planNext ps) ps.length (picks.take j) fun _ => 0).2.1 (picksX (planNext ps) ps.length (picks.take j) fun _ => 0).2.2 ∧ EndsL ps picks (picksX (planNext ps) ps.length (picks.take j) fun _ => 0).2.2 ∧
    potT ps (picksX (planNext ps) ps.length (picks.take j) fun _ => 0).1 (picksX (planNext ps) ps.length (picks.take j) fun _ => 0).2.1 ≤ sumTo ps.length fun t => (ps.getD t []).length + 1
  | 0, _ => ⟨⟨fun t _ => rfl, fun t _ _ => ⟨rfl, Nat.zero_le _⟩⟩, (fun i x hx => by simp [picksX] at hx), Nat.le_refl _⟩
  | j + 1, hj => by
    obtain ⟨I, L, hp⟩ := ends_picks (ps := ps) (picks := picks) h0 j (by omega)
    obtain ⟨p, hpj⟩ : ∃ p, picks[j]? = some p := ⟨_, List.getElem?_eq_getElem (by omega)⟩
    rw [picksX_take _ _ _ _ _ _ hpj]
    have hlen : (picksX (planNext ps) ps.length (picks.take j) fun _ => 0).2.2.length = j := by rw [picksX_len, List.length_take]; omega
    have hk := roundS_lt p (show 0 < ps.length by omega)
    obtain ⟨⟨m, hm, m1, m2, m3⟩, I', hp'⟩ := ends_pick I hk
    refine ⟨I', ?_, by omega⟩
    rw [hm]
    refine L.snoc ⟨m1, roundS ps.length p + 1, m2, by omega, by omega, m3, fun q hq => ?_, fun h => absurd (hlen ▸ h) (by omega)⟩
    rw [hlen, hpj] at hq
    obtain rfl := Option.some.inj hq
    rfl
/-- what a play with a drain that is long enough comes to -/
theorem ends_play (ps : List (List Int)) (picks : List Int) (h1 : 1 ≤ ps.length) (h8 : ps.length ≤ 8) (hp : picks.length ≤ 65536) (A : Nat) (hA : A = sumTo ps.length fun t => (ps.getD t []).length + 1) (hA6 : A ≤ 65536) :
    (playR ps picks (A : Int)).2 = 0 ∧ EndsL ps picks (playR ps picks (A : Int)).1 ∧ picks.length ≤ (playR ps picks (A : Int)).1.length ∧ (playR ps picks (A : Int)).1.length ≤ picks.length + A ∧ ∀ t, t < ps.length → endP (playR ps picks (A : Int)).1 ((t : Int) + 1) = true := by
  have hwr : wrongS ps.length picks.length (A : Int) = 0 := by unfold wrongS; rw [if_neg (by omega), if_neg (by omega)]
  have hP : playR ps picks (A : Int) = ((drainS (planNext ps) ps.length A 0 (picksX (planNext ps) ps.length picks fun _ => 0)).2.2, 0) := by
    unfold playR runR
    rw [if_pos hwr]
    rfl
  rw [hP]
  obtain ⟨I, L, hpot⟩ := ends_picks (ps := ps) (picks := picks) (by omega) picks.length (Nat.le_refl _)
  rw [List.take_length] at I L hpot
  have hlen : (picksX (planNext ps) ps.length picks fun _ => 0).2.2.length = picks.length := picksX_len _ _ _ _
  obtain ⟨g1, g2, g3, g4⟩ := ends_drain (picks := picks) A 0 (picksX (planNext ps) ps.length picks fun _ => 0) (Nat.zero_le _) I L (by omega) (by omega)
  exact ⟨rfl, g1, by rw [hlen] at g2; exact g2, by rw [hlen] at g3; exact g3, g4⟩
end Go.Proofs.Ytaiinkeendejdaa
namespace Go.Proofs.Ytaiinkeendejdaa
open Go.RowKit
open Go.ConcN (sumTo)
set_option maxRecDepth 100000
noncomputable def bodyEnds : Code := (Try.f6).body.getD .skip
noncomputable def loopEnds : Code := match bodyEnds with | .seq _ (.seq _ (.seq _ (.seq _ (.seq _ (.seq c _))))) => c | _ => .skip
noncomputable def restEnds : Code := match bodyEnds with | .seq _ (.seq _ (.seq _ (.seq _ (.seq _ (.seq _ (.seq _ c)))))) => c | _ => .skip
theorem endsL_lone : codeC (opW Try.prog (fun f => lones.contains f) (bare 0)) loopEnds = true := by kernel_rfl
theorem ends_lone : codeC (opW Try.prog (fun f => lones.contains f) (bare 0)) restEnds = true := by kernel_rfl
def planLen (L : List PV) (t : Nat) : Nat := ((L.map (·.2.2)).getD t []).length + 1
theorem planLen_at {L : List PV} {j : Nat} {x : PV} (h : L[j]? = some x) : planLen L j = x.2.2.length + 1 := by
  unfold planLen
  rw [List.getD_eq_getElem?_getD, List.getElem?_map, h]
  rfl
set_option maxHeartbeats 2000000 in
theorem ends_loop {a0 pa ro : Option Addr} {n0 c0 np pc m rc : Nat} {x2 x3 x8 x9 x10 x11 x12 x13 x14 x15 x16 x17 x18 x19 x20 x21 x22 x23 x24 x25 x26 x27 x28 x29 x30 x31 x32 x33 x34 x35 x36 x37 x38 x39 x40 x41 x42 x43 x44 x45 x46 x47 x48 x49 x50 x51 x52 x53 x54 x55 x56 x57 x58 x59 x60 x61 x62 x63 x64 x65 x66 x67 x68 x69 x70 x71 x72 x73 x74 x75 x76 x77 x78 x79 x80 x81 x82 x83 x84 x85 x86 x87 x88 x89 x90 x91 x92 x93 x94 x95 x96 x97 x98 x99 x100 x101 x102 x103 x104 x105 x106 x107 x108 x109 x110 x111 x112 x113 x114 x115 x116 x117 x118 x119 x120 x121 x122 x123 x124 x125 x126 x127 x128 x129 x130 x131 x132 x133 x134 x135 x136 x137 x138 x139 x140 x141 x142 x143 x144 x145 x146 x147 x148 x149 x150 x151 x152 x153 x154 x155 x156 x157 x158 x159 x160 x161 x162 x163 x164 x165 x166 x167 x168 x169 x170 x171 x172 x173 x174 x175 x176 x177 x178 x179 x180 x181 x182 x183 x184 x185 x186 x187 x188 x189 x190 : Value} {L : List PV} {w : World} (hm : L.length = m) (hm9 : m ≤ 9) (hs : SeesV w ro L) (hlen : ∀ x ∈ L, x.2.2.length ≤ 300) :
    loopEnds.wp Try.prog (fun e a' w' => e = .normal ∧ a'.defers = [] ∧ (∃ y8 y34 y35 y36 y37 y38 y39 y40 y41 y42 y43 y44 y45 y46 y47, a'.tmps = #[.slice a0 n0 c0, .slice pa np pc, x2, x3, .bool false, .bool true, .slice ro m rc, .int .i64 (sumTo m (planLen L) : Nat), y8, x9, x10, x11, x12, x13, x14, x15, x16, x17, x18, x19, x20, x21, x22, x23, x24, x25, x26, x27, x28, x29, x30, x31, x32, x33, y34, y35, y36, y37, y38, y39, y40, y41, y42, y43, y44, y45, y46, y47, x48, x49, x50, x51, x52, x53, x54, x55, x56, x57, x58, x59, x60, x61, x62, x63, x64, x65, x66, x67, x68, x69, x70, x71, x72, x73, x74, x75, x76, x77, x78, x79, x80, x81, x82, x83, x84, x85, x86, x87, x88, x89, x90, x91, x92, x93, x94, x95, x96, x97, x98, x99, x100, x101, x102, x103, x104, x105, x106, x107, x108, x109, x110, x111, x112, x113, x114, x115, x116, x117, x118, x119, x120, x121, x122, x123, x124, x125, x126, x127, x128, x129, x130, x131, x132, x133, x134, x135, x136, x137, x138, x139, x140, x141, x142, x143, x144, x145, x146, x147, x148, x149, x150, x151, x152, x153, x154, x155, x156, x157, x158, x159, x160, x161, x162, x163, x164, x165, x166, x167, x168, x169, x170, x171, x172, x173, x174, x175, x176, x177, x178, x179, x180, x181, x182, x183, x184, x185, x186, x187, x188, x189, x190]) ∧ w'.heap = w.heap) ⟨#[.slice a0 n0 c0, .slice pa np pc, x2, x3, .bool false, .bool true, .slice ro m rc, .int .i64 0, x8, x9, x10, x11, x12, x13, x14, x15, x16, x17, x18, x19, x20, x21, x22, x23, x24, x25, x26, x27, x28, x29, x30, x31, x32, x33, x34, x35, x36, x37, x38, x39, x40, x41, x42, x43, x44, x45, x46, x47, x48, x49, x50, x51, x52, x53, x54, x55, x56, x57, x58, x59, x60, x61, x62, x63, x64, x65, x66, x67, x68, x69, x70, x71, x72, x73, x74, x75, x76, x77, x78, x79, x80, x81, x82, x83, x84, x85, x86, x87, x88, x89, x90, x91, x92, x93, x94, x95, x96, x97, x98, x99, x100, x101, x102, x103, x104, x105, x106, x107, x108, x109, x110, x111, x112, x113, x114, x115, x116, x117, x118, x119, x120, x121, x122, x123, x124, x125, x126, x127, x128, x129, x130, x131, x132, x133, x134, x135, x136, x137, x138, x139, x140, x141, x142, x143, x144, x145, x146, x147, x148, x149, x150, x151, x152, x153, x154, x155, x156, x157, x158, x159, x160, x161, x162, x163, x164, x165, x166, x167, x168, x169, x170, x171, x172, x173, x174, x175, x176, x177, x178, x179, x180, x181, x182, x183, x184, x185, x186, x187, x188, x189, x190], []⟩ w := by
  simp only [loopEnds, bodyEnds, Try.f6, Option.getD_some]
  have hle : ∀ j, j ≤ m → sumTo j (planLen L) ≤ 301 * j := fun j hj => Go.ConcN.sumTo_le fun i hi => by
    obtain ⟨x, hx⟩ : ∃ x, L[i]? = some x := ⟨_, List.getElem?_eq_getElem (by omega)⟩
    rw [planLen_at hx]
    have := hlen x (List.mem_of_getElem? hx)
    omega
  have HS := Lib.hid hs
  have HM := Lib.hid hm
  have HLE := Lib.hid hle
  have HLEN := Lib.hid hlen
  clear hs hm hle hlen
  go_wp2
  go_loopw [7, 8] (fun v i wr => ∃ j : Nat, j ≤ m ∧ v = .int .i64 (sumTo j (planLen L) : Nat) ∧ i = .int .i64 j ∧ wr = w) (fun _ i _ => m - (intOf i).toNat)
  case atStart => exact ⟨0, Nat.zero_le _, rfl, rfl, rfl⟩
  case round =>
    obtain ⟨j, hj, rfl, rfl, rfl⟩ := hrel
    obtain ⟨S, hS⟩ : ∃ S, S = sumTo j (planLen L) := ⟨_, rfl⟩
    have hSl := HLE.out j hj
    rw [← hS] at hSl ⊢
    by_cases hlt : j < m
    · obtain ⟨x, hx⟩ : ∃ x, L[j]? = some x := ⟨_, List.getElem?_eq_getElem (by rw [HM.out]; exact hlt)⟩
      obtain ⟨b, o, h1, h2⟩ := HS.out
      obtain rfl := h1 (by intro e; rw [e] at hx; simp at hx)
      have c1a := h2 j x hx
      obtain ⟨Q, hQ⟩ : ∃ Q, Q = x.2.2.length := ⟨_, rfl⟩
      have c1 : wr.cell? ⟨b, o + j, none⟩ = some (.slice x.1 Q x.2.1) := by rw [hQ]; exact c1a
      have hQl := HLEN.out x (List.mem_of_getElem? hx)
      rw [← hQ] at hQl
      have hS2 : sumTo (j + 1) (planLen L) = S + (Q + 1) := by rw [hS, hQ, ← planLen_at hx]; rfl
      have HS2 := Lib.hid hS2
      have hlo : (0 : Int) ≤ (j : Int) := by omega
      have hhi : (j : Int) < (m : Int) := by omega
      have w1 : IntKind.i64.wrap ((S : Int) + (Q : Int)) = (S : Int) + (Q : Int) := by rw [IntKind.wrap_i64]; omega
      have w2 : IntKind.i64.wrap ((S : Int) + (Q : Int) + 1) = ((S + (Q + 1) : Nat) : Int) := by rw [IntKind.wrap_i64]; omega
      clear hx c1a h1 h2 hQ hS hS2
      go_wp2
      go_roundw
      case rel => exact ⟨j + 1, by omega, by rw [HS2.out]; go_num, by go_num, trivial⟩
      case measure => simp [intOf]; omega
    · obtain rfl : j = m := by omega
      go_wp2
theorem FairSt.ended2 {eb pb n T : Nat} {l k : List Mk} {x : Mk} {w : World} {bb : Bool} (h : FairSt eb pb n l k w) (hne : eb ≠ pb) (hT : T ≤ n) (hx : x.2.1 = (T : Int)) (hb : bb = (endP l T || x.2.2 == 4)) : FairSt eb pb n (l ++ [x]) k (w.setCell ⟨eb, T, none⟩ (.bool bb)) :=
  ⟨fun t ht => by
    rw [endP_app, hx]
    by_cases e : t = T
    · subst e
      rw [World.cell?_setCell_same _ _ _ (h.ends t ht), hb]
      simp
    · rw [World.cell?_setCell_other _ _ _ _ (fun e' => e (congrArg Addr.off e').symm), h.ends t ht]
      have : ((T : Int) == (t : Int)) = false := by simp; omega
      rw [this]; simp,
   fun t ht => (World.cell?_setCell_other _ _ _ _ (fun e => hne (congrArg Addr.block e))).trans (h.cnts t ht),
   fun i => ⟨(frozen_setCell _ _ _ _).trans (h.warm i).1, (frozen_setCell _ _ _ _).trans (h.warm i).2⟩⟩
theorem fairSt_start2 {w W : World} {n : Nat} {t1 t2 : TypeId} (hn : n ≤ 8) (h : W = (w.alloc (.cells #[.int .i64 0, .int .i64 0, .int .i64 0, .int .i64 0, .int .i64 0, .int .i64 0, .int .i64 0, .int .i64 0, .int .i64 0] t2)).alloc (.cells #[.bool false, .bool false, .bool false, .bool false, .bool false, .bool false, .bool false, .bool false, .bool false] t1)) : FairSt (w.heap.size + 1) w.heap.size n [] [] W := by
  have h2 : W.heap[w.heap.size]? = some (.cells #[.int .i64 0, .int .i64 0, .int .i64 0, .int .i64 0, .int .i64 0, .int .i64 0, .int .i64 0, .int .i64 0, .int .i64 0] t2) := by
    rw [h]
    show ((w.heap.push _).push _)[_]? = _
    rw [Array.getElem?_push, Array.size_push, if_neg (by omega), Array.getElem?_push, if_pos rfl]
  have h1 : W.heap[w.heap.size + 1]? = some (.cells #[.bool false, .bool false, .bool false, .bool false, .bool false, .bool false, .bool false, .bool false, .bool false] t1) := by
    rw [h]
    show ((w.heap.push _).push _)[_]? = _
    rw [Array.getElem?_push, Array.size_push, if_pos rfl]
  have nine : ∀ t : Nat, t ≤ n → t = 0 ∨ t = 1 ∨ t = 2 ∨ t = 3 ∨ t = 4 ∨ t = 5 ∨ t = 6 ∨ t = 7 ∨ t = 8 := fun t ht => by omega
  refine ⟨fun t ht => ?_, fun t ht => ?_, fun i => ⟨by simp [World.frozen?, h1], by simp [World.frozen?, h2]⟩⟩
  · rw [cell_of_row _ _ _ _ _ _ h1]
    rcases nine t ht with rfl | rfl | rfl | rfl | rfl | rfl | rfl | rfl | rfl <;> rfl
  · rw [cell_of_row _ _ _ _ _ _ h2]
    rcases nine t ht with rfl | rfl | rfl | rfl | rfl | rfl | rfl | rfl | rfl <;> rfl
set_option maxHeartbeats 8000000 in
theorem ends_rest {a0 pa ro mo : Option Addr} {n0 c0 np pc m rc A M mc : Nat} {x2 x3 x8 x11 x12 x13 x14 x15 x16 x17 x18 x19 x20 x21 x22 x23 x24 x25 x26 x27 x28 x29 x30 x31 x32 x33 x34 x35 x36 x37 x38 x39 x40 x41 x42 x43 x44 x45 x46 x47 x48 x49 x50 x51 x52 x53 x54 x55 x56 x57 x58 x59 x60 x61 x62 x63 x64 x65 x66 x67 x68 x69 x70 x71 x72 x73 x74 x75 x76 x77 x78 x79 x80 x81 x82 x83 x84 x85 x86 x87 x88 x89 x90 x91 x92 x93 x94 x95 x96 x97 x98 x99 x100 x101 x102 x103 x104 x105 x106 x107 x108 x109 x110 x111 x112 x113 x114 x115 x116 x117 x118 x119 x120 x121 x122 x123 x124 x125 x126 x127 x128 x129 x130 x131 x132 x133 x134 x135 x136 x137 x138 x139 x140 x141 x142 x143 x144 x145 x146 x147 x148 x149 x150 x151 x152 x153 x154 x155 x156 x157 x158 x159 x160 x161 x162 x163 x164 x165 x166 x167 x168 x169 x170 x171 x172 x173 x174 x175 x176 x177 x178 x179 x180 x181 x182 x183 x184 x185 x186 x187 x188 x189 x190 : Value} {L : List PV} {picks : List Int} {ms : List Mk} {w : World} (hm : L.length = m) (hm1 : 1 ≤ m) (hm8 : m ≤ 8) (hs : SeesV w ro L) (hp : PVs (fun x => x < w.heap.size) w L) (hpk : Sees w pa picks) (hnp : picks.length = np) (hnp6 : np ≤ 65536) (hA6 : A ≤ 65536)
    (h64 : ∀ x ∈ picks, -9223372036854775808 ≤ x ∧ x ≤ 9223372036854775807) (hms : SeesM w mo ms) (hM : ms.length = M) (hE : EndsL (L.map (·.2.2)) picks ms) (hM1 : np ≤ M) (hM2 : M ≤ np + A) (hend : ∀ t, t < m → endP ms ((t : Int) + 1) = true) :
    restEnds.wp Try.prog (fun e a' w' => e = .ret ∧ a'.tmps.getD 4 undef = .bool true ∧ Below w.heap.size w w') ⟨#[.slice a0 n0 c0, .slice pa np pc, x2, x3, .bool false, .bool true, .slice ro m rc, .int .i64 (A : Nat), x8, .slice mo M mc, .int .i64 0, x11, x12, x13, x14, x15, x16, x17, x18, x19, x20, x21, x22, x23, x24, x25, x26, x27, x28, x29, x30, x31, x32, x33, x34, x35, x36, x37, x38, x39, x40, x41, x42, x43, x44, x45, x46, x47, x48, x49, x50, x51, x52, x53, x54, x55, x56, x57, x58, x59, x60, x61, x62, x63, x64, x65, x66, x67, x68, x69, x70, x71, x72, x73, x74, x75, x76, x77, x78, x79, x80, x81, x82, x83, x84, x85, x86, x87, x88, x89, x90, x91, x92, x93, x94, x95, x96, x97, x98, x99, x100, x101, x102, x103, x104, x105, x106, x107, x108, x109, x110, x111, x112, x113, x114, x115, x116, x117, x118, x119, x120, x121, x122, x123, x124, x125, x126, x127, x128, x129, x130, x131, x132, x133, x134, x135, x136, x137, x138, x139, x140, x141, x142, x143, x144, x145, x146, x147, x148, x149, x150, x151, x152, x153, x154, x155, x156, x157, x158, x159, x160, x161, x162, x163, x164, x165, x166, x167, x168, x169, x170, x171, x172, x173, x174, x175, x176, x177, x178, x179, x180, x181, x182, x183, x184, x185, x186, x187, x188, x189, x190], []⟩ w := by
  simp only [restEnds, bodyEnds, Try.f6, Option.getD_some]
  have hd1 : decide ((M : Int) < (np : Int)) = false := by rw [decide_eq_false_iff_not]; omega
  have hd2 : decide (M < np) = false := by rw [decide_eq_false_iff_not]; omega
  have hw1 : IntKind.i64.wrap ((np : Int) + (A : Int)) = ((np + A : Nat) : Int) := by rw [IntKind.wrap_i64]; omega
  have hd3 : decide (((np + A : Nat) : Int) < (M : Int)) = false := by rw [decide_eq_false_iff_not]; omega
  have hd4 : decide (np + A < M) = false := by rw [decide_eq_false_iff_not]; omega
  obtain ⟨B, hB⟩ : ∃ B, B = np + A := ⟨_, rfl⟩
  rw [← hB] at hw1 hd3 hd4
  have HBB := Lib.hid hB
  clear hB
  go_upto_region 15 with (fail)
  obtain ⟨W1, hW1⟩ : ∃ W1, W1 = (w.alloc (.cells #[.int .i64 0, .int .i64 0, .int .i64 0, .int .i64 0, .int .i64 0, .int .i64 0, .int .i64 0, .int .i64 0, .int .i64 0] 39)).alloc (.cells #[.bool false, .bool false, .bool false, .bool false, .bool false, .bool false, .bool false, .bool false, .bool false] 42) := ⟨_, rfl⟩
  have hst0 : FairSt (w.heap.size + 1) w.heap.size m [] [] W1 := fairSt_start2 hm8 hW1
  have hB0 : Below w.heap.size w W1 := by rw [hW1]; exact ((Below.refl _ _).alloc (Nat.le_refl _) _).alloc (by simp) _
  rw [← hW1]
  clear hW1
  obtain ⟨eb, heb⟩ : ∃ x, x = w.heap.size + 1 := ⟨_, rfl⟩
  obtain ⟨pb, hpb⟩ : ∃ x, x = w.heap.size := ⟨_, rfl⟩
  rw [← heb]
  have hst0 : FairSt eb pb m [] [] W1 := by rw [hpb, heb]; exact hst0
  have hne : eb ≠ pb := by omega
  have hebw : w.heap.size ≤ eb := by omega
  have hpbw : w.heap.size ≤ pb := by omega
  rw [← hpb]
  have HS := Lib.hid hs
  have HM := Lib.hid hM
  have HL := Lib.hid hm
  have HP := Lib.hid hp
  have HPK := Lib.hid hpk
  have HNP := Lib.hid hnp
  have H64 := Lib.hid h64
  have HMS := Lib.hid hms
  have HE := Lib.hid hE
  have HEND := Lib.hid hend
  have HST0 := Lib.hid hst0
  have HB0 := Lib.hid hB0
  clear hs hM hm hp hpk hnp h64 hms hE hend hst0 hB0 hpb heb
  go_wp2
  go_loopw [13] (fun i wr => ∃ j : Nat, j ≤ M ∧ i = .int .i64 j ∧ FairSt eb pb m (ms.take j) (ms.take j) wr ∧ Below w.heap.size w wr) (fun i _ => M - (intOf i).toNat)
  case atStart => exact ⟨0, Nat.zero_le _, rfl, HST0.out, HB0.out⟩
  case round =>
    obtain ⟨j, hj, rfl, hst, hB⟩ := hrel
    have HST := Lib.hid hst
    have HB := Lib.hid hB
    clear hst hB
    by_cases hlt : j < M
    · obtain ⟨x, hx⟩ : ∃ x, ms[j]? = some x := ⟨_, List.getElem?_eq_getElem (by rw [HM.out]; exact hlt)⟩
      obtain ⟨f1, T, hT, f2, f3, f4, f5, f6⟩ := HE.out j x hx
      have hll : (ms.take j).length = j := by rw [List.length_take, HM.out]; omega
      rw [hll] at f1 f5 f6
      rw [List.length_map, HL.out] at f3 f5
      rw [HNP.out] at f6
      obtain ⟨b, o, h1, h2⟩ := HMS.out
      obtain rfl := h1 (by intro e; rw [e] at hx; simp at hx)
      obtain ⟨k1, k2, k3⟩ := h2 j x hx
      have c1 : wr.cell? ⟨b, o + j * 3, none⟩ = some (.int .i64 ((j : Int) + 1)) := by rw [← f1]; exact (HB.out.cell (p := ⟨b, o + j * 3, none⟩) (block_lt_of_cell k1)).trans k1
      have c2 : wr.cell? ⟨b, o + j * 3 + 1, none⟩ = some (.int .i64 (T : Int)) := by rw [← hT, Nat.add_assoc]; exact (HB.out.cell (p := ⟨b, o + (j * 3 + 1), none⟩) (block_lt_of_cell k2)).trans k2
      have c3 : wr.cell? ⟨b, o + j * 3 + 2, none⟩ = some (.int .i64 x.2.2) := by rw [Nat.add_assoc]; exact (HB.out.cell (p := ⟨b, o + (j * 3 + 2), none⟩) (block_lt_of_cell k3)).trans k3
      have hbne : b ≠ pb := by have : b < w.heap.size := block_lt_of_cell k3; omega
      obtain ⟨l, hl⟩ : ∃ l, l = ms.take j := ⟨_, rfl⟩
      rw [← hl] at f4 f6 hll
      have hst := HST.out
      rw [← hl] at hst
      have e1 := hst.ends T f3
      have e2 := hst.cnts T f3
      have hfz := (hst.warm T).2
      have hcl := cntP_le l (T : Int)
      obtain ⟨P, hP⟩ : ∃ P, P = cntP l (T : Int) := ⟨_, rfl⟩
      have hpick := hst.pick hne f3 hT
      unfold wantP at f4
      rw [← hP] at e2 hcl f4 hpick
      obtain ⟨k, rfl⟩ : ∃ k, T = k + 1 := ⟨T - 1, by omega⟩
      rw [Nat.add_sub_cancel] at f4
      obtain ⟨y, hy⟩ : ∃ y, L[k]? = some y := ⟨_, List.getElem?_eq_getElem (by rw [HL.out]; omega)⟩
      rw [List.getD_eq_getElem?_getD, List.getElem?_map, hy] at f4
      simp only [Option.map_some, Option.getD_some] at f4
      obtain ⟨b2, o2, g1, g2⟩ := HS.out
      obtain rfl := g1 (by intro e; rw [e] at hy; simp at hy)
      have r0 := g2 k y hy
      obtain ⟨y1, y2, y3, y4⟩ := HP.out y (List.mem_of_getElem? hy)
      obtain ⟨Q, hQ⟩ : ∃ Q, Q = y.2.2.length := ⟨_, rfl⟩
      have r1 : wr.cell? ⟨b2, o2 + k, none⟩ = some (.slice y.1 Q y.2.1) := by rw [hQ]; exact (HB.out.cell (p := ⟨b2, o2 + k, none⟩) (block_lt_of_cell r0)).trans r0
      obtain ⟨T, hTk⟩ : ∃ T, T = k + 1 := ⟨_, rfl⟩
      rw [← hTk] at hT f2 f3 f4 f5 f6 c2 e1 e2 hfz hpick hP
      have ht1 : decide ((T : Int) < 1) = false := by rw [decide_eq_false_iff_not]; omega
      have ht1b : decide (T < 1) = false := by rw [decide_eq_false_iff_not]; omega
      have ht1c : decide (T = 0) = false := by rw [decide_eq_false_iff_not]; omega
      have ht2 : decide ((m : Int) < (T : Int)) = false := by rw [decide_eq_false_iff_not]; omega
      have ht2b : decide (m < T) = false := by rw [decide_eq_false_iff_not]; omega
      have hlo : (0 : Int) ≤ (j : Int) := by omega
      have hhi : (j : Int) < (M : Int) := by omega
      have hlo2 : (0 : Int) ≤ (T : Int) := by omega
      have hhi2 : (T : Int) < 9 := by omega
      have hlo3 : (0 : Int) ≤ (k : Int) := by omega
      have hhi3 : (k : Int) < (m : Int) := by omega
      have w1 : IntKind.i64.wrap ((P : Int) + 1) = (P : Int) + 1 := by rw [IntKind.wrap_i64]; omega
      have w2 : IntKind.i64.wrap ((j : Int) + 1) = (j : Int) + 1 := by rw [IntKind.wrap_i64]; omega
      have w3 : IntKind.i64.wrap ((T : Int) - 1) = (k : Int) := by rw [IntKind.wrap_i64]; omega
      have HPI := Lib.hid hpick
      have HX := Lib.hid hx
      have HT := Lib.hid hT
      have HLL := Lib.hid hl
      have HF4 := Lib.hid f4
      have HF5 := Lib.hid f5
      have HF6 := Lib.hid f6
      have HPP := Lib.hid hP
      have HQ := Lib.hid hQ
      have HTK := Lib.hid hTk
      have HY4 := Lib.hid y4
      have HST1 := Lib.hid hst
      clear hpick hx hT hl f1 f4 f5 f6 h1 h2 k1 k2 k3 hP hQ hTk y1 y2 y3 y4 r0 g1 g2 hy hst hcl hll
      by_cases hjn : j < np
      · obtain ⟨p, hpj⟩ : ∃ p, picks[j]? = some p := ⟨_, List.getElem?_eq_getElem (by rw [HNP.out]; exact hjn)⟩
        obtain ⟨b3, o3, q1, q2⟩ := HPK.out
        obtain rfl := q1 (by intro e; rw [e] at hpj; simp at hpj)
        have q3 := q2 j (by rw [HNP.out]; exact hjn)
        rw [List.getD_eq_getElem?_getD, hpj, Option.getD_some] at q3
        have c4 : wr.cell? ⟨b3, o3 + j, none⟩ = some (.int .i64 p) := (HB.out.cell (p := ⟨b3, o3 + j, none⟩) (block_lt_of_cell q3)).trans q3
        have hTp : ((roundS m p : Nat) : Int) + 1 = (T : Int) := by have := HF5.out p hpj; omega
        have HTP := Lib.hid hTp
        have p64 := H64.out p (List.mem_of_getElem? hpj)
        have hd5 : decide ((j : Int) < (np : Int)) = true := by rw [decide_eq_true_eq]; omega
        have hd6 : decide (j < np) = true := by rw [decide_eq_true_eq]; omega
        have hd7 : decide ((np : Int) ≤ (j : Int)) = false := by rw [decide_eq_false_iff_not]; omega
        have hd8 : decide (np ≤ j) = false := by rw [decide_eq_false_iff_not]; omega
        have hhi4 : (j : Int) < (np : Int) := by omega
        clear q1 q2 q3 hpj hTp
        cases hE : endP l (T : Int) with
        | true =>
          have hx4 : x.2.2 = 4 := by have := HF4.out; rw [if_pos hE] at this; exact this
          rw [hE] at e1
          rw [hx4] at c3
          have HX4 := Lib.hid hx4
          have HE := Lib.hid hE
          clear hx4 hE
          go_upto_region 22 with (first | (go_at_call 21; go_must (refine (refRound_any m p _ (by omega) (by omega)).mono ?_; rintro e w1 ⟨rfl, rfl⟩; rw [HTP.out])))
          go_quiet (fail)
          obtain ⟨W2, hW2⟩ : ∃ W2, W2 = wr.drewN nq := ⟨_, rfl⟩
          rw [← hW2]
          have e1' : W2.cell? ⟨eb, T, none⟩ = some (.bool true) := by rw [hW2]; exact e1
          have e2' : W2.cell? ⟨pb, T, none⟩ = some (.int .i64 (P : Int)) := by rw [hW2]; exact e2
          have hfz' : W2.frozen? ⟨pb, T, none⟩ = false := by rw [hW2]; exact hfz
          have hfe' : W2.frozen? ⟨eb, T, none⟩ = false := by rw [hW2]; exact (HST1.out.warm T).1
          have c3' : W2.cell? ⟨b, o + j * 3 + 2, none⟩ = some (.int .i64 4) := by rw [hW2]; exact c3
          have hws : FairSt eb pb m l l W2 := by rw [hW2]; exact HST1.out.drew nq
          have hpick2 : FairSt eb pb m l (l ++ [x]) (W2.setCell ⟨pb, T, none⟩ (.int .i64 ((P : Int) + 1))) := by rw [HPP.out]; exact hws.pick hne f3 HT.out
          have hend2 := hpick2.ended2 (x := x) (bb := true) hne f3 HT.out (by rw [HE.out]; rfl)
          have HE2 := Lib.hid hend2
          have hB2 : Below w.heap.size w ((W2.setCell ⟨pb, T, none⟩ (.int .i64 ((P : Int) + 1))).setCell ⟨eb, T, none⟩ (.bool true)) := (Below.setCell (p := ⟨pb, T, none⟩) (by rw [hW2]; exact Below.drewK HB.out nq) hpbw _).setCell (p := ⟨eb, T, none⟩) hebw _
          have HB2 := Lib.hid hB2
          have c3s : (W2.setCell ⟨pb, T, none⟩ (.int .i64 ((P : Int) + 1))).cell? ⟨b, o + j * 3 + 2, none⟩ = some (.int .i64 4) := (World.cell?_setCell_other _ _ _ _ (fun e => hbne (congrArg Addr.block e).symm)).trans c3'
          clear hW2 hpick2 hend2 hB2 e1 e2 hfz c1 c2 c3 hws
          have e1s : (W2.setCell ⟨pb, T, none⟩ (.int .i64 ((P : Int) + 1))).cell? ⟨eb, T, none⟩ = some (.bool true) := (World.cell?_setCell_other _ _ _ _ (fun e => hne (congrArg Addr.block e).symm)).trans e1'
          go_wp2
          go_roundw
          case rel => exact ⟨j + 1, by omega, by go_num, by rw [List.take_add_one, HX.out, ← HLL.out]; exact HE2.out, HB2.out⟩
          case measure => simp [intOf]; omega
        | false =>
          cases hz : y.2.2[P]? with
          | none =>
            have hx4 : x.2.2 = 4 := by have := HF4.out; rw [if_neg (show ¬ (endP l (T : Int) = true) by rw [hE]; decide), hz] at this; exact this
            have hge : Q ≤ P := by rw [HQ.out]; exact List.getElem?_eq_none_iff.1 hz
            have hd9 : decide ((P : Int) < (Q : Int)) = false := by rw [decide_eq_false_iff_not]; omega
            have hd10 : decide (P < Q) = false := by rw [decide_eq_false_iff_not]; omega
            rw [hE] at e1
            rw [hx4] at c3
            have HX4 := Lib.hid hx4
            have HE := Lib.hid hE
            clear hx4 hE hz hge
            go_upto_region 22 with (first | (go_at_call 21; go_must (refine (refRound_any m p _ (by omega) (by omega)).mono ?_; rintro e w1 ⟨rfl, rfl⟩; rw [HTP.out])))
            go_quiet (fail)
            obtain ⟨W2, hW2⟩ : ∃ W2, W2 = wr.drewN nq := ⟨_, rfl⟩
            rw [← hW2]
            have e1' : W2.cell? ⟨eb, T, none⟩ = some (.bool false) := by rw [hW2]; exact e1
            have e2' : W2.cell? ⟨pb, T, none⟩ = some (.int .i64 (P : Int)) := by rw [hW2]; exact e2
            have hfz' : W2.frozen? ⟨pb, T, none⟩ = false := by rw [hW2]; exact hfz
            have hfe' : W2.frozen? ⟨eb, T, none⟩ = false := by rw [hW2]; exact (HST1.out.warm T).1
            have c3' : W2.cell? ⟨b, o + j * 3 + 2, none⟩ = some (.int .i64 4) := by rw [hW2]; exact c3
            have hws : FairSt eb pb m l l W2 := by rw [hW2]; exact HST1.out.drew nq
            have hpick2 : FairSt eb pb m l (l ++ [x]) (W2.setCell ⟨pb, T, none⟩ (.int .i64 ((P : Int) + 1))) := by rw [HPP.out]; exact hws.pick hne f3 HT.out
            have hend2 := hpick2.ended2 (x := x) (bb := true) hne f3 HT.out (by rw [HE.out, HX4.out]; rfl)
            have HE2 := Lib.hid hend2
            have hB2 : Below w.heap.size w ((W2.setCell ⟨pb, T, none⟩ (.int .i64 ((P : Int) + 1))).setCell ⟨eb, T, none⟩ (.bool true)) := (Below.setCell (p := ⟨pb, T, none⟩) (by rw [hW2]; exact Below.drewK HB.out nq) hpbw _).setCell (p := ⟨eb, T, none⟩) hebw _
            have HB2 := Lib.hid hB2
            have c3s : (W2.setCell ⟨pb, T, none⟩ (.int .i64 ((P : Int) + 1))).cell? ⟨b, o + j * 3 + 2, none⟩ = some (.int .i64 4) := (World.cell?_setCell_other _ _ _ _ (fun e => hbne (congrArg Addr.block e).symm)).trans c3'
            clear hW2 hpick2 hend2 hB2 e1 e2 hfz c1 c2 c3 hws
            have e1s : (W2.setCell ⟨pb, T, none⟩ (.int .i64 ((P : Int) + 1))).cell? ⟨eb, T, none⟩ = some (.bool false) := (World.cell?_setCell_other _ _ _ _ (fun e => hne (congrArg Addr.block e).symm)).trans e1'
            go_wp2
            go_roundw
            case rel => exact ⟨j + 1, by omega, by go_num, by rw [List.take_add_one, HX.out, ← HLL.out]; exact HE2.out, HB2.out⟩
            case measure => simp [intOf]; omega
          | some z =>
            have hxz : x.2.2 = z := by have := HF4.out; rw [if_neg (show ¬ (endP l (T : Int) = true) by rw [hE]; decide), hz] at this; exact this
            have hltq : P < Q := by rw [HQ.out]; exact (List.getElem?_eq_some_iff.1 hz).1
            obtain ⟨b4, o4, s1, s2, s3⟩ := HY4.out P z hz
            rw [s1] at r1
            have c5 : wr.cell? ⟨b4, o4 + P, none⟩ = some (.int .i64 z) := (HB.out.cell (p := ⟨b4, o4 + P, none⟩) (block_lt_of_cell s3)).trans s3
            have hd9 : decide ((P : Int) < (Q : Int)) = true := by rw [decide_eq_true_eq]; omega
            have hd10 : decide (P < Q) = true := by rw [decide_eq_true_eq]; omega
            have hlo5 : (0 : Int) ≤ (P : Int) := by omega
            have hhi5 : (P : Int) < (Q : Int) := by omega
            rw [hE] at e1
            rw [hxz] at c3
            have HXZ := Lib.hid hxz
            have HE := Lib.hid hE
            clear hxz hE hz hltq s1 s2 s3
            go_upto_region 22 with (first | (go_at_call 21; go_must (refine (refRound_any m p _ (by omega) (by omega)).mono ?_; rintro e w1 ⟨rfl, rfl⟩; rw [HTP.out])))
            go_quiet (fail)
            rename Nat => nq0
            go_upto_region 23 with (fail)
            go_quiet (fail)
            obtain ⟨W2, hW2⟩ : ∃ W2, W2 = (wr.drewN nq0).drewN nq := ⟨_, rfl⟩
            rw [← hW2]
            have e1' : W2.cell? ⟨eb, T, none⟩ = some (.bool false) := by rw [hW2]; exact e1
            have e2' : W2.cell? ⟨pb, T, none⟩ = some (.int .i64 (P : Int)) := by rw [hW2]; exact e2
            have hfz' : W2.frozen? ⟨pb, T, none⟩ = false := by rw [hW2]; exact hfz
            have hfe' : W2.frozen? ⟨eb, T, none⟩ = false := by rw [hW2]; exact (HST1.out.warm T).1
            have c3' : W2.cell? ⟨b, o + j * 3 + 2, none⟩ = some (.int .i64 z) := by rw [hW2]; exact c3
            have hws : FairSt eb pb m l l W2 := by rw [hW2]; exact (HST1.out.drew nq0).drew nq
            have hpick2 : FairSt eb pb m l (l ++ [x]) (W2.setCell ⟨pb, T, none⟩ (.int .i64 ((P : Int) + 1))) := by rw [HPP.out]; exact hws.pick hne f3 HT.out
            have hend2 := hpick2.ended2 (x := x) (bb := (z == 4)) hne f3 HT.out (by rw [HE.out, HXZ.out]; rfl)
            have HE2 := Lib.hid hend2
            have hB2 : Below w.heap.size w ((W2.setCell ⟨pb, T, none⟩ (.int .i64 ((P : Int) + 1))).setCell ⟨eb, T, none⟩ (.bool (z == 4))) := (Below.setCell (p := ⟨pb, T, none⟩) (by rw [hW2]; exact Below.drewK (Below.drewK HB.out nq0) nq) hpbw _).setCell (p := ⟨eb, T, none⟩) hebw _
            have HB2 := Lib.hid hB2
            have c3s : (W2.setCell ⟨pb, T, none⟩ (.int .i64 ((P : Int) + 1))).cell? ⟨b, o + j * 3 + 2, none⟩ = some (.int .i64 z) := (World.cell?_setCell_other _ _ _ _ (fun e => hbne (congrArg Addr.block e).symm)).trans c3'
            clear hW2 hpick2 hend2 hB2 e1 e2 hfz c1 c2 c3 hws
            have e1s : (W2.setCell ⟨pb, T, none⟩ (.int .i64 ((P : Int) + 1))).cell? ⟨eb, T, none⟩ = some (.bool false) := (World.cell?_setCell_other _ _ _ _ (fun e => hne (congrArg Addr.block e).symm)).trans e1'
            go_wp2
            go_roundw
            case rel => exact ⟨j + 1, by omega, by go_num, by rw [List.take_add_one, HX.out, ← HLL.out]; exact HE2.out, HB2.out⟩
            case measure => simp [intOf]; omega
      · have hd5 : decide ((j : Int) < (np : Int)) = false := by rw [decide_eq_false_iff_not]; omega
        have hd6 : decide (j < np) = false := by rw [decide_eq_false_iff_not]; omega
        have hd7 : decide ((np : Int) ≤ (j : Int)) = true := by rw [decide_eq_true_eq]; omega
        have hd8 : decide (np ≤ j) = true := by rw [decide_eq_true_eq]; omega
        have hE := HF6.out (by omega)
        skip
        cases hz : y.2.2[P]? with
        | none =>
          have hx4 : x.2.2 = 4 := by have := HF4.out; rw [if_neg (show ¬ (endP l (T : Int) = true) by rw [hE]; decide), hz] at this; exact this
          have hge : Q ≤ P := by rw [HQ.out]; exact List.getElem?_eq_none_iff.1 hz
          have hd9 : decide ((P : Int) < (Q : Int)) = false := by rw [decide_eq_false_iff_not]; omega
          have hd10 : decide (P < Q) = false := by rw [decide_eq_false_iff_not]; omega
          rw [hE] at e1
          rw [hx4] at c3
          have HX4 := Lib.hid hx4
          have HE := Lib.hid hE
          clear hx4 hE hz hge
          go_upto_region 22 with (fail)
          go_quiet (fail)
          obtain ⟨W2, hW2⟩ : ∃ W2, W2 = wr.drewN nq := ⟨_, rfl⟩
          rw [← hW2]
          have e1' : W2.cell? ⟨eb, T, none⟩ = some (.bool false) := by rw [hW2]; exact e1
          have e2' : W2.cell? ⟨pb, T, none⟩ = some (.int .i64 (P : Int)) := by rw [hW2]; exact e2
          have hfz' : W2.frozen? ⟨pb, T, none⟩ = false := by rw [hW2]; exact hfz
          have hfe' : W2.frozen? ⟨eb, T, none⟩ = false := by rw [hW2]; exact (HST1.out.warm T).1
          have c3' : W2.cell? ⟨b, o + j * 3 + 2, none⟩ = some (.int .i64 4) := by rw [hW2]; exact c3
          have hws : FairSt eb pb m l l W2 := by rw [hW2]; exact HST1.out.drew nq
          have hpick2 : FairSt eb pb m l (l ++ [x]) (W2.setCell ⟨pb, T, none⟩ (.int .i64 ((P : Int) + 1))) := by rw [HPP.out]; exact hws.pick hne f3 HT.out
          have hend2 := hpick2.ended2 (x := x) (bb := true) hne f3 HT.out (by rw [HE.out, HX4.out]; rfl)
          have HE2 := Lib.hid hend2
          have hB2 : Below w.heap.size w ((W2.setCell ⟨pb, T, none⟩ (.int .i64 ((P : Int) + 1))).setCell ⟨eb, T, none⟩ (.bool true)) := (Below.setCell (p := ⟨pb, T, none⟩) (by rw [hW2]; exact Below.drewK HB.out nq) hpbw _).setCell (p := ⟨eb, T, none⟩) hebw _
          have HB2 := Lib.hid hB2
          have c3s : (W2.setCell ⟨pb, T, none⟩ (.int .i64 ((P : Int) + 1))).cell? ⟨b, o + j * 3 + 2, none⟩ = some (.int .i64 4) := (World.cell?_setCell_other _ _ _ _ (fun e => hbne (congrArg Addr.block e).symm)).trans c3'
          clear hW2 hpick2 hend2 hB2 e1 e2 hfz c1 c2 c3 hws
          have e1s : (W2.setCell ⟨pb, T, none⟩ (.int .i64 ((P : Int) + 1))).cell? ⟨eb, T, none⟩ = some (.bool false) := (World.cell?_setCell_other _ _ _ _ (fun e => hne (congrArg Addr.block e).symm)).trans e1'
          go_wp2
          go_roundw
          case rel => exact ⟨j + 1, by omega, by go_num, by rw [List.take_add_one, HX.out, ← HLL.out]; exact HE2.out, HB2.out⟩
          case measure => simp [intOf]; omega
        | some z =>
          have hxz : x.2.2 = z := by have := HF4.out; rw [if_neg (show ¬ (endP l (T : Int) = true) by rw [hE]; decide), hz] at this; exact this
          have hltq : P < Q := by rw [HQ.out]; exact (List.getElem?_eq_some_iff.1 hz).1
          obtain ⟨b4, o4, s1, s2, s3⟩ := HY4.out P z hz
          rw [s1] at r1
          have c5 : wr.cell? ⟨b4, o4 + P, none⟩ = some (.int .i64 z) := (HB.out.cell (p := ⟨b4, o4 + P, none⟩) (block_lt_of_cell s3)).trans s3
          have hd9 : decide ((P : Int) < (Q : Int)) = true := by rw [decide_eq_true_eq]; omega
          have hd10 : decide (P < Q) = true := by rw [decide_eq_true_eq]; omega
          have hlo5 : (0 : Int) ≤ (P : Int) := by omega
          have hhi5 : (P : Int) < (Q : Int) := by omega
          rw [hE] at e1
          rw [hxz] at c3
          have HXZ := Lib.hid hxz
          have HE := Lib.hid hE
          clear hxz hE hz hltq s1 s2 s3
          go_upto_region 22 with (fail)
          go_quiet (fail)
          rename Nat => nq0
          go_upto_region 23 with (fail)
          go_quiet (fail)
          obtain ⟨W2, hW2⟩ : ∃ W2, W2 = (wr.drewN nq0).drewN nq := ⟨_, rfl⟩
          rw [← hW2]
          have e1' : W2.cell? ⟨eb, T, none⟩ = some (.bool false) := by rw [hW2]; exact e1
          have e2' : W2.cell? ⟨pb, T, none⟩ = some (.int .i64 (P : Int)) := by rw [hW2]; exact e2
          have hfz' : W2.frozen? ⟨pb, T, none⟩ = false := by rw [hW2]; exact hfz
          have hfe' : W2.frozen? ⟨eb, T, none⟩ = false := by rw [hW2]; exact (HST1.out.warm T).1
          have c3' : W2.cell? ⟨b, o + j * 3 + 2, none⟩ = some (.int .i64 z) := by rw [hW2]; exact c3
          have hws : FairSt eb pb m l l W2 := by rw [hW2]; exact (HST1.out.drew nq0).drew nq
          have hpick2 : FairSt eb pb m l (l ++ [x]) (W2.setCell ⟨pb, T, none⟩ (.int .i64 ((P : Int) + 1))) := by rw [HPP.out]; exact hws.pick hne f3 HT.out
          have hend2 := hpick2.ended2 (x := x) (bb := (z == 4)) hne f3 HT.out (by rw [HE.out, HXZ.out]; rfl)
          have HE2 := Lib.hid hend2
          have hB2 : Below w.heap.size w ((W2.setCell ⟨pb, T, none⟩ (.int .i64 ((P : Int) + 1))).setCell ⟨eb, T, none⟩ (.bool (z == 4))) := (Below.setCell (p := ⟨pb, T, none⟩) (by rw [hW2]; exact Below.drewK (Below.drewK HB.out nq0) nq) hpbw _).setCell (p := ⟨eb, T, none⟩) hebw _
          have HB2 := Lib.hid hB2
          have c3s : (W2.setCell ⟨pb, T, none⟩ (.int .i64 ((P : Int) + 1))).cell? ⟨b, o + j * 3 + 2, none⟩ = some (.int .i64 z) := (World.cell?_setCell_other _ _ _ _ (fun e => hbne (congrArg Addr.block e).symm)).trans c3'
          clear hW2 hpick2 hend2 hB2 e1 e2 hfz c1 c2 c3 hws
          have e1s : (W2.setCell ⟨pb, T, none⟩ (.int .i64 ((P : Int) + 1))).cell? ⟨eb, T, none⟩ = some (.bool false) := (World.cell?_setCell_other _ _ _ _ (fun e => hne (congrArg Addr.block e).symm)).trans e1'
          go_wp2
          go_roundw
          case rel => exact ⟨j + 1, by omega, by go_num, by rw [List.take_add_one, HX.out, ← HLL.out]; exact HE2.out, HB2.out⟩
          case measure => simp [intOf]; omega
    · obtain rfl : j = M := by omega
      have hT : ms.take j = ms := List.take_of_length_le (by rw [HM.out]; exact Nat.le_refl _)
      have hst := HST.out
      rw [hT] at hst
      have HST2 := Lib.hid hst
      clear hst hT
      go_wp2
      go_loopw [16] (fun i wr2 => ∃ u : Nat, u ≤ m ∧ i = .int .i64 ((u : Int) + 1) ∧ wr2 = wr) (fun i _ => m + 1 - (intOf i).toNat)
      case atStart => exact ⟨0, Nat.zero_le _, rfl, rfl⟩
      case round =>
        obtain ⟨u, hu, rfl, rfl⟩ := hrel
        by_cases hun : u < m
        · have hle : decide ((u : Int) + 1 ≤ (m : Int)) = true := by rw [decide_eq_true_eq]; omega
          have e3 := HST2.out.ends (u + 1) (by omega)
          have hUi : ((u + 1 : Nat) : Int) = (u : Int) + 1 := by omega
          rw [hUi, HEND.out u hun] at e3
          obtain ⟨U, hU⟩ : ∃ U, U = u + 1 := ⟨_, rfl⟩
          rw [← hU] at e3
          have hUi2 : (u : Int) + 1 = (U : Int) := by omega
          rw [hUi2] at hle ⊢
          have hle2 : decide (U ≤ m) = true := by rw [decide_eq_true_eq]; omega
          have hlo3 : (0 : Int) ≤ (U : Int) := by omega
          have hhi3 : (U : Int) < 9 := by omega
          have w4 : IntKind.i64.wrap ((U : Int) + 1) = (U : Int) + 1 := by rw [IntKind.wrap_i64]; omega
          have HU := Lib.hid hU
          clear hUi hUi2 hU
          go_wp2
          go_roundw
          case rel => exact ⟨U, by have := HU.out; omega, by go_num, trivial⟩
          case measure => have := HU.out; simp [intOf]; omega
        · obtain rfl : u = m := by omega
          have hle : decide ((u : Int) + 1 ≤ (u : Int)) = false := by rw [decide_eq_false_iff_not]; omega
          go_wp2
          exact HB.out
end Go.Proofs.Ytaiinkeendejdaa
