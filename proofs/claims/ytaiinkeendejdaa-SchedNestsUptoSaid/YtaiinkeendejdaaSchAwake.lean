/-
  quash/quashlaw04.awake, in company: true. No condition.
-/
import Derived.Test.YtaiinkeendejdaaSchPlay
import Derived.Test.YtaiinkeendejdaaSchLent
import Derived.Test.YtaiinkeendejdaaSchTurns
import Derived.Test.YtaiinkeendejdaaBandStart
namespace Go.Proofs.Ytaiinkeendejdaa
open Go.RowKit Go.Conc Go.ConcR.Gen Go.ConcN.Gen
open Go.ConcN (sumTo upd sumTo_upd upd_ne upd_same WgLive)
set_option maxRecDepth 100000
noncomputable def bodyAwake : Code := (Try.f9).body.getD .skip
noncomputable def restAwake : Code := match bodyAwake with | .seq _ (.seq _ c) => c | _ => .skip
def marks5 : List Mk := [(1, 1, 1), (2, 2, 2), (3, 2, 4), (4, 1, 1), (5, 1, 4)]
theorem play_awake : playR [[1, 1], [2]] [0, 1, 1, -2] 3 = (marks5, 0) := by kernel_rfl
theorem turns_awake : wrongS 3 3 2 = 0 ∧ turnsS 3 [0, 4, -1] 2 = [1, 2, 3, 1, 2] ∧ wrongS 9 0 0 = 1 := by refine ⟨?_, ?_, ?_⟩ <;> kernel_rfl
theorem seesM_row {w : World} {g : Nat} {l : List Mk} {cs : Array Value} {t : TypeId} {f : Nat × Nat} (h : w.heap[g]? = some (.cells cs t f)) (hc : cs.toList = markCells l) : SeesM w (some ⟨g, 0, none⟩) l := by
  refine ⟨g, 0, fun _ => rfl, fun j x hj => ?_⟩
  obtain ⟨k1, k2, k3⟩ := markCells_at l j x hj
  simp only [Nat.zero_add]
  rw [cell_of_row _ _ _ _ _ _ h, cell_of_row _ _ _ _ _ _ h, cell_of_row _ _ _ _ _ _ h]
  rw [← Array.getElem?_toList, ← Array.getElem?_toList, ← Array.getElem?_toList, hc]
  exact ⟨k1, k2, k3⟩
theorem sees_row {w : World} {g : Nat} {l : List Int} {cs : Array Value} {t : TypeId} {f : Nat × Nat} (h : w.heap[g]? = some (.cells cs t f)) (hc : cs.toList = l.map (Value.int .i64)) : Sees w (some ⟨g, 0, none⟩) l := Sees.cells fun j hj => by
  simp only [Nat.zero_add]
  rw [cell_of_row _ _ _ _ _ _ h, ← Array.getElem?_toList, hc, List.getElem?_map, List.getElem?_eq_getElem hj, List.getD_eq_getElem?_getD, List.getElem?_eq_getElem hj]
  rfl
theorem turns1 {w : World} {ao : Option Addr} (hs : Sees w ao [0, 4, -1]) : Calls Try.prog 16 #[.int .i64 3, .slice ao 3 3, .int .i64 2] w fun e w' => ∃ g cap, e = .returned (.tuple #[.slice (some ⟨g, 0, none⟩) 5 cap, .int .i64 0]) ∧ Bal w' w.heap.size g cap [1, 2, 3, 1, 2] ∧ Below w.heap.size w w' := by
  refine (Turns_any 3 ao 3 3 2 [0, 4, -1] w rfl hs (by unfold maxLen; omega) (by decide)).mono ?_
  rintro e w' ⟨v, rfl, hown, hB⟩
  have h0 : wrongS 3 ((3 : Nat) : Int) 2 = 0 := turns_awake.1
  have h1 : turnsS (3 : Int).toNat [0, 4, -1] (2 : Int).toNat = [1, 2, 3, 1, 2] := turns_awake.2.1
  rw [if_pos h0, h1] at hown
  rw [h0]
  rcases hown.form with ⟨_, e⟩ | ⟨g, cap, rfl, hb⟩
  · cases e
  · exact ⟨g, cap, rfl, hb, hB⟩
theorem turns2 {w : World} : Calls Try.prog 16 #[.int .i64 9, .slice none 0 0, .int .i64 0] w fun e w' => ∃ v, e = .returned (.tuple #[v, .int .i64 1]) ∧ Below w.heap.size w w' := by
  refine (Turns_any 9 none 0 0 0 [] w rfl (Sees.nil _ _) (by unfold maxLen; omega) (by simp)).mono ?_
  rintro e w' ⟨v, rfl, _, hB⟩
  have h0 : wrongS 9 ((0 : Nat) : Int) 0 = 1 := turns_awake.2.2
  exact ⟨v, by rw [h0], hB⟩
theorem SeesM.below {w w' : World} {ao : Option Addr} {l : List Mk} (h : SeesM w ao l) (hb : Below w.heap.size w w') : SeesM w' ao l := by
  obtain ⟨b, o, h1, h2⟩ := h
  refine ⟨b, o, h1, fun j x hx => ?_⟩
  obtain ⟨c1, c2, c3⟩ := h2 j x hx
  exact ⟨(hb.cell (p := ⟨b, o + j * 3, none⟩) (block_lt_of_cell c1)).trans c1, (hb.cell (p := ⟨b, o + (j * 3 + 1), none⟩) (block_lt_of_cell c2)).trans c2, (hb.cell (p := ⟨b, o + (j * 3 + 2), none⟩) (block_lt_of_cell c3)).trans c3⟩
set_option maxHeartbeats 2000000 in
theorem awake_rest {mo : Option Addr} {mc : Nat} {x9 x10 x11 x12 : Value} {w : World} (hm : SeesM w mo marks5) (_N : Nat) :
    restAwake.wp Try.prog (fun e a' w' => e = .ret ∧ a'.tmps.getD 0 undef = .bool true ∧ Below w.heap.size w w') ⟨#[.bool false, .slice mo 5 mc, .int .i64 0, undef, undef, undef, undef, undef, .tuple #[.slice mo 5 mc, .int .i64 0], x9, x10, x11, x12, .tuple #[.slice mo 5 mc, .int .i64 0], .slice mo 5 mc, .int .i64 0, undef, undef, undef, undef, undef, undef, undef, undef, undef, undef, undef, undef, undef, undef, undef, undef, undef, undef, undef, undef, undef, undef, undef, undef, undef, undef, undef, undef, undef, undef, undef, undef, undef, undef, undef], []⟩ w := by
  simp only [restAwake, bodyAwake, Try.f9, Option.getD_some]
  have HM := Lib.hid hm
  clear hm
  go_upto_region 3 with (first | (go_at_call 16; go_must (refine (turns1 (sees_row (heap_new _ _ _ rfl) rfl)).mono ?_; rintro e w1 ⟨g1, cap1, rfl, hb1, hB1⟩)))
  have hB1' : Below w.heap.size w w1 := (alloc_below' _ (Nat.le_refl _) _).trans (hB1.mono (by simp))
  have hz1 := hB1'.size
  have hl1 := hb1.lt.1
  have HB1 := Lib.hid hB1'
  have HS1 := Lib.hid hb1.sees
  clear hB1 hB1' hb1
  go_upto_region 4 with (first | (go_at_call 16; go_must (refine turns2.mono ?_; rintro e w2 ⟨v2, rfl, hB2⟩)))
  have hB2' : Below w.heap.size w w2 := HB1.out.trans (hB2.mono hz1)
  have hz2 := hB2'.size
  have hz12 := hB2.size
  have HB2 := Lib.hid hB2'
  have HS2 := Lib.hid (HS1.out.below hB2)
  have HM2 := Lib.hid (HM.out.below hB2')
  clear hB2 hB2'
  go_upto_region 5 with (fail)
  obtain ⟨W3, hW3⟩ : ∃ W3, W3 = w2.alloc (.cells (markCells marks5).toArray 34) := ⟨_, rfl⟩
  have hB3 : Below w.heap.size w W3 := by rw [hW3]; exact HB2.out.alloc hz2 _
  have hs3 : SeesM W3 (some ⟨w2.heap.size, 0, none⟩) marks5 := by rw [hW3]; exact seesM_row (heap_new _ _ _ rfl) rfl
  have hm3 : SeesM W3 mo marks5 := by rw [hW3]; exact HM2.out.below (alloc_below' _ (Nat.le_refl _) _)
  have hi3 : Sees W3 (some ⟨g1, 0, none⟩) [1, 2, 3, 1, 2] := by rw [hW3]; exact HS2.out.below (alloc_below' _ (Nat.le_refl _) _)
  have e3 : w2.alloc (.cells (markCells marks5).toArray 34) = w2.alloc (.cells #[.int .i64 1, .int .i64 1, .int .i64 1, .int .i64 2, .int .i64 2, .int .i64 2, .int .i64 3, .int .i64 2, .int .i64 4, .int .i64 4, .int .i64 1, .int .i64 1, .int .i64 5, .int .i64 1, .int .i64 4] 34) := rfl
  rw [e3] at hW3
  rw [← hW3]
  have HB3 := Lib.hid hB3
  have HS3 := Lib.hid hs3
  have HM3 := Lib.hid hm3
  have HI3 := Lib.hid hi3
  have hz3 := hB3.size
  clear hB3 hs3 hm3 hi3 hW3 e3
  have hX : ∀ W : World, Sees (W.alloc (.cells #[.int .i64 1, .int .i64 2, .int .i64 3, .int .i64 1, .int .i64 2] 3)) (some ⟨W.heap.size, 0, none⟩) [1, 2, 3, 1, 2] := fun W => sees_row (heap_new W _ _ rfl) rfl
  have hL5 : ([1, 2, 3, 1, 2] : List Int).length = 5 := rfl
  generalize ([1, 2, 3, 1, 2] : List Int) = L5 at hL5 hX HI3 HS1 HS2
  go_wp2_with (first
    | (go_at_call 15; go_must (refine (Same_yes mo (some ⟨w2.heap.size, 0, none⟩) 5 mc 5 marks5 _ rfl HM3.out HS3.out (by unfold maxLen; omega)).mono ?_; rintro e w3 ⟨rfl, d3, rfl⟩))
    | (go_at_call 18; go_must (refine (SameInts_yes (some ⟨g1, 0, none⟩) (some ⟨W3.heap.size, 0, none⟩) 5 cap1 5 L5 _ hL5 ((HI3.out.drewN d3).below ((Below.refl W3.heap.size (W3.drewN d3)).alloc (Nat.le_refl _) _)) (hX (W3.drewN d3)) (by unfold maxLen; omega)).mono ?_; rintro e w4 ⟨rfl, d4, rfl⟩)))
  exact Below.drewK ((Below.drewK HB3.out d3).alloc hz3 _) d4
def maskW : FuncId → Nat → Bool := fun _ i => decide (¬ i ∈ ([9, 10, 11, 12] : List Nat))
theorem awake_lone : codeC (opW Try.prog (fun f => lones.contains f) (bare 0)) restAwake = true := by kernel_rfl
theorem nm_play : ((Try.f12).name == "runtime.NumGoroutine") = false := by kernel_rfl
theorem Below.fromT {w w' : World} {T : Tp} {d : Nat} (h : Below (onT w T d).heap.size (onT w T d) w') : ∀ x, x < w.heap.size → w'.heap[x]? = w.heap[x]? := fun x hx => h.block x hx
/-- behind a call that turned nothing that stood -/
structure Still (b : Bd) (v : World) (b' : Bd) (v' w' : World) : Prop where
  grew : Grew b b' v.heap.size
  tidy : Tidy b' v'.heap.size
  same : ∀ x, x < v.heap.size → v'.heap[x]? = v.heap[x]?
  sim : Sim b'.shun b'.F v' w'
  even : Even (ZT b'.shun v'.heap.size) v'
  size : v.heap.size ≤ v'.heap.size
section
variable {Post : Value → World → Prop} {h : Nat}
set_option maxHeartbeats 2000000 in
theorem awake_whole {b : Bd} {v w : World} {c : Frame} {cs : List Frame} (hear : b.ear = true) (hwt : b.wait = none) (hs : Sim b.shun b.F v w) (he : Even (ZT b.shun v.heap.size) v) (hty : Tidy b v.heap.size)
    (fin : ∀ b' v' w', Still b v b' v' w' → At Try.prog 64 Post b' h (G (c.finish (.bool true)) cs) w') :
    At Try.prog 64 Post b h (G (Frame.enter Try.prog 9 #[] .normal) (c :: cs)) w := by
  have hrest := @awake_rest
  have lrest := awake_lone
  simp only [restAwake, bodyAwake, Try.f9, Option.getD_some] at hrest lrest
  rw [enter_at _ Try.func9 rfl]
  walk_nrmf Try.f9
  have hF : Off b.shun w w := Off.refl _ _
  obtain ⟨N, hN⟩ : ∃ N, N = v.heap.size := ⟨_, rfl⟩
  have nZ : ∀ x, N ≤ x → b.shun x = false := fun x hx => by
    cases e : b.shun x with
    | false => rfl
    | true => have := hs.low x e; rw [← hs.size] at this; omega
  refine At.goes0 (n := 10) ?_
  u_c stepG_seq ro_off2 hF
  u_reg ro_off2 hF
  u_op ro_off2 hF
  u_c stepG_region_end ro_off2 hF
  u_c stepG_seq ro_off2 hF
  u_reg ro_off2 hF
  refine Goes.stop (fun wA q => ?_)
  replace hF := ro_off2 hF q
  clear q
  refine At.oper (M := maskW) (R := fun x u => x = .slice (some ⟨N, 0, none⟩) 2 2 ∧ u.heap = v.heap.push (.cells #[.int .i64 1, .int .i64 1] 3)) nobody (v := v) rfl rfl (by kernel_rfl) ?_ he (hF.sim hs) (fun T d => ?_) (fun x v1 T d w1 _ he1 hR hs1 => ?_)
  · intro i y hi hy
    have hi : i ∈ ([9, 10, 11, 12] : List Nat) := Classical.not_not.1 (of_decide_eq_false hi)
    simp only [List.mem_cons, List.not_mem_nil, or_false] at hi
    rcases hi with rfl | rfl | rfl | rfl
    · obtain rfl := Option.some.inj hy; exact undef_ok
    · obtain rfl := Option.some.inj hy; exact undef_ok
    · obtain rfl := Option.some.inj hy; exact undef_ok
    · obtain rfl := Option.some.inj hy; exact undef_ok
  · exact ⟨.value (.slice (some ⟨v.heap.size, 0, none⟩) 2 2), .slice (some ⟨v.heap.size, 0, none⟩) 2 2, (onT v T d).alloc (.cells #[.int .i64 1, .int .i64 1] 3), by simp [go_sem, execOp, Act.eval, onT], .inl rfl, by rw [hN.symm], rfl⟩
  obtain ⟨rfl, hv1⟩ := hR
  have hv1 : v1.heap = v.heap.push (.cells #[.int .i64 1, .int .i64 1] 3) := hv1
  have hv1sz : v1.heap.size = N + 1 := by rw [hv1, Array.size_push, hN.symm]
  walk_nrm
  refine At.oper (M := maskW) (R := fun x u => x = .slice (some ⟨N + 1, 0, none⟩) 1 1 ∧ u.heap = v1.heap.push (.cells #[.int .i64 2] 3)) nobody (v := v1) rfl rfl (by kernel_rfl) ?_ he1 hs1 (fun T d => ?_) (fun x v2 T d w2 _ he2 hR hs2 => ?_)
  · intro i y hi hy
    have hi : i ∈ ([9, 10, 11, 12] : List Nat) := Classical.not_not.1 (of_decide_eq_false hi)
    simp only [List.mem_cons, List.not_mem_nil, or_false] at hi
    rcases hi with rfl | rfl | rfl | rfl
    · obtain rfl := Option.some.inj hy; exact .any _
    · obtain rfl := Option.some.inj hy; exact undef_ok
    · obtain rfl := Option.some.inj hy; exact undef_ok
    · obtain rfl := Option.some.inj hy; exact undef_ok
  · exact ⟨.value (.slice (some ⟨v1.heap.size, 0, none⟩) 1 1), .slice (some ⟨v1.heap.size, 0, none⟩) 1 1, (onT v1 T d).alloc (.cells #[.int .i64 2] 3), by simp [go_sem, execOp, Act.eval, onT], .inl rfl, by rw [hv1sz], rfl⟩
  obtain ⟨rfl, hv2⟩ := hR
  have hv2 : v2.heap = v1.heap.push (.cells #[.int .i64 2] 3) := hv2
  have hv2sz : v2.heap.size = N + 2 := by rw [hv2, Array.size_push, hv1sz]
  walk_nrm
  refine At.oper (M := maskW) (R := fun x u => x = .slice (some ⟨N + 2, 0, none⟩) 2 2 ∧ u.heap = v2.heap.push (.cells #[.slice (some ⟨N, 0, none⟩) 2 2, .slice (some ⟨N + 1, 0, none⟩) 1 1] 23)) nobody (v := v2) rfl rfl (by kernel_rfl) ?_ he2 hs2 (fun T d => ?_) (fun x v3 T d w3 _ he3 hR hs3 => ?_)
  · intro i y hi hy
    have hi : i ∈ ([9, 10, 11, 12] : List Nat) := Classical.not_not.1 (of_decide_eq_false hi)
    simp only [List.mem_cons, List.not_mem_nil, or_false] at hi
    rcases hi with rfl | rfl | rfl | rfl
    · obtain rfl := Option.some.inj hy; exact .any _
    · obtain rfl := Option.some.inj hy; exact .any _
    · obtain rfl := Option.some.inj hy; exact undef_ok
    · obtain rfl := Option.some.inj hy; exact undef_ok
  · exact ⟨.value (.slice (some ⟨v2.heap.size, 0, none⟩) 2 2), .slice (some ⟨v2.heap.size, 0, none⟩) 2 2, (onT v2 T d).alloc (.cells #[.slice (some ⟨N, 0, none⟩) 2 2, .slice (some ⟨N + 1, 0, none⟩) 1 1] 23), by simp [go_sem, execOp, Act.eval, onT], .inl rfl, by rw [hv2sz], rfl⟩
  obtain ⟨rfl, hv3⟩ := hR
  have hv3 : v3.heap = v2.heap.push (.cells #[.slice (some ⟨N, 0, none⟩) 2 2, .slice (some ⟨N + 1, 0, none⟩) 1 1] 23) := hv3
  have hv3sz : v3.heap.size = N + 3 := by rw [hv3, Array.size_push, hv2sz]
  walk_nrm
  refine At.oper (M := maskW) (R := fun x u => x = .slice (some ⟨N + 3, 0, none⟩) 4 4 ∧ u.heap = v3.heap.push (.cells #[.int .i64 0, .int .i64 1, .int .i64 1, .int .i64 (-2)] 3)) nobody (v := v3) rfl rfl (by kernel_rfl) ?_ he3 hs3 (fun T d => ?_) (fun x v4 T d w4 _ he4 hR hs4 => ?_)
  · intro i y hi hy
    have hi : i ∈ ([9, 10, 11, 12] : List Nat) := Classical.not_not.1 (of_decide_eq_false hi)
    simp only [List.mem_cons, List.not_mem_nil, or_false] at hi
    rcases hi with rfl | rfl | rfl | rfl
    · obtain rfl := Option.some.inj hy; exact .any _
    · obtain rfl := Option.some.inj hy; exact .any _
    · obtain rfl := Option.some.inj hy; exact .any _
    · obtain rfl := Option.some.inj hy; exact undef_ok
  · exact ⟨.value (.slice (some ⟨v3.heap.size, 0, none⟩) 4 4), .slice (some ⟨v3.heap.size, 0, none⟩) 4 4, (onT v3 T d).alloc (.cells #[.int .i64 0, .int .i64 1, .int .i64 1, .int .i64 (-2)] 3), by simp [go_sem, execOp, Act.eval, onT], .inl rfl, by rw [hv3sz], rfl⟩
  obtain ⟨rfl, hv4⟩ := hR
  have hv4 : v4.heap = v3.heap.push (.cells #[.int .i64 0, .int .i64 1, .int .i64 1, .int .i64 (-2)] 3) := hv4
  have hv4sz : v4.heap.size = N + 4 := by rw [hv4, Array.size_push, hv3sz]
  walk_nrm
  have hold : ∀ x, x < N → v4.heap[x]? = v.heap[x]? := fun x hx => by
    have hx2 : x ≠ v.heap.size := by omega
    rw [hv4, Array.getElem?_push, hv3sz, if_neg (by omega), hv3, Array.getElem?_push, hv2sz, if_neg (by omega), hv2, Array.getElem?_push, hv1sz, if_neg (by omega), hv1, Array.getElem?_push, if_neg hx2]
  have g0 : v4.heap[N]? = some (.cells #[.int .i64 1, .int .i64 1] 3) := by
    rw [hv4, Array.getElem?_push, hv3sz, if_neg (by omega), hv3, Array.getElem?_push, hv2sz, if_neg (by omega), hv2, Array.getElem?_push, hv1sz, if_neg (by omega), hv1, Array.getElem?_push, if_pos hN]
  have g1 : v4.heap[N + 1]? = some (.cells #[.int .i64 2] 3) := by
    rw [hv4, Array.getElem?_push, hv3sz, if_neg (by omega), hv3, Array.getElem?_push, hv2sz, if_neg (by omega), hv2, Array.getElem?_push, hv1sz, if_pos rfl]
  have g2 : v4.heap[N + 2]? = some (.cells #[.slice (some ⟨N, 0, none⟩) 2 2, .slice (some ⟨N + 1, 0, none⟩) 1 1] 23) := by
    rw [hv4, Array.getElem?_push, hv3sz, if_neg (by omega), hv3, Array.getElem?_push, hv2sz, if_pos rfl]
  have g3 : v4.heap[N + 3]? = some (.cells #[.int .i64 0, .int .i64 1, .int .i64 1, .int .i64 (-2)] 3) := by
    rw [hv4, Array.getElem?_push, hv3sz, if_pos rfl]
  have z4 : ∀ k, k < 4 → ZT b.shun v4.heap.size (N + k) = false := fun k hk => by rw [ZT_low (by omega)]; exact nZ _ (by omega)
  refine At.list rfl (fun wB q => ⟨_, #[], stepG_call rfl rfl (by decide) rfl Try.func12 nm_play rfl, by simp, ?_⟩)
  have hF := ro_off2 (Off.refl b.shun w4) q
  clear q
  walk_nrm
  refine play_whole (v := v4) (ps := [[1, 1], [2]]) (l := [0, 1, 1, -2]) hear hwt (hF.sim hs4) he4 ⟨fun x st s' h1 c' h2 => ?_, fun x hx => ?_, fun x hx => ?_⟩ (fun i l hl => ?_) rfl (by omega) (.any _) (.any _) (fun i x hx => ?_) rfl (by unfold maxLen; omega) (by decide) (fun b' v' w' mv D => ?_)
  · have := hty.seat x st s' h1 c' h2; omega
  · have := hty.wg x hx; omega
  · have := hty.rung x hx; omega
  · have ca : ∀ {x i : Nat} {u : Value} {cs0 : Array Value} {t0 : TypeId} {f0 : Nat × Nat}, v4.heap[x]? = some (.cells cs0 t0 f0) → cs0[i]? = some u → v4.cell? ⟨x, 0 + i, none⟩ = some u := fun {x i u cs0 t0 f0} h1 h2 => by
      rw [Nat.zero_add, cell_of_row _ _ _ _ _ _ h1]; exact h2
    match i, hl with
    | 0, hl =>
      obtain rfl : [1, 1] = l := Option.some.inj hl
      refine ⟨N + 2, 0, some ⟨N, 0, none⟩, 2, rfl, by show N + 2 < _; omega, ca g2 rfl, by unfold maxLen; simp, fun j x hx => ?_⟩
      match j, hx with
      | 0, hx => obtain rfl : (1 : Int) = x := Option.some.inj hx; exact ⟨N, 0, rfl, by show N < _; omega, ca g0 rfl⟩
      | 1, hx => obtain rfl : (1 : Int) = x := Option.some.inj hx; exact ⟨N, 0, rfl, by show N < _; omega, ca g0 rfl⟩
      | j + 2, hx => simp at hx
    | 1, hl =>
      obtain rfl : [2] = l := Option.some.inj hl
      refine ⟨N + 2, 0, some ⟨N + 1, 0, none⟩, 1, rfl, by show N + 2 < _; omega, ca g2 rfl, by unfold maxLen; simp, fun j x hx => ?_⟩
      match j, hx with
      | 0, hx => obtain rfl : (2 : Int) = x := Option.some.inj hx; exact ⟨N + 1, 0, rfl, by show N + 1 < _; omega, ca g1 rfl⟩
      | j + 1, hx => simp at hx
    | i + 2, hl => simp at hl
  · refine ⟨N + 3, 0, rfl, ?_⟩
    rw [Nat.zero_add, cell_of_row _ _ _ _ _ _ g3]
    match i, hx with
    | 0, hx => exact congrArg (Option.map (Value.int .i64)) hx
    | 1, hx => exact congrArg (Option.map (Value.int .i64)) hx
    | 2, hx => exact congrArg (Option.map (Value.int .i64)) hx
    | 3, hx => exact congrArg (Option.map (Value.int .i64)) hx
    | i + 4, hx => simp at hx
  rw [play_awake] at D ⊢
  have D1 : Done b v4 b' v' w' mv marks5 := D
  obtain ⟨g, mc, rfl⟩ : ∃ g mc, mv = .slice (some ⟨g, 0, none⟩) 5 mc := by
    rcases D1.row.form with ⟨_, e⟩ | ⟨g, cap, e⟩
    · cases e
    · exact ⟨g, cap, e⟩
  have hsees : SeesM v' (some ⟨g, 0, none⟩) marks5 := by
    obtain ⟨ao, c', e5, hsees, _⟩ := D1.row.slice
    injection e5 with a1 a2 a3
    rw [a1]; exact hsees
  have HNN := Lib.hid hN
  clear hN
  have hkz : ∀ k, k < 4 → ZT b'.shun v'.heap.size (N + k) = false := fun k hk => by
    have := D1.size
    rw [ZT_low (by omega), D1.grew.shun _ (by omega)]
    exact nZ _ (by omega)
  dsimp only
  rw [Frame.finish_at]
  walk_nrm
  have hF : Off b'.shun w' w' := Off.refl _ _
  refine At.goes0 (n := 20) ?_
  u_op ro_off2 hF
  u_op ro_off2 hF
  u_op ro_off2 hF
  u_op ro_off2 hF
  u_op ro_off2 hF
  u_c stepG_region_end ro_off2 hF
  refine Goes.stop (fun wC q => ?_)
  replace hF := ro_off2 hF q
  clear q
  refine At.rest (M := bare) (R := fun a' w' => a'.tmps.getD 0 undef = .bool true ∧ v'.heap.size ≤ w'.heap.size ∧ ∀ x, x < v'.heap.size → w'.heap[x]? = v'.heap[x]?) lones_fun ⟨_, Try.func9⟩ lrest (slots_of fun x hx => ?_) D1.even (hF.sim D1.sim) (fun T => ?_) (fun t' v2' T d w2' todo _ he2' hR hs2' => ?_)
  · have hmvz : NoZ (ZT b'.shun v'.heap.size) (.slice (some ⟨g, 0, none⟩) 5 mc) := .any _
    have htz : NoZ (ZT b'.shun v'.heap.size) (.tuple #[.slice (some ⟨g, 0, none⟩) 5 mc, .int .i64 0]) := .tuple _ fun y hy => by
      simp only [List.mem_toArray, List.mem_cons, List.not_mem_nil, or_false] at hy
      rcases hy with rfl | rfl
      · exact hmvz
      · exact .int _ _
    simp only [List.mem_toArray, List.mem_cons, List.not_mem_nil, or_false] at hx
    repeat (
      rcases hx with rfl | hx
      · first
          | exact undef_ok
          | exact .int _ _
          | exact .bool _
          | exact hmvz
          | exact htz
          | exact .any _
          | exact .any _
          | exact .any _
          | exact .any _)
    all_goals (subst hx; exact undef_ok)
  · refine Code.wp_mono ?_ (hrest (w := onT v' T 0) hsees N)
    rintro e a' w'' ⟨k1, k2, k3⟩
    exact ⟨k1, k2, k3.size, k3.block⟩
  obtain ⟨k2, k3, k4⟩ := hR
  have k2 : t'.getD 0 undef = .bool true := k2
  have k3 : v'.heap.size ≤ v2'.heap.size := k3
  have k4 : ∀ x, x < v'.heap.size → v2'.heap[x]? = v'.heap[x]? := k4
  have hsz4 := D1.size
  have hN := HNN.out
  refine At.list rfl fun w₁ q => ⟨_, #[], stepG_leave rfl rfl Try.func9 (results_tmp rfl _ _ w₁) (events_results_tmp rfl _ _), by simp, ?_⟩
  show At _ _ _ _ _ (G (c.finish (t'.getD 0 undef)) cs) w₁
  rw [k2]
  refine fin b' v2' w₁ ⟨⟨D1.grew.n, D1.grew.role, fun x hx => D1.grew.F x (by omega), D1.grew.Fle, fun x hx => D1.grew.shun x (by omega), fun x hx => D1.grew.rung x (by omega), D1.grew.wg, D1.grew.wait, D1.grew.ear, D1.grew.old⟩, ⟨fun x st s' h1 c' h2 => Nat.lt_of_lt_of_le (D1.tidy.seat x st s' h1 c' h2) k3, fun x hx => Nat.lt_of_lt_of_le (D1.tidy.wg x hx) k3, fun x hx => Nat.lt_of_lt_of_le (D1.tidy.rung x hx) k3⟩, fun x hx => (k4 x (by omega)).trans ((D1.same x (by omega)).trans (hold x (by omega))), (ro_off2 (Off.refl _ _) q).sim hs2', he2', by omega⟩
end
end Go.Proofs.Ytaiinkeendejdaa

