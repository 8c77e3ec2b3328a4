/-
  quash/quashref19.Do: every call over a slice that reads as a list of entries. No condition.
-/
import Derived.Test.YtochpdailleilaaGreatDoorDictDo
import Derived.Test.YtochpdailleilaaGreatDoorDictPut
import Derived.Deep.RegionLaw
import Derived.Deep.RegionHeldLaw
namespace Go.Proofs.YtochpdailleilaaGreatDoor
open Go.RowKit
set_option maxRecDepth 100000

theorem ToldE.no {w w' : World} {e : Ending} (h1 : e = .returned (.tuple #[.slice none 0 0, .slice none 0 0, .bool false])) (h2 : Below w.heap.size w w') : ToldE [] [] false w e w' :=
  ⟨_, _, _, _, h1, SeesP.nil _ _, Sees.nil _ _, h2⟩
theorem toldE_at {w W : World} {D : List (Int × Int)} {ao : Option Addr} {n c : Nat} {B g : Nat} (h : OwnE W B (.slice ao n c) D) (hn : D.length = n) (hB : Below w.heap.size w W) (hz : W.heap.size = g) (z : Int) :
    ToldE D [z] true w (.returned (.tuple #[.slice ao n c, .slice (some ⟨g, 0, none⟩) 1 1, .bool true])) (W.alloc (.cells #[.int .i64 z] 2)) := by
  subst hn
  subst hz
  exact ⟨_, _, _, _, rfl, h.sees.below ((Below.refl _ _).alloc (Nat.le_refl _) _), sees_one (heap_new _ _ _ rfl), hB.alloc hB.size _⟩
theorem toldE_sees {w W : World} {D : List (Int × Int)} {ao : Option Addr} {n c g : Nat} {z : Int} (h : SeesP W ao D) (hn : D.length = n) (hB : Below w.heap.size w W) (hT : W.heap[g]? = some (.cells #[.int .i64 z] 2)) :
    ToldE D [z] true w (.returned (.tuple #[.slice ao n c, .slice (some ⟨g, 0, none⟩) 1 1, .bool true])) W := by
  subst hn
  exact ⟨_, _, _, _, rfl, h, sees_one hT, hB⟩
theorem toldE_two {w W : World} {D : List (Int × Int)} {ao : Option Addr} {n c : Nat} (h : SeesP W ao D) (hn : D.length = n) (hB : Below w.heap.size w W) (y z : Int) :
    ToldE D [y, z] true w (.returned (.tuple #[.slice ao n c, .slice (some ⟨W.heap.size, 0, none⟩) 2 2, .bool true])) (W.alloc (.cells #[.int .i64 y, .int .i64 z] 2)).drew := by
  subst hn
  refine ⟨_, _, _, _, rfl, h.below ?_, sees_two (w := (W.alloc (.cells #[.int .i64 y, .int .i64 z] 2)).drew) (heap_new _ _ _ rfl), below_drewed1 (hB.alloc hB.size _)⟩
  exact below_drewed1 ((Below.refl _ _).alloc (Nat.le_refl _) _)
/-- what the document's Do answers -/
def DoTold (l : List (Int × Int)) (n op a b x y : Int) (w : World) (e : Ending) (w' : World) : Prop := ToldE (doE l n op a b x y).1 (doE l n op a b x y).2.1 (doE l n op a b x y).2.2 w e w'
theorem doTold_no {l : List (Int × Int)} {n op a b x y : Int} {w : World} (h : doOk l n op a b x y = false) {e : Ending} {w' : World} (hg : ToldE [] [] false w e w') : DoTold l n op a b x y w e w' := by
  unfold DoTold doE
  rw [if_neg (by rw [h]; decide)]
  exact hg
theorem doTold_yes {l : List (Int × Int)} {n op a b x y : Int} {w : World} (h : doOk l n op a b x y = true) {e : Ending} {w' : World} {D : List (Int × Int)} {T : List Int} (hd : deedE l n op x y = (D, T)) (hg : ToldE D T true w e w') : DoTold l n op a b x y w e w' := by
  unfold DoTold doE
  rw [if_pos h, hd]
  exact hg
theorem same_key {l : List (Int × Int)} (hr : l.Pairwise (fun p q => p.1 < q.1)) {A B : Nat} {x v u : Int} (hA : l[A]? = some (x, v)) (hB : l[B]? = some (x, u)) : A = B := by
  obtain ⟨h1, e1⟩ := List.getElem?_eq_some_iff.1 hA
  obtain ⟨h2, e2⟩ := List.getElem?_eq_some_iff.1 hB
  rcases Nat.lt_trichotomy A B with h | h | h
  · have := List.pairwise_iff_getElem.1 hr A B h1 h2 h
    rw [e1, e2] at this
    simp only at this
    omega
  · exact h
  · have := List.pairwise_iff_getElem.1 hr B A h2 h1 h
    rw [e1, e2] at this
    simp only at this
    omega
theorem val_at {l : List (Int × Int)} (hr : l.Pairwise (fun p q => p.1 < q.1)) {A : Nat} {x v : Int} (hA : l[A]? = some (x, v)) : valE l x = some v ∧ A = (l.map (·.1)).countP (· < x) := by
  have hm := List.mem_of_getElem? hA
  obtain ⟨u, h1, h2⟩ := val_some (l := l) (x := x) (List.mem_map.2 ⟨_, hm, rfl⟩)
  obtain ⟨k1, _, _⟩ := at_key hr rfl hm
  obtain ⟨k2, _, _⟩ := at_key hr rfl h2
  rw [k1] at k2
  injection k2 with k2
  injection k2 with _ k3
  exact ⟨by rw [h1, k3], same_key hr hA k1⟩
/-- a block of numbers is no row of entries -/
theorem ownE_notK {W : World} {B g : Nat} {v : Value} {zs : List (Int × Int)} {cs : Array Value} {t : TypeId} (h : OwnE W B v zs) (hg : W.heap[g]? = some (.cells cs t)) (ht : t ≠ 36) : v.ownBlock ≠ some g := fun e => by
  obtain ⟨cur, hc⟩ := own_block h e
  rw [hc] at hg
  injection hg with hg
  injection hg with _ h2
  exact ht h2.symm
/-- append in a region that draws: what lay before stays, a block of numbers too -/
theorem step_appendEB {w0 w : World} {v : Value} {xs : List (Int × Int)} (hb0 : Below w0.heap.size w0 w) (hown : OwnE w w0.heap.size v xs) (ao : Option Addr) (m c : Nat) (ys : List (Int × Int)) (hl : ys.length = m) (hs : SeesP w ao ys) (hn : ao = none → c = 0) (hb : (xs.length + ys.length) * 16 ≤ 140737488355328)
    {ops : Array Oper} {o : Oper} {a : Act} {K : Act → World → Prop} {Q : Exit → Act → World → Prop} {E : Prop} (hg : o.guard = none) (s x : Operand) (hop : o.op = Op.call { callee := Callee.builtin Builtin.append, args := #[s, x], argTypes := #[24, 24] })
    (ev : a.eval s = v) (hx : a.eval x = .slice ao m c)
    (hK : ∀ v' w', OwnE w' w0.heap.size v' (xs ++ ys) → Below w0.heap.size w0 w' → (∀ (T : Nat) (u : Value), w.heap[T]? = some (.cells #[u] 2) → w'.heap[T]? = some (.cells #[u] 2)) → K (a.put o.dst v') w') :
    if Region.wanted o (yielded ops a.tmps) = true then Oper.wp Tryz.prog o a w K Q else E :=
  step_appendE hown hb0.size ao m c ys hl hs hn hb hg s x hop ev hx (fun v' w' h1 h2 => hK v' w' h1 (hb0.grown h2 hb0.size (fun _ hk => own_ge hown hk)) (fun T u hT => (h2.block T (lt_of_block hT) (fun e => ownE_notK hown hT (by decide) e.symm)).trans hT))
theorem new1 (w : World) (o : Obj) : (w.alloc o).drew.heap[w.heap.size]? = some o := heap_new w _ _ rfl
theorem new2a (w : World) (o p : Obj) : ((w.alloc o).alloc p).drew.heap[w.heap.size]? = some o := (Below.heap_alloc (w.alloc o) p w.heap.size (by simp)).trans (heap_new w _ _ rfl)
theorem new2b (w : World) (o p : Obj) : ((w.alloc o).alloc p).drew.heap[w.heap.size + 1]? = some p := by
  have h := heap_new (w.alloc o) p _ rfl
  rw [show (w.alloc o).heap.size = w.heap.size + 1 by simp] at h
  exact h
theorem below_new {B : Nat} {w W : World} (h : Below B w W) (hB : B ≤ w.heap.size) (o : Obj) : Below B w (W.alloc o) := h.alloc (Nat.le_trans hB h.size) o

set_option maxHeartbeats 4000000 in
theorem refDo_no (ao : Option Addr) (m c : Nat) (l : List (Int × Int)) (n op a b x y : Int) (w : World) (h : ¬ (roomI n ≠ 0 ∧ (m : Int) ≤ n ∧ mayD op a b x y = true)) (hok : doOk l n op a b x y = false) :
    Calls Tryz.prog 19 #[.slice ao m c, .int .i64 n, .agg #[.int .i64 op, .int .i64 a, .int .i64 b, .int .i64 x, .int .i64 y]] w (DoTold l n op a b x y w) := by
  have HNO := Lib.hid hok
  clear hok
  by_cases h0 : roomI n = 0
  · have HR := Lib.hid h0
    clear h h0
    go_enter Tryz.func19, Tryz.ntmps19
    go_wp2_with (first
      | (go_at_call 25; go_must (refine (May_any n op a b x y _).mono ?_; rintro e w2 ⟨rfl, hb2⟩))
      | (go_at_call 15; go_must (refine (refRoom_any n _).mono ?_; rintro e w3 ⟨rfl, rfl⟩; rw [HR.out])))
    go_ret3
    exact doTold_no HNO.out (ToldE.no rfl (((Below.refl _ _).alloc (Nat.le_refl _) _).trans (hb2.mono (by simp))))
  · have hn := roomI_yes h0
    have HR := Lib.hid hn.1
    have hn0 : (1 + 3 * n == 0) = false := by have := hn.2; simp; omega
    by_cases hl : (m : Int) ≤ n
    · have hl2 : ¬ n < (m : Int) := by omega
      have hm : mayD op a b x y = false := by
        cases hm : mayD op a b x y with
        | false => rfl
        | true => exact absurd ⟨h0, hl, hm⟩ h
      have HO := Lib.hid hm
      clear h h0 hm hn hl
      go_enter Tryz.func19, Tryz.ntmps19
      go_wp2_with (first
        | (go_at_call 25; go_must (refine (May_any n op a b x y _).mono ?_; rintro e w2 ⟨rfl, hb2⟩; rw [HO.out]))
        | (go_at_call 15; go_must (refine (refRoom_any n _).mono ?_; rintro e w3 ⟨rfl, rfl⟩; rw [HR.out])))
      go_ret3
      exact doTold_no HNO.out (ToldE.no rfl (((Below.refl _ _).alloc (Nat.le_refl _) _).trans (hb2.mono (by simp))))
    · have hl2 : n < (m : Int) := by omega
      clear h h0 hn hl
      go_enter Tryz.func19, Tryz.ntmps19
      go_wp2_with (first
        | (go_at_call 25; go_must (refine (May_any n op a b x y _).mono ?_; rintro e w2 ⟨rfl, hb2⟩))
        | (go_at_call 15; go_must (refine (refRoom_any n _).mono ?_; rintro e w3 ⟨rfl, rfl⟩; rw [HR.out])))
      all_goals
        go_ret3
        exact doTold_no HNO.out (ToldE.no rfl (((Below.refl _ _).alloc (Nat.le_refl _) _).trans (hb2.mono (by simp))))
set_option maxHeartbeats 8000000 in
theorem refDo_go (ao : Option Addr) (m c : Nat) (l : List (Int × Int)) (n op a b x y : Int) (w : World) (hm : l.length = m) (hf : Flat ao m c) (_hc63 : c ≤ maxLen) (hs : SeesP w ao l) (h0 : roomI n ≠ 0) (hl : (m : Int) ≤ n) (hmay : mayD op a b x y = true) :
    Calls Tryz.prog 19 #[.slice ao m c, .int .i64 n, .agg #[.int .i64 op, .int .i64 a, .int .i64 b, .int .i64 x, .int .i64 y]] w (DoTold l n op a b x y w) := by
  unfold maxLen at _hc63
  have hn := roomI_yes h0
  have HR := Lib.hid hn.1
  have hn0 : (1 + 3 * n == 0) = false := by have := hn.2; simp; omega
  have hl2 : ¬ n < (m : Int) := by omega
  have HO := Lib.hid hmay
  have HM := Lib.hid hm
  have HS := Lib.hid hs
  have HF := Lib.hid hf
  have hm60 : m ≤ 60 := by omega
  have HOK := Lib.hid (show doOk l n op a b x y = risesE l by simp [doOk, h0, hm, hl, hmay])
  clear h0 hn hmay hm hs hf
  go_enter Tryz.func19, Tryz.ntmps19
  go_wp2_with (first
    | (go_at_call 25; go_must (refine (May_any n op a b x y _).mono ?_; rintro e w2 ⟨rfl, hb2⟩; rw [HO.out]))
    | (go_at_call 15; go_must (refine (refRoom_any n _).mono ?_; rintro e w3 ⟨rfl, h3⟩; subst h3; rw [HR.out])))
  have HD := Lib.hid ((hb2.block w.heap.size (by simp)).trans (heap_new _ _ _ rfl))
  have HB := Lib.hid (((Below.refl w.heap.size w).alloc (Nat.le_refl _) (.cells #[.int .i64 op, .int .i64 a, .int .i64 b, .int .i64 x, .int .i64 y] 40)).trans (hb2.mono (by simp)))
  clear hb2
  have HX := Lib.hid (fun (k : Nat) v (hk : (#[.int .i64 op, .int .i64 a, .int .i64 b, .int .i64 x, .int .i64 y] : Array Value)[k]? = some v) W (h : Below w3.heap.size w3 W) => cell_of_row W _ k _ _ _ ((h.block _ (lt_of_block HD.out)).trans HD.out))
  go_loopw [10, 11, 12] (fun vo va vi wr => ∃ (i : Nat) (at_ : Int), i ≤ m ∧ vi = .int .i64 i ∧ va = .int .i64 at_ ∧ ((at_ = -1 ∧ (op = 5 ∨ x ∉ (l.take i).map (·.1))) ∨ (∃ (A : Nat) (v : Int), at_ = A ∧ A < i ∧ l[A]? = some (x, v) ∧ op ≠ 5)) ∧ (l.take i).Pairwise (fun p q => p.1 < q.1) ∧ OwnE wr w3.heap.size vo (l.take i) ∧ Below w3.heap.size w3 wr) (fun _ _ vi _ => m - (intOf vi).toNat)
  case atStart => exact ⟨0, -1, Nat.zero_le _, rfl, rfl, .inl ⟨rfl, .inr (by simp)⟩, by simp, OwnE.nil _ _, Below.refl _ _⟩
  case round =>
    obtain ⟨i, at_, him, rfl, rfl, hat, hrs, hO, hB⟩ := hrel
    have hll : (l.take i).length = i := by rw [List.length_take, HM.out]; omega
    obtain ⟨aoo, co, rfl, -⟩ := hO.slice
    rw [hll] at hO ⊢
    have HLL := Lib.hid hll
    have HAT := Lib.hid hat
    have HRS := Lib.hid hrs
    have HO1 := Lib.hid hO
    have HB1 := Lib.hid hB
    clear hll hat hrs hO
    have d0 := HX.out 0 (.int .i64 op) rfl _ hB
    have d3 := HX.out 3 (.int .i64 x) rfl _ hB
    by_cases hlt : i < m
    · obtain ⟨b0, o0, e0, hcs⟩ := HS.out.below (HB.out.trans (hB.mono HB.out.size))
      obtain rfl := e0 (by intro e; have := HM.out; rw [e] at this; simp at this; omega)
      obtain ⟨⟨z, u⟩, hz⟩ : ∃ z, l[i]? = some z := ⟨_, List.getElem?_eq_getElem (by rw [HM.out]; exact hlt)⟩
      have q2 := (hcs i _ hz).1
      have q3 := (hcs i _ hz).2
      simp only at q2 q3
      have HTS := Lib.hid (take_snocE hz)
      have hpre : i = 0 ∨ ∃ j z1, i = j + 1 ∧ l[j]? = some z1 := by
        rcases i with _ | j
        · exact .inl rfl
        · exact .inr ⟨j, _, rfl, List.getElem?_eq_getElem (by rw [HM.out]; omega)⟩
      have hnext : ((l.take (i + 1)).Pairwise (fun p q => p.1 < q.1) ∧ (i = 0 ∨ ∃ j z1, i = j + 1 ∧ l[j]? = some z1 ∧ z1.1 < z)) ∨ ∃ j z1, i = j + 1 ∧ l[j]? = some z1 ∧ z ≤ z1.1 := by
        rcases hpre with rfl | ⟨j, z1, rfl, h1⟩
        · left
          refine ⟨?_, .inl rfl⟩
          rw [take_snocE hz]; simp
        · by_cases h2 : z ≤ z1.1
          · exact .inr ⟨j, z1, rfl, h1, h2⟩
          · left
            refine ⟨?_, .inr ⟨j, z1, rfl, h1, by omega⟩⟩
            rw [take_snocE hz, take_snocE h1, List.pairwise_append]
            refine ⟨by rw [← take_snocE h1]; exact HRS.out, by simp, ?_⟩
            intro a ha b hb
            obtain rfl : b = (z, u) := by simpa using hb
            rcases List.mem_append.1 ha with ha | ha
            · have hr := HRS.out
              rw [take_snocE h1, List.pairwise_append] at hr
              have := hr.2.2 a ha z1 (by simp)
              simp only at this ⊢
              omega
            · have : a = z1 := by simpa using ha
              subst this
              simp only
              omega
      have HZ := Lib.hid hz
      rcases hnext with ⟨hr, hgt⟩ | ⟨j, z1, rfl, h1, h2⟩
      · have HRN := Lib.hid hr
        -- the place behind this round
        have hatn : ∀ at2 : Int, at2 = (if z = x ∧ op ≠ 5 then (i : Int) else at_) → ((at2 = -1 ∧ (op = 5 ∨ x ∉ (l.take (i + 1)).map (·.1))) ∨ (∃ (A : Nat) (v : Int), at2 = A ∧ A < i + 1 ∧ l[A]? = some (x, v) ∧ op ≠ 5)) := by
          rintro at2 rfl
          by_cases hk : z = x ∧ op ≠ 5
          · rw [if_pos hk]
            exact .inr ⟨i, u, rfl, by omega, by rw [HZ.out, hk.1], hk.2⟩
          · rw [if_neg hk]
            rcases HAT.out with ⟨h1, h2⟩ | ⟨A, v, h1, h2, h3, h4⟩
            · refine .inl ⟨h1, ?_⟩
              by_cases h5 : op = 5
              · exact .inl h5
              · right
                rw [HTS.out, List.map_append]
                intro hm
                rcases List.mem_append.1 hm with hm | hm
                · rcases h2 with h2 | h2
                  · exact h5 h2
                  · exact h2 hm
                · have : x = z := by simpa using hm
                  exact hk ⟨this.symm, h5⟩
            · exact .inr ⟨A, v, h1, by omega, h3, h4⟩
        have HATN := Lib.hid hatn
        have hcs2 := hcs
        clear hr hatn hpre hcs e0 hz
        rcases hgt with hi0 | ⟨j, z1, hij, h1, h2⟩
        · have hd0 : decide (0 < i) = false := by simp; omega
          have HI0 := Lib.hid hi0
          clear hi0 hcs2
          go_upto_region 9 with (fail)
          go_quiet (fail)
          go_upto_region 11 with (fail)
          refine wp_gen (fun W => OwnE W w3.heap.size (.slice aoo i co) (l.take i) ∧ Below w3.heap.size w3 W ∧ W.cell? ⟨b0, o0 + i * 2, none⟩ = some (.int .i64 z) ∧ W.cell? ⟨b0, o0 + i * 2 + 1, none⟩ = some (.int .i64 u)) ⟨HO1.out.drewN _, Below.drewK HB1.out _, q2, q3⟩ ?_
          rintro W ⟨hO, hB2, q4, q5⟩
          clear HO1 HB1 q2 q3 d0 d3 hB
          have HO1 := Lib.hid hO
          have HB1 := Lib.hid hB2
          have d0 := HX.out 0 (.int .i64 op) rfl _ hB2
          have d3 := HX.out 3 (.int .i64 x) rfl _ hB2
          have q2 := q4
          have q3 := q5
          clear hO hB2 q4 q5
          by_cases h5 : op = 5
          · have e5 : (op == 5) = true := by simpa using h5
            have e6 : (op != 5) = false := by simp [h5]
            have HAN := Lib.hid (HATN.out at_ (by rw [if_neg (fun h => h.2 h5)]))
            by_cases hk : z = x
            · have hd : (z == x) = true := by simpa using hk
              clear h5 hk
              go_upto_region 11 with (fail)
              go_quiet (fail)
              go_upto_region 13 with (fail)
              refine wp_gen (fun W => OwnE W w3.heap.size (.slice aoo i co) (l.take i) ∧ Below w3.heap.size w3 W ∧ W.cell? ⟨b0, o0 + i * 2, none⟩ = some (.int .i64 z) ∧ W.cell? ⟨b0, o0 + i * 2 + 1, none⟩ = some (.int .i64 u)) ⟨HO1.out.drewN _, Below.drewK HB1.out _, q2, q3⟩ ?_
              rintro W ⟨hO, hB2, q4, q5⟩
              have HO2 := Lib.hid hO
              have HB2 := Lib.hid hB2
              clear hO hB2 q2 q3 d0 d3
              go_wp2_with (at_builtin; refine wpList_appendE (HO2.out.below ((Below.refl _ _).alloc (Nat.le_refl _) _)) (by have := HB2.out.size; simp <;> omega) (some ⟨W.heap.size, 0, none⟩) 1 1 [(z, u)] rfl (seesP_one (heap_new _ _ _ rfl)) (fun h => by cases h) (by rw [HLL.out]; simp <;> omega) rfl _ _ rfl rfl rfl ?_; intro v8 w8 hown8 hgrow8)
              go_roundw
              case rel => exact ⟨i + 1, _, by omega, by go_num, rfl, HAN.out, HRN.out, by rw [HTS.out]; exact hown8, (HB2.out.alloc HB2.out.size _).grown hgrow8 (by have := HB2.out.size; simp <;> omega) (fun k hk => own_ge HO2.out hk)⟩
              case measure => simp [intOf]; omega
            · have hd : (z == x) = false := by simpa using hk
              clear h5 hk
              go_upto_region 11 with (fail)
              go_quiet (fail)
              go_upto_region 13 with (fail)
              refine wp_gen (fun W => OwnE W w3.heap.size (.slice aoo i co) (l.take i) ∧ Below w3.heap.size w3 W ∧ W.cell? ⟨b0, o0 + i * 2, none⟩ = some (.int .i64 z) ∧ W.cell? ⟨b0, o0 + i * 2 + 1, none⟩ = some (.int .i64 u)) ⟨HO1.out.drewN _, Below.drewK HB1.out _, q2, q3⟩ ?_
              rintro W ⟨hO, hB2, q4, q5⟩
              have HO2 := Lib.hid hO
              have HB2 := Lib.hid hB2
              clear hO hB2 q2 q3 d0 d3
              go_wp2_with (at_builtin; refine wpList_appendE (HO2.out.below ((Below.refl _ _).alloc (Nat.le_refl _) _)) (by have := HB2.out.size; simp <;> omega) (some ⟨W.heap.size, 0, none⟩) 1 1 [(z, u)] rfl (seesP_one (heap_new _ _ _ rfl)) (fun h => by cases h) (by rw [HLL.out]; simp <;> omega) rfl _ _ rfl rfl rfl ?_; intro v8 w8 hown8 hgrow8)
              go_roundw
              case rel => exact ⟨i + 1, _, by omega, by go_num, rfl, HAN.out, HRN.out, by rw [HTS.out]; exact hown8, (HB2.out.alloc HB2.out.size _).grown hgrow8 (by have := HB2.out.size; simp <;> omega) (fun k hk => own_ge HO2.out hk)⟩
              case measure => simp [intOf]; omega
          · have e5 : (op == 5) = false := by simpa using h5
            have e6 : (op != 5) = true := by simpa using h5
            by_cases hk : z = x
            · have hd : (z == x) = true := by simpa using hk
              have HAN := Lib.hid (HATN.out (i : Int) (by rw [if_pos ⟨hk, h5⟩]))
              clear h5 hk
              go_upto_region 11 with (fail)
              go_quiet (fail)
              go_upto_region 13 with (fail)
              refine wp_gen (fun W => OwnE W w3.heap.size (.slice aoo i co) (l.take i) ∧ Below w3.heap.size w3 W ∧ W.cell? ⟨b0, o0 + i * 2, none⟩ = some (.int .i64 z) ∧ W.cell? ⟨b0, o0 + i * 2 + 1, none⟩ = some (.int .i64 u)) ⟨HO1.out.drewN _, Below.drewK HB1.out _, q2, q3⟩ ?_
              rintro W ⟨hO, hB2, q4, q5⟩
              have HO2 := Lib.hid hO
              have HB2 := Lib.hid hB2
              clear hO hB2 q2 q3 d0 d3
              go_wp2_with (at_builtin; refine wpList_appendE (HO2.out.below ((Below.refl _ _).alloc (Nat.le_refl _) _)) (by have := HB2.out.size; simp <;> omega) (some ⟨W.heap.size, 0, none⟩) 1 1 [(z, u)] rfl (seesP_one (heap_new _ _ _ rfl)) (fun h => by cases h) (by rw [HLL.out]; simp <;> omega) rfl _ _ rfl rfl rfl ?_; intro v8 w8 hown8 hgrow8)
              go_roundw
              case rel => exact ⟨i + 1, _, by omega, by go_num, rfl, HAN.out, HRN.out, by rw [HTS.out]; exact hown8, (HB2.out.alloc HB2.out.size _).grown hgrow8 (by have := HB2.out.size; simp <;> omega) (fun k hk => own_ge HO2.out hk)⟩
              case measure => simp [intOf]; omega
            · have hd : (z == x) = false := by simpa using hk
              have HAN := Lib.hid (HATN.out at_ (by rw [if_neg (fun h => hk h.1)]))
              clear h5 hk
              go_upto_region 11 with (fail)
              go_quiet (fail)
              go_upto_region 13 with (fail)
              refine wp_gen (fun W => OwnE W w3.heap.size (.slice aoo i co) (l.take i) ∧ Below w3.heap.size w3 W ∧ W.cell? ⟨b0, o0 + i * 2, none⟩ = some (.int .i64 z) ∧ W.cell? ⟨b0, o0 + i * 2 + 1, none⟩ = some (.int .i64 u)) ⟨HO1.out.drewN _, Below.drewK HB1.out _, q2, q3⟩ ?_
              rintro W ⟨hO, hB2, q4, q5⟩
              have HO2 := Lib.hid hO
              have HB2 := Lib.hid hB2
              clear hO hB2 q2 q3 d0 d3
              go_wp2_with (at_builtin; refine wpList_appendE (HO2.out.below ((Below.refl _ _).alloc (Nat.le_refl _) _)) (by have := HB2.out.size; simp <;> omega) (some ⟨W.heap.size, 0, none⟩) 1 1 [(z, u)] rfl (seesP_one (heap_new _ _ _ rfl)) (fun h => by cases h) (by rw [HLL.out]; simp <;> omega) rfl _ _ rfl rfl rfl ?_; intro v8 w8 hown8 hgrow8)
              go_roundw
              case rel => exact ⟨i + 1, _, by omega, by go_num, rfl, HAN.out, HRN.out, by rw [HTS.out]; exact hown8, (HB2.out.alloc HB2.out.size _).grown hgrow8 (by have := HB2.out.size; simp <;> omega) (fun k hk => own_ge HO2.out hk)⟩
              case measure => simp [intOf]; omega
        · subst hij
          have q1 := (hcs2 j _ h1).1
          have hd0 : decide (z ≤ z1.1) = false := by simp; omega
          have hd00 : decide (0 < j + 1) = true := by simp
          clear h1 h2 hcs2
          go_upto_region 9 with (fail)
          go_quiet (fail)
          go_upto_region 11 with (fail)
          refine wp_gen (fun W => OwnE W w3.heap.size (.slice aoo (j + 1) co) (l.take (j + 1)) ∧ Below w3.heap.size w3 W ∧ W.cell? ⟨b0, o0 + (j + 1) * 2, none⟩ = some (.int .i64 z) ∧ W.cell? ⟨b0, o0 + (j + 1) * 2 + 1, none⟩ = some (.int .i64 u)) ⟨HO1.out.drewN _, Below.drewK HB1.out _, q2, q3⟩ ?_
          rintro W ⟨hO, hB2, q4, q5⟩
          clear HO1 HB1 q1 q2 q3 d0 d3 hB
          have HO1 := Lib.hid hO
          have HB1 := Lib.hid hB2
          have d0 := HX.out 0 (.int .i64 op) rfl _ hB2
          have d3 := HX.out 3 (.int .i64 x) rfl _ hB2
          have q2 := q4
          have q3 := q5
          clear hO hB2 q4 q5
          by_cases h5 : op = 5
          · have e5 : (op == 5) = true := by simpa using h5
            have e6 : (op != 5) = false := by simp [h5]
            have HAN := Lib.hid (HATN.out at_ (by rw [if_neg (fun h => h.2 h5)]))
            by_cases hk : z = x
            · have hd : (z == x) = true := by simpa using hk
              clear h5 hk
              go_upto_region 11 with (fail)
              go_quiet (fail)
              go_upto_region 13 with (fail)
              refine wp_gen (fun W => OwnE W w3.heap.size (.slice aoo (j + 1) co) (l.take (j + 1)) ∧ Below w3.heap.size w3 W ∧ W.cell? ⟨b0, o0 + (j + 1) * 2, none⟩ = some (.int .i64 z) ∧ W.cell? ⟨b0, o0 + (j + 1) * 2 + 1, none⟩ = some (.int .i64 u)) ⟨HO1.out.drewN _, Below.drewK HB1.out _, q2, q3⟩ ?_
              rintro W ⟨hO, hB2, q4, q5⟩
              have HO2 := Lib.hid hO
              have HB2 := Lib.hid hB2
              clear hO hB2 q2 q3 d0 d3
              go_wp2_with (at_builtin; refine wpList_appendE (HO2.out.below ((Below.refl _ _).alloc (Nat.le_refl _) _)) (by have := HB2.out.size; simp <;> omega) (some ⟨W.heap.size, 0, none⟩) 1 1 [(z, u)] rfl (seesP_one (heap_new _ _ _ rfl)) (fun h => by cases h) (by rw [HLL.out]; simp <;> omega) rfl _ _ rfl rfl rfl ?_; intro v8 w8 hown8 hgrow8)
              go_roundw
              case rel => exact ⟨j + 1 + 1, _, by omega, by go_num, rfl, HAN.out, HRN.out, by rw [HTS.out]; exact hown8, (HB2.out.alloc HB2.out.size _).grown hgrow8 (by have := HB2.out.size; simp <;> omega) (fun k hk => own_ge HO2.out hk)⟩
              case measure => simp [intOf]; omega
            · have hd : (z == x) = false := by simpa using hk
              clear h5 hk
              go_upto_region 11 with (fail)
              go_quiet (fail)
              go_upto_region 13 with (fail)
              refine wp_gen (fun W => OwnE W w3.heap.size (.slice aoo (j + 1) co) (l.take (j + 1)) ∧ Below w3.heap.size w3 W ∧ W.cell? ⟨b0, o0 + (j + 1) * 2, none⟩ = some (.int .i64 z) ∧ W.cell? ⟨b0, o0 + (j + 1) * 2 + 1, none⟩ = some (.int .i64 u)) ⟨HO1.out.drewN _, Below.drewK HB1.out _, q2, q3⟩ ?_
              rintro W ⟨hO, hB2, q4, q5⟩
              have HO2 := Lib.hid hO
              have HB2 := Lib.hid hB2
              clear hO hB2 q2 q3 d0 d3
              go_wp2_with (at_builtin; refine wpList_appendE (HO2.out.below ((Below.refl _ _).alloc (Nat.le_refl _) _)) (by have := HB2.out.size; simp <;> omega) (some ⟨W.heap.size, 0, none⟩) 1 1 [(z, u)] rfl (seesP_one (heap_new _ _ _ rfl)) (fun h => by cases h) (by rw [HLL.out]; simp <;> omega) rfl _ _ rfl rfl rfl ?_; intro v8 w8 hown8 hgrow8)
              go_roundw
              case rel => exact ⟨j + 1 + 1, _, by omega, by go_num, rfl, HAN.out, HRN.out, by rw [HTS.out]; exact hown8, (HB2.out.alloc HB2.out.size _).grown hgrow8 (by have := HB2.out.size; simp <;> omega) (fun k hk => own_ge HO2.out hk)⟩
              case measure => simp [intOf]; omega
          · have e5 : (op == 5) = false := by simpa using h5
            have e6 : (op != 5) = true := by simpa using h5
            by_cases hk : z = x
            · have hd : (z == x) = true := by simpa using hk
              have HAN := Lib.hid (HATN.out ((j + 1 : Nat) : Int) (by rw [if_pos ⟨hk, h5⟩]))
              clear h5 hk
              go_upto_region 11 with (fail)
              go_quiet (fail)
              go_upto_region 13 with (fail)
              refine wp_gen (fun W => OwnE W w3.heap.size (.slice aoo (j + 1) co) (l.take (j + 1)) ∧ Below w3.heap.size w3 W ∧ W.cell? ⟨b0, o0 + (j + 1) * 2, none⟩ = some (.int .i64 z) ∧ W.cell? ⟨b0, o0 + (j + 1) * 2 + 1, none⟩ = some (.int .i64 u)) ⟨HO1.out.drewN _, Below.drewK HB1.out _, q2, q3⟩ ?_
              rintro W ⟨hO, hB2, q4, q5⟩
              have HO2 := Lib.hid hO
              have HB2 := Lib.hid hB2
              clear hO hB2 q2 q3 d0 d3
              go_wp2_with (at_builtin; refine wpList_appendE (HO2.out.below ((Below.refl _ _).alloc (Nat.le_refl _) _)) (by have := HB2.out.size; simp <;> omega) (some ⟨W.heap.size, 0, none⟩) 1 1 [(z, u)] rfl (seesP_one (heap_new _ _ _ rfl)) (fun h => by cases h) (by rw [HLL.out]; simp <;> omega) rfl _ _ rfl rfl rfl ?_; intro v8 w8 hown8 hgrow8)
              go_roundw
              case rel => exact ⟨j + 1 + 1, _, by omega, by go_num, rfl, HAN.out, HRN.out, by rw [HTS.out]; exact hown8, (HB2.out.alloc HB2.out.size _).grown hgrow8 (by have := HB2.out.size; simp <;> omega) (fun k hk => own_ge HO2.out hk)⟩
              case measure => simp [intOf]; omega
            · have hd : (z == x) = false := by simpa using hk
              have HAN := Lib.hid (HATN.out at_ (by rw [if_neg (fun h => hk h.1)]))
              clear h5 hk
              go_upto_region 11 with (fail)
              go_quiet (fail)
              go_upto_region 13 with (fail)
              refine wp_gen (fun W => OwnE W w3.heap.size (.slice aoo (j + 1) co) (l.take (j + 1)) ∧ Below w3.heap.size w3 W ∧ W.cell? ⟨b0, o0 + (j + 1) * 2, none⟩ = some (.int .i64 z) ∧ W.cell? ⟨b0, o0 + (j + 1) * 2 + 1, none⟩ = some (.int .i64 u)) ⟨HO1.out.drewN _, Below.drewK HB1.out _, q2, q3⟩ ?_
              rintro W ⟨hO, hB2, q4, q5⟩
              have HO2 := Lib.hid hO
              have HB2 := Lib.hid hB2
              clear hO hB2 q2 q3 d0 d3
              go_wp2_with (at_builtin; refine wpList_appendE (HO2.out.below ((Below.refl _ _).alloc (Nat.le_refl _) _)) (by have := HB2.out.size; simp <;> omega) (some ⟨W.heap.size, 0, none⟩) 1 1 [(z, u)] rfl (seesP_one (heap_new _ _ _ rfl)) (fun h => by cases h) (by rw [HLL.out]; simp <;> omega) rfl _ _ rfl rfl rfl ?_; intro v8 w8 hown8 hgrow8)
              go_roundw
              case rel => exact ⟨j + 1 + 1, _, by omega, by go_num, rfl, HAN.out, HRN.out, by rw [HTS.out]; exact hown8, (HB2.out.alloc HB2.out.size _).grown hgrow8 (by have := HB2.out.size; simp <;> omega) (fun k hk => own_ge HO2.out hk)⟩
              case measure => simp [intOf]; omega
      · have HNO := Lib.hid (show doOk l n op a b x y = false by
          rw [HOK.out]
          unfold risesE
          simp only [decide_eq_false_iff_not]
          intro hp
          have := hp.sublist (List.take_sublist (j + 1 + 1) l)
          rw [take_snocE hz, take_snocE h1, List.pairwise_append] at this
          have := this.2.2 z1 (by simp) (z, u) (by simp)
          simp only at this
          omega)
        have q1 := (hcs j _ h1).1
        have hd : decide (z ≤ z1.1) = true := by simpa using h2
        clear hpre hz h1 h2 e0 hcs
        go_upto_region 9 with (fail)
        go_quiet (fail)
        go_wp2
        go_ret3
        exact doTold_no HNO.out (ToldE.no rfl (Below.drewK (HB.out.trans (HB1.out.mono HB.out.size)) _))
    · obtain rfl : i = m := by omega
      have eT : l.take i = l := List.take_of_length_le (by rw [HM.out]; exact Nat.le_refl _)
      have hrs := HRS.out
      have hO := HO1.out
      have hat := HAT.out
      rw [eT] at hrs hO hat
      have HOKY := Lib.hid (show doOk l n op a b x y = true by rw [HOK.out]; unfold risesE; rw [decide_eq_true hrs])
      have HRS2 := Lib.hid hrs
      have HOW := Lib.hid hO
      have HBW := Lib.hid (HB.out.trans (hB.mono HB.out.size))
      have d4 := HX.out 4 (.int .i64 y) rfl _ hB
      have hop : op = 1 ∨ op = 2 ∨ op = 3 ∨ op = 4 ∨ op = 5 := by
        have hm' := HO.out
        simp only [mayD, Bool.and_eq_true, Bool.or_eq_true, decide_eq_true_eq] at hm'
        omega
      have hsz := hB.size
      clear eT hrs hO HRS HO1 HAT him hlt HLL
      rcases hat with ⟨rfl, hat⟩ | ⟨A, v, rfl, hAi, hAl, h5⟩
      · by_cases h5 : op = 5
        · subst h5
          clear hat hop
          have HDE := Lib.hid (show deedE l n 5 x y = (l, [(i : Int)]) by unfold deedE; rw [if_pos rfl, HM.out])
          go_wp2
          go_ret3
          exact doTold_yes HOKY.out HDE.out (toldE_at HOW.out HM.out HBW.out rfl _)
        have hx : x ∉ l.map (·.1) := by
          rcases hat with h | h
          · exact absurd h h5
          · exact h
        have HV := Lib.hid (val_none hx)
        clear hx hat
        by_cases hp : op = 1
        · subst hp
          clear hop h5
          by_cases hfull : (i : Int) = n
          · have HDE := Lib.hid (show deedE l n 1 x y = (l, [2]) by unfold deedE; rw [if_neg (by omega), HV.out]; simp [HM.out, hfull])
            have e1 : ((i : Int) == n) = true := by simpa using hfull
            clear hfull
            go_wp2
            go_ret3
            exact doTold_yes HOKY.out HDE.out (toldE_at HOW.out HM.out HBW.out rfl _)
          · have HDE := Lib.hid (show deedE l n 1 x y = (putE l (x, y), [1]) by unfold deedE; rw [if_neg (by omega), HV.out]; simp [HM.out, hfull])
            have e1 : ((i : Int) == n) = false := by simpa using hfull
            clear hfull
            go_wp2_with (go_at_call 30; go_must (refine (put_any ao i c l x y _ HM.out (by omega) (by exact HS.out.below HBW.out)).mono ?_; rintro e w6 ⟨v6, rfl, ho6, hb6⟩; obtain ⟨ao6, c6, rfl, -⟩ := ho6.slice))
            go_ret3
            exact doTold_yes HOKY.out HDE.out (toldE_at ho6 rfl (HBW.out.trans (hb6.mono HBW.out.size)) rfl _)
        · have HDE := Lib.hid (show deedE l n op x y = (l, [0]) by unfold deedE; rw [if_neg h5, HV.out]; simp [hp])
          have e5 : (op == 5) = false := by simpa using h5
          have e1 : (op == 1) = false := by simpa using hp
          clear h5 hp hop
          go_wp2
          go_ret3
          exact doTold_yes HOKY.out HDE.out (toldE_at HOW.out HM.out HBW.out rfl _)
      · obtain ⟨hv, hA⟩ := val_at HRS2.out hAl
        have hvm := List.mem_of_getElem? hAl
        obtain ⟨k1, k2, k3⟩ := at_key HRS2.out hA hvm
        have HV := Lib.hid hv
        have HSP := Lib.hid (fun b => set_put HRS2.out hA hvm b)
        have HK := Lib.hid hAl
        have HDL := Lib.hid (show l.take A ++ l.drop (A + 1) = lessE l x ++ moreE l x by rw [k2, k3])
        rcases HOW.out.form with ⟨_, e1⟩ | ⟨g, cap, e1, hbal⟩
        · rw [e1] at hvm
          cases hvm
        rw [HM.out] at e1
        injection e1 with e2 em e3
        subst e2; subst e3
        clear em
        have q := hbal.cell A hAl
        have qv := q.2
        have qf : wr.frozen? ⟨g, A * 2 + 1, none⟩ = false := hbal.frozenAt _
        have hgw := hbal.lt
        have hA0 : (0 : Int) ≤ (A : Int) := by omega
        have hA1 : (A : Int) < (i : Int) := by omega
        have HBAL := Lib.hid hbal
        simp only at qv
        clear hv hA hvm k1 k2 k3 hbal q hAl
        obtain rfl | rfl | rfl | rfl : op = 1 ∨ op = 2 ∨ op = 3 ∨ op = 4 := by omega
        · have HDE := Lib.hid (show deedE l n 1 x y = (l.set A (x, y), [0]) by unfold deedE; rw [if_neg (by omega), HV.out, HSP.out]; simp)
          have hset := HBAL.out.set2 A y HK.out
          have HSET := Lib.hid hset
          have HHW := Lib.hid (HBW.out.setCell (p := ⟨g, A * 2 + 1, none⟩) (show w.heap.size ≤ g by have := HB.out.size; omega) (.int .i64 y))
          have HLS := Lib.hid (show (l.set A (x, y)).length = i by rw [List.length_set, HM.out])
          clear hset h5 hop
          go_wp2
          go_ret3
          have h6 := HSET.out.own
          rw [HLS.out] at h6
          exact doTold_yes HOKY.out HDE.out (toldE_at h6 HLS.out HHW.out (by simp) _)
        · have HDE := Lib.hid (show deedE l n 2 x y = (l, [1, v]) by unfold deedE; rw [if_neg (by omega), HV.out]; simp)
          clear h5 hop
          go_upto_region 26 with (fail)
          go_region_held3 (fun w' => w'.cell? ⟨g, A * 2 + 1, none⟩ = some (.int .i64 v)) (go_keep) (fail)
          all_goals
            go_wp2
            go_ret3
            exact doTold_yes HOKY.out HDE.out (toldE_two HOW.out.sees HM.out HBW.out 1 v)
        · have HDE := Lib.hid (show deedE l n 3 x y = (l.take A ++ l.drop (A + 1), [1]) by unfold deedE; rw [if_neg (by omega), HV.out, HDL.out]; simp)
          obtain ⟨b0, o0, e0, _⟩ := HS.out
          obtain rfl := e0 (by intro e; have := HM.out; rw [e] at this; simp at this; omega)
          obtain ⟨Ad, hAd, hsrc⟩ : ∃ Ad : Addr, (if c = A + 1 then (some (⟨b0, o0, none⟩ : Addr)) else some ⟨b0, o0 + (A + 1) * 2, none⟩) = some Ad ∧ SeesP w (some Ad) (l.drop (A + 1)) := by
            by_cases h : c = A + 1
            · refine ⟨⟨b0, o0, none⟩, by simp [h], ?_⟩
              have h0 : l.drop (A + 1) = [] := List.drop_eq_nil_of_le (by rw [HM.out]; have := HF.out.2; omega)
              rw [h0]; exact SeesP.nil _ _
            · refine ⟨⟨b0, o0 + (A + 1) * 2, none⟩, by simp [h], b0, o0 + (A + 1) * 2, fun _ => rfl, fun j z hj => ?_⟩
              rw [List.getElem?_drop] at hj
              obtain ⟨b1, o1, e1, h1⟩ := HS.out
              have e1 := e1 (by intro e; rw [e] at hj; simp at hj)
              injection e1 with e1
              injection e1 with e1 e2
              subst e1; subst e2
              have := h1 _ z hj
              rw [Nat.add_mul] at this
              rw [Nat.add_assoc]
              exact this
          have HSD := Lib.hid hsrc
          have HST := Lib.hid (HS.out.take A)
          have hcA := HF.out.2
          have hl1 : (l.take A).length = A := by rw [List.length_take, HM.out]; omega
          have hl2' : (l.drop (A + 1)).length = i - (A + 1) := by rw [List.length_drop, HM.out]
          have HL1 := Lib.hid hl1
          have HL2 := Lib.hid hl2'
          have HLL := Lib.hid (show (l.take A ++ l.drop (A + 1)).length = i - 1 by rw [List.length_append, hl1, hl2']; omega)
          have hw1 : IntKind.i64.wrap ((A : Int) + 1) = (A : Int) + 1 := IntWalk.i64_in _ (by omega)
          have hb1 : (0 : Int) ≤ (A : Int) + 1 := by omega
          have hb2 : (A : Int) + 1 ≤ (i : Int) := by omega
          have htn : ((A : Int) + 1).toNat = A + 1 := by omega
          have hic : A ≤ c := by omega
          have hjc : A + 1 ≤ c := by omega
          have hA2 : (A : Int) ≤ (i : Int) := by omega
          have hic2 : (A : Int) ≤ (c : Int) := by omega
          have hi3 : (i : Int) ≤ (c : Int) := by omega
          clear h5 hop hsrc e0 hl1 hl2' qv qf
          go_upto_region 30 with (fail)
          go_region_held3 (fun w' => Below w3.heap.size w3 w')
            (first | exact Below.refl _ _ | assumption | (repeat (first | exact Below.refl _ _ | assumption | apply below_drewed1 | (refine below_new ?_ (Nat.le_refl _) _))))
            (first
              | (refine step_appendEB (w0 := w3) (xs := []) (by have hh := ‹Below w3.heap.size w3 _›; exact hh) (by first | exact ownE_empty hsz (new1 _ _) | exact ownE_empty hsz (new2a _ _ _) | exact ownE_empty (Nat.le_trans hsz (Nat.le_succ _)) (new2b _ _ _)) (some ⟨b0, o0, none⟩) A c (l.take A) HL1.out (by exact HST.out.below (HB.out.trans (Below.mono (by have hh := ‹Below w3.heap.size w3 _›; exact hh) HB.out.size))) (fun h => by cases h) (by rw [HL1.out]; simp; omega) rfl (.tmp 157) (.tmp 160) rfl rfl rfl (fun v1 w1 ho1 hb1 hk1 => ?_))
              | (refine step_appendEB (w0 := w3) (xs := l.take A) (by have hh := ‹Below w3.heap.size w3 _›; exact hh) (by first | exact ho1 | exact ho1.below ((Below.refl _ _).alloc (Nat.le_refl _) _)) (some Ad) (i - (A + 1)) (c - (A + 1)) (l.drop (A + 1)) HL2.out (by exact HSD.out.below (HB.out.trans (Below.mono (by have hh := ‹Below w3.heap.size w3 _›; exact hh) HB.out.size))) (fun h => by cases h) (by rw [HL1.out, HL2.out]; omega) rfl (.tmp 161) (.tmp 165) rfl rfl rfl (fun v2 w2 ho2 hb2 hk2 => ?_)))
          all_goals
            obtain ⟨ao2, c2, rfl, -⟩ := ho2.slice
            go_wp2_with fail
            go_ret3
            first
              | exact doTold_yes HOKY.out HDE.out (toldE_at ho2 rfl (HB.out.trans (hb2.mono HB.out.size)) rfl _)
              | exact doTold_yes HOKY.out HDE.out (toldE_sees ho2.sees rfl (HB.out.trans (hb2.mono HB.out.size)) (hk2 _ _ (heap_new w1 _ _ rfl)))
              | exact doTold_yes HOKY.out HDE.out (toldE_sees ho2.sees rfl (HB.out.trans (hb2.mono HB.out.size)) (hk2 _ _ (hk1 _ _ (new2b _ _ _))))
              | exact doTold_yes HOKY.out HDE.out (toldE_sees ho2.sees rfl (HB.out.trans (hb2.mono HB.out.size)) (hk2 _ _ (hk1 _ _ (new2a _ _ _))))
        · have HDE := Lib.hid (show deedE l n 4 x y = (l.set A (x, wrap64 (v + y)), [1, wrap64 (v + y)]) by unfold deedE; rw [if_neg (by omega), HV.out, HSP.out]; simp)
          clear h5 hop
          go_upto_region 28 with (fail)
          go_still_tail 10, (by kernel_rfl)
          go_upto_region 29 with (fail)
          refine wp_gen (fun W => OwnE W w3.heap.size (.slice (some ⟨g, 0, none⟩) i co) (l.set A (x, wrap64 (v + y))) ∧ Below w.heap.size w W ∧ W.cell? ⟨g, A * 2 + 1, none⟩ = some (.int .i64 (wrap64 (v + y)))) ?_ ?_
          · have h6 := HBAL.out.set2 A (wrap64 (v + y)) HK.out
            have h7 := h6.cell A (by rw [List.getElem?_set_self (by rw [HM.out]; omega)])
            have h8 := h6.own
            rw [List.length_set, HM.out] at h8
            exact ⟨h8, below_drewed1 (HBW.out.setCell (p := ⟨g, A * 2 + 1, none⟩) (show w.heap.size ≤ g by have := HB.out.size; omega) _), h7.2⟩
          rintro W ⟨hoW, hBW, q1⟩
          have HOW1 := Lib.hid hoW
          have HBW1 := Lib.hid hBW
          have HLS := Lib.hid (show (l.set A (x, wrap64 (v + y))).length = i by rw [List.length_set, HM.out])
          clear hoW hBW qv qf
          go_region_held3 (fun w' => w'.cell? ⟨g, A * 2 + 1, none⟩ = some (.int .i64 (wrap64 (v + y)))) (go_keep) (fail)
          all_goals
            go_wp2
            go_ret3
            exact doTold_yes HOKY.out HDE.out (toldE_two HOW1.out.sees HLS.out HBW1.out 1 _)
theorem refDo_any (ao : Option Addr) (m c : Nat) (l : List (Int × Int)) (n op a b x y : Int) (w : World) (hm : l.length = m) (hf : Flat ao m c) (hc63 : c ≤ maxLen) (hs : SeesP w ao l) :
    Calls Tryz.prog 19 #[.slice ao m c, .int .i64 n, .agg #[.int .i64 op, .int .i64 a, .int .i64 b, .int .i64 x, .int .i64 y]] w (ToldE (doE l n op a b x y).1 (doE l n op a b x y).2.1 (doE l n op a b x y).2.2 w) := by
  by_cases h : roomI n ≠ 0 ∧ (m : Int) ≤ n ∧ mayD op a b x y = true
  · exact refDo_go ao m c l n op a b x y w hm hf hc63 hs h.1 h.2.1 h.2.2
  · refine refDo_no ao m c l n op a b x y w h ?_
    cases hd : doOk l n op a b x y with
    | false => rfl
    | true =>
      have hp := deed_parts hd
      exact absurd ⟨by have := hp.1; omega, by rw [← hm]; exact hp.2.2.2.1, hp.2.2.2.2.1⟩ h
end Go.Proofs.YtochpdailleilaaGreatDoor
