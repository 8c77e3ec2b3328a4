/-
  quash/quashref04: the document's player: pick, every call. No condition.
-/
import Derived.Test.YtaiinkeendejdaaSchRefLast
import Derived.Test.YtaiinkeendejdaaSchSame
import Derived.Deep.Cut
import Derived.Deep.QuietTactic
namespace Go.Proofs.Ytaiinkeendejdaa
open Go.RowKit
open Go.ConcN (upd upd_ne upd_same)
set_option maxRecDepth 100000
/-- the document's player in memory -/
structure RefSt (N M rp sb eb : Nat) (ao : Option Addr) (qc n : Nat) (ps : List (List Int)) (s : Nat → Nat) (e : Nat → Bool) (ms : List Mk) (w0 w : World) : Prop where
  num : N ≤ rp ∧ N ≤ sb ∧ N ≤ eb ∧ rp < M ∧ sb < M ∧ eb < M ∧ rp ≠ sb ∧ rp ≠ eb ∧ sb ≠ eb ∧ M ≤ w.heap.size
  plans : w.cell? ⟨rp, 0, none⟩ = some (.slice ao n qc)
  steps : w.cell? ⟨rp, 1, none⟩ = some (.slice (some ⟨sb, 0, none⟩) n n)
  ended : w.cell? ⟨rp, 2, none⟩ = some (.slice (some ⟨eb, 0, none⟩) n n)
  marks : ∃ mv, w.cell? ⟨rp, 3, none⟩ = some mv ∧ OwnM w M mv ms
  warm : ∀ x i, x = rp ∨ x = sb ∨ x = eb → w.frozen? ⟨x, i, none⟩ = false
  cells : ∀ t, t < n → w.cell? ⟨sb, t, none⟩ = some (.int .i64 (s t : Nat)) ∧ w.cell? ⟨eb, t, none⟩ = some (.bool (e t))
  rows : Plans (fun x => x < N) w ao ps
  below : Below N w0 w
/-- a cell of the player's own is stored -/
theorem RefSt.put {N M rp sb eb : Nat} {ao : Option Addr} {qc n : Nat} {ps : List (List Int)} {s s' : Nat → Nat} {e e' : Nat → Bool} {ms : List Mk} {w0 w : World} (H : RefSt N M rp sb eb ao qc n ps s e ms w0 w) {x k : Nat} (hx : x = sb ∨ x = eb) (u : Value)
    (hs : ∀ t, t < n → (w.setCell ⟨x, k, none⟩ u).cell? ⟨sb, t, none⟩ = some (.int .i64 (s' t : Nat))) (he : ∀ t, t < n → (w.setCell ⟨x, k, none⟩ u).cell? ⟨eb, t, none⟩ = some (.bool (e' t))) : RefSt N M rp sb eb ao qc n ps s' e' ms w0 (w.setCell ⟨x, k, none⟩ u) := by
  obtain ⟨n1, n2, n3, n4, n5, n6, n7, n8, n9, n10⟩ := H.num
  have hxr : rp ≠ x := by rcases hx with rfl | rfl <;> assumption
  have hxN : N ≤ x := by rcases hx with rfl | rfl <;> assumption
  have hxM : x < M := by rcases hx with rfl | rfl <;> assumption
  have hb : (w.setCell ⟨x, k, none⟩ u).heap[rp]? = w.heap[rp]? := Below.heap_setCell _ _ _ _ hxr
  obtain ⟨mv, m1, m2⟩ := H.marks
  exact ⟨⟨n1, n2, n3, n4, n5, n6, n7, n8, n9, by simpa using n10⟩, (World.cell?_of_block (a := ⟨rp, 0, none⟩) hb).trans H.plans, (World.cell?_of_block (a := ⟨rp, 1, none⟩) hb).trans H.steps, (World.cell?_of_block (a := ⟨rp, 2, none⟩) hb).trans H.ended,
    ⟨mv, (World.cell?_of_block (a := ⟨rp, 3, none⟩) hb).trans m1, m2.at fun g hg => Below.heap_setCell _ _ _ _ (fun e1 => by have := (m2.block hg).1; simp only at e1; omega)⟩, fun y i hy => (frozen_setCell _ _ _ _).trans (H.warm y i hy), fun t ht => ⟨hs t ht, he t ht⟩, H.rows.at (fun _ h => h) (fun y hy => Below.heap_setCell _ _ _ _ (by simp only; omega)), H.below.setCell hxN u⟩
theorem RefSt.drew {N M rp sb eb : Nat} {ao : Option Addr} {qc n : Nat} {ps : List (List Int)} {s : Nat → Nat} {e : Nat → Bool} {ms : List Mk} {w0 w : World} (H : RefSt N M rp sb eb ao qc n ps s e ms w0 w) (k : Nat) : RefSt N M rp sb eb ao qc n ps s e ms w0 (w.drewN k) :=
  ⟨H.num, H.plans, H.steps, H.ended, H.marks, H.warm, H.cells, H.rows, (by exact Go.Proofs.Ytaiinkeendejdaa.Below.drewK H.below k)⟩
theorem RefSt.drew1 {N M rp sb eb : Nat} {ao : Option Addr} {qc n : Nat} {ps : List (List Int)} {s : Nat → Nat} {e : Nat → Bool} {ms : List Mk} {w0 w : World} (H : RefSt N M rp sb eb ao qc n ps s e ms w0 w) : RefSt N M rp sb eb ao qc n ps s e ms w0 w.drew :=
  ⟨H.num, H.plans, H.steps, H.ended, H.marks, H.warm, H.cells, H.rows, H.below.drew⟩
theorem RefSt.marked {N M rp sb eb : Nat} {ao : Option Addr} {qc n : Nat} {ps : List (List Int)} {s : Nat → Nat} {e : Nat → Bool} {ms ms' : List Mk} {w0 w w' : World} {mv : Value} (H : RefSt N M rp sb eb ao qc n ps s e ms w0 w) (hm : OwnM w M mv ms) (K : Marked3 w w' rp M mv ms') : RefSt N M rp sb eb ao qc n ps s e ms' w0 w' := by
  obtain ⟨n1, n2, n3, n4, n5, n6, n7, n8, n9, n10⟩ := H.num
  have nb : ∀ x, x < M → some x ≠ mv.ownBlock := fun x hx e => by have := (hm.block e.symm).1; omega
  have same : ∀ x, x < M → x ≠ rp → w'.heap[x]? = w.heap[x]? := fun x h1 h2 => K.same x (by omega) h2 (nb x h1)
  exact ⟨⟨n1, n2, n3, n4, n5, n6, n7, n8, n9, Nat.le_trans n10 K.size⟩, (K.list 0 (by decide)).trans H.plans, (K.list 1 (by decide)).trans H.steps, (K.list 2 (by decide)).trans H.ended, K.row,
    fun x i hx => by
      by_cases e1 : x = rp
      · subst e1; exact (K.warm i).trans (H.warm x i (.inl rfl))
      · exact (World.frozen?_of_block (a := ⟨x, i, none⟩) (same x (by rcases hx with rfl | rfl | rfl <;> assumption) e1)).trans (H.warm x i hx),
    fun t ht => ⟨(World.cell?_of_block (a := ⟨sb, t, none⟩) (same sb n5 (Ne.symm n7))).trans (H.cells t ht).1, (World.cell?_of_block (a := ⟨eb, t, none⟩) (same eb n6 (Ne.symm n8))).trans (H.cells t ht).2⟩,
    H.rows.at (fun _ h => h) (fun y hy => same y (by omega) (by omega)), H.below.trans ⟨K.sys.1, K.sys.2.1, K.sys.2.2, K.size, fun y hy => same y (by omega) (by omega)⟩⟩
set_option maxHeartbeats 4000000 in
theorem refPick_any {N M rp sb eb : Nat} {ao : Option Addr} {qc n : Nat} {ps : List (List Int)} {s : Nat → Nat} {e : Nat → Bool} {ms : List Mk} {w0 w : World} {k : Nat} (H : RefSt N M rp sb eb ao qc n ps s e ms w0 w) (hn : ps.length = n) (hk : k < n) (h8 : n ≤ 8) (hms : ms.length < 1000000) :
    Calls Try.prog 25 #[.pointer (some ⟨rp, 0, none⟩), .int .i64 ((k : Int) + 1)] w fun x w' => x = .returned (.tuple #[]) ∧ RefSt N M rp sb eb ao qc n ps (rstep (planNext ps) (s, e, ms) k).1 (rstep (planNext ps) (s, e, ms) k).2.1 (rstep (planNext ps) (s, e, ms) k).2.2 w0 w' := by
  have hlast := @refLast_wp
  simp only [lastRP, bodyRP, Try.f25, Option.getD_some] at hlast
  obtain ⟨n1, n2, n3, n4, n5, n6, n7, n8, n9, n10⟩ := H.num
  obtain ⟨l, hl⟩ : ∃ l, ps[k]? = some l := ⟨_, List.getElem?_eq_getElem (by omega)⟩
  have hgl : ps.getD k [] = l := by rw [List.getD_eq_getElem?_getD, hl]; rfl
  obtain ⟨p, o, la, lc, rfl, hpK, hpc, hlm, hrow⟩ := H.rows k l hl
  obtain ⟨cs, ce⟩ := H.cells k hk
  have c0 := H.plans
  have c1 := H.steps
  have c2 := H.ended
  have etn : ((k : Int) + 1 - 1).toNat = k := by omega
  have hw1 : IntKind.i64.wrap ((k : Int) + 1 - 1) = (k : Int) := by rw [IntKind.wrap_i64]; omega
  have hlo : (0 : Int) ≤ (k : Int) := by omega
  have hhi : (k : Int) < (n : Int) := by omega
  obtain ⟨L, hL⟩ : ∃ L, L = l.length := ⟨_, rfl⟩
  rw [← hL] at hpc hlm
  unfold maxLen at hlm
  cases he : e k with
  | true =>
    rw [he] at ce
    have hR : rstep (planNext ps) (s, e, ms) k = (s, e, ms ++ [((ms.length : Int) + 1, (k : Int) + 1, 4)]) := by unfold rstep; rw [if_pos he]
    rw [hR]
    have H2 := H.put (x := eb) (k := k) (s' := s) (e' := e) (.inr rfl) (.bool true) (fun t ht => (World.cell?_setCell_other _ _ _ _ (fun h => n9 (congrArg Addr.block h).symm)).trans (H.cells t ht).1) (fun t ht => by
      by_cases h : t = k
      · subst h; rw [he]; exact World.cell?_setCell_same _ _ _ ce
      · rw [World.cell?_setCell_other _ _ _ _ (fun h' => h (congrArg Addr.off h').symm)]; exact (H.cells t ht).2)
    have hf := H.warm eb k (.inr (.inr rfl))
    have hf3 := H2.warm rp 3 (.inl rfl)
    obtain ⟨mv, m1, m2⟩ := H2.marks
    have HH := Lib.hid H2
    have M1 := Lib.hid m1
    have M2 := Lib.hid m2
    have F3 := Lib.hid hf3
    clear H2 H cs hrow m1 m2 hf3
    go_enter Try.func25, Try.ntmps25
    go_upto_region 2 with (fail)
    go_quiet (fail)
    go_upto_region 7 with (fail)
    refine Code.wp_mono ?_ (hlast (v := (w.drewN nq).setCell ⟨eb, k, none⟩ (.bool true)) (ms := ms) (B := M) M1.out F3.out M2.out (by simpa using n10) n4 hms)
    rintro x a' w'' ⟨rfl, hd, hM⟩
    exact bodyPost_end (results_none rfl _ _ _) hd ⟨rfl, (HH.out.drew nq).marked M2.out hM⟩
  | false =>
    rw [he] at ce
    have hne : ¬ (e k = true) := by rw [he]; decide
    cases hx : l[s k]? with
    | none =>
      have hge : L ≤ s k := by rw [hL]; exact List.getElem?_eq_none_iff.1 hx
      have hnext : planNext ps s ((k : Int) + 1) = (4, s) := by unfold planNext; rw [etn, hgl, hx]
      have hR : rstep (planNext ps) (s, e, ms) k = (s, upd e k true, ms ++ [((ms.length : Int) + 1, (k : Int) + 1, 4)]) := by unfold rstep; rw [if_neg hne, hnext]; rfl
      rw [hR]
      have H2 := H.put (x := eb) (k := k) (s' := s) (e' := upd e k true) (.inr rfl) (.bool true) (fun t ht => (World.cell?_setCell_other _ _ _ _ (fun h => n9 (congrArg Addr.block h).symm)).trans (H.cells t ht).1) (fun t ht => by
        by_cases h : t = k
        · subst h; rw [upd_same]; exact World.cell?_setCell_same _ _ _ ce
        · rw [upd_ne _ _ h, World.cell?_setCell_other _ _ _ _ (fun h' => h (congrArg Addr.off h').symm)]; exact (H.cells t ht).2)
      have hf := H.warm eb k (.inr (.inr rfl))
      have hf3 := H2.warm rp 3 (.inl rfl)
      have hlt : decide (((s k : Nat) : Int) < (L : Int)) = false := by rw [decide_eq_false_iff_not]; omega
      obtain ⟨mv, m1, m2⟩ := H2.marks
      have HH := Lib.hid H2
      have M1 := Lib.hid m1
      have M2 := Lib.hid m2
      have F3 := Lib.hid hf3
      clear H2 H hrow m1 m2 hf3 hnext hx hR
      go_enter Try.func25, Try.ntmps25
      go_upto_region 2 with (fail)
      go_quiet (fail)
      go_upto_region 7 with (fail)
      refine Code.wp_mono ?_ (hlast (v := (w.drewN nq).setCell ⟨eb, k, none⟩ (.bool true)) (ms := ms) (B := M) M1.out F3.out M2.out (by simpa using n10) n4 hms)
      rintro x a' w'' ⟨rfl, hd, hM⟩
      exact bodyPost_end (results_none rfl _ _ _) hd ⟨rfl, (HH.out.drew nq).marked M2.out hM⟩
    | some x =>
      have hlt0 : s k < L := by rw [hL]; exact (List.getElem?_eq_some_iff.1 hx).1
      obtain ⟨q, u, rfl, hqK, hqc⟩ := hrow (s k) x hx
      have hnext : planNext ps s ((k : Int) + 1) = (x, upd s k (s k + 1)) := by unfold planNext; rw [etn, hgl, hx]
      have hR : rstep (planNext ps) (s, e, ms) k = (upd s k (s k + 1), upd e k (x == 4), ms ++ [((ms.length : Int) + 1, (k : Int) + 1, x)]) := by unfold rstep; rw [if_neg hne, hnext]
      rw [hR]
      obtain ⟨z, hz⟩ : ∃ z, z = s k := ⟨_, rfl⟩
      have hlt : decide (((z : Nat) : Int) < (L : Int)) = true := by rw [decide_eq_true_eq]; omega
      have hzlo : (0 : Int) ≤ (z : Int) := by omega
      have hzhi : (z : Int) < (L : Int) := by omega
      have hw3 : IntKind.i64.wrap ((z : Int) + 1) = (z : Int) + 1 := by rw [IntKind.wrap_i64]; omega
      rw [← hz] at cs hqc
      have HH0 := Lib.hid H
      have HZ := Lib.hid hz
      have HE := Lib.hid he
      have HL := Lib.hid hL
      clear hL
      clear H hrow hnext hx hR hz he
      go_enter Try.func25, Try.ntmps25
      go_upto_region 2 with (fail)
      go_quiet (fail)
      rename Nat => nq0
      go_upto_region 3 with (fail)
      go_quiet (fail)
      go_upto_region 4 with (fail)
      have HW := (HH0.out.drew nq0).drew nq
      obtain ⟨W1, hW1⟩ : ∃ W1, W1 = (w.drewN nq0).drewN nq := ⟨_, rfl⟩
      rw [← hW1] at HW ⊢
      clear hW1
      have cs1 := (HW.cells k hk).1
      rw [← HZ.out] at cs1
      have k1 := HW.steps
      have hfs := HW.warm sb k (.inr (.inl rfl))
      have HH1 := Lib.hid HW
      clear HW
      go_region
      have H1 := (HH1.out.put (x := sb) (k := k) (s' := upd s k (s k + 1)) (e' := upd e k false) (.inl rfl) (.int .i64 ((z : Int) + 1)) (fun t ht => by
        by_cases h : t = k
        · subst h; rw [upd_same, ← HZ.out]; exact World.cell?_setCell_same _ _ _ cs1
        · rw [upd_ne _ _ h, World.cell?_setCell_other _ _ _ _ (fun h' => h (congrArg Addr.off h').symm)]; exact (HH1.out.cells t ht).1) (fun t ht => by
        rw [World.cell?_setCell_other _ _ _ _ (fun h => n9 (congrArg Addr.block h)), (HH1.out.cells t ht).2]
        by_cases h : t = k
        · subst h; rw [upd_same, HE.out]
        · rw [upd_ne _ _ h])).drew1
      obtain ⟨W2, hW2⟩ : ∃ W2, W2 = (W1.setCell ⟨sb, k, none⟩ (.int .i64 ((z : Int) + 1))).drew := ⟨_, rfl⟩
      rw [← hW2] at H1 ⊢
      clear hW2
      by_cases hx4 : x = 4
      · subst hx4
        have ce1 := (H1.cells k hk).2
        have ce2 := H1.ended
        have hfe := H1.warm eb k (.inr (.inr rfl))
        have H2 := H1.put (x := eb) (k := k) (s' := upd s k (s k + 1)) (e' := upd e k ((4 : Int) == 4)) (.inr rfl) (.bool true) (fun t ht => (World.cell?_setCell_other _ _ _ _ (fun h => n9 (congrArg Addr.block h).symm)).trans (H1.cells t ht).1) (fun t ht => by
          by_cases h : t = k
          · subst h; rw [upd_same]; exact World.cell?_setCell_same _ _ _ (H1.cells t ht).2
          · rw [upd_ne _ _ h, World.cell?_setCell_other _ _ _ _ (fun h' => h (congrArg Addr.off h').symm), (H1.cells t ht).2, upd_ne _ _ h])
        have hf3 := H2.warm rp 3 (.inl rfl)
        have nM := H2.num.2.2.2.2.2.2.2.2.2
        obtain ⟨mv, m1, m2⟩ := H2.marks
        have HH := Lib.hid H2
        have M1 := Lib.hid m1
        have M2 := Lib.hid m2
        have F3 := Lib.hid hf3
        have NM := Lib.hid nM
        clear H2 H1 m1 m2 hf3 nM
        go_upto_region 7 with (fail)
        refine Code.wp_mono ?_ (hlast (v := W2.setCell ⟨eb, k, none⟩ (.bool true)) (ms := ms) (B := M) M1.out F3.out M2.out NM.out n4 hms)
        rintro x a' w'' ⟨rfl, hd, hM⟩
        exact bodyPost_end (results_none rfl _ _ _) hd ⟨rfl, HH.out.marked M2.out hM⟩
      · have hb4 : (x == 4) = false := by simpa using hx4
        have hf3 := H1.warm rp 3 (.inl rfl)
        have nM := H1.num.2.2.2.2.2.2.2.2.2
        obtain ⟨mv, m1, m2⟩ := H1.marks
        have HH := Lib.hid H1
        have M1 := Lib.hid m1
        have M2 := Lib.hid m2
        have F3 := Lib.hid hf3
        have NM := Lib.hid nM
        clear H1 m1 m2 hf3 nM
        go_upto_region 7 with (fail)
        refine Code.wp_mono ?_ (hlast (v := W2) (ms := ms) (B := M) M1.out F3.out M2.out NM.out n4 hms)
        rintro x a' w'' ⟨rfl, hd, hM⟩
        exact bodyPost_end (results_none rfl _ _ _) hd ⟨rfl, by rw [hb4]; exact HH.out.marked M2.out hM⟩
end Go.Proofs.Ytaiinkeendejdaa
