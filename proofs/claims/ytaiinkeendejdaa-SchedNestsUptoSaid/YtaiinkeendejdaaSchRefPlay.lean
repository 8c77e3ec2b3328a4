/-
  quash/quashref04: the document's player: next; Play, every call. No condition.
  And: quash/quashref04: the document's player: pick, every call. No condition.
  And: quash/quashref04: the document's player: pick, next. No condition.
-/
import Derived.Test.YtaiinkeendejdaaSchPlay
import Derived.Test.YtaiinkeendejdaaSchLast
import Derived.BigQuiet
import Derived.StillTailTactics
import Derived.Test.YtaiinkeendejdaaSchSame
import Derived.Deep.Cut
import Derived.Deep.QuietTactic
import Derived.Test.YtaiinkeendejdaaSchTurns
namespace Go.Proofs.Ytaiinkeendejdaa
open Go.RowKit
open Go.ConcN (upd upd_ne upd_same)
set_option maxRecDepth 100000
noncomputable def bodyRP : Code := (Try.f25).body.getD .skip
noncomputable def lastRP : Code := match bodyRP with | .seq _ (.seq _ (.seq _ (.seq _ c))) => c | _ => .skip
/-- what pick's last statement leaves -/
structure Marked3 (v w' : World) (rb B : Nat) (mv : Value) (ms' : List Mk) : Prop where
  row : ∃ mv', w'.cell? ⟨rb, 3, none⟩ = some mv' ∧ OwnM w' B mv' ms'
  list : ∀ i, i ≠ 3 → w'.cell? ⟨rb, i, none⟩ = v.cell? ⟨rb, i, none⟩
  warm : ∀ i, w'.frozen? ⟨rb, i, none⟩ = v.frozen? ⟨rb, i, none⟩
  size : v.heap.size ≤ w'.heap.size
  same : ∀ x, x < v.heap.size → x ≠ rb → some x ≠ mv.ownBlock → w'.heap[x]? = v.heap[x]?
  sys : w'.os = v.os ∧ w'.tape = v.tape ∧ w'.output = v.output
theorem marks_end3 {v w' W0 : World} {rb B : Nat} {mv nv u : Value} {ms' : List Mk} (hgrow : W0.grownBy w' mv.ownBlock) (hsz : v.heap.size ≤ W0.heap.size) (h0 : ∀ x, x < v.heap.size → W0.heap[x]? = v.heap[x]?) (hs0 : W0.os = v.os ∧ W0.tape = v.tape ∧ W0.output = v.output) (hown : OwnM w' B nv ms') (hrbB : rb < B) (hB : B ≤ v.heap.size) (hne : some rb ≠ mv.ownBlock) (hc : w'.cell? ⟨rb, 3, none⟩ = some u) :
    Marked3 v (w'.setCell ⟨rb, 3, none⟩ nv) rb B mv ms' := by
  have hb : w'.heap[rb]? = v.heap[rb]? := (hgrow.block rb (Nat.lt_of_lt_of_le (Nat.lt_of_lt_of_le hrbB hB) hsz) hne).trans (h0 rb (Nat.lt_of_lt_of_le hrbB hB))
  exact ⟨⟨nv, World.cell?_setCell_same _ _ _ hc, hown.at (fun g hg => Below.heap_setCell _ _ _ _ (fun e => by have := (hown.block hg).1; simp only at e; omega))⟩,
    fun i hi => (World.cell?_setCell_other _ _ _ _ (fun h => hi (congrArg Addr.off h).symm)).trans (World.cell?_of_block (a := ⟨rb, i, none⟩) hb), fun i => (frozen_setCell _ _ _ _).trans (World.frozen?_of_block (a := ⟨rb, i, none⟩) hb),
    by simp only [World.size_setCell]; exact Nat.le_trans hsz hgrow.size, fun x h1 h2 h3 => (Below.heap_setCell _ _ _ _ h2).trans ((hgrow.block x (Nat.lt_of_lt_of_le h1 hsz) h3).trans (h0 x h1)), hgrow.os.trans hs0.1, hgrow.tape.trans hs0.2.1, hgrow.output.trans hs0.2.2⟩
set_option maxHeartbeats 2000000 in
theorem refLast_wp {rp k B : Nat} {a : Int} {x2 x3 x4 x6 x7 x8 x9 x10 x11 x12 x13 x14 x15 x16 x17 x18 x19 x20 x21 x22 x23 x24 x25 x26 x27 x28 x29 x30 x31 x32 x33 x34 x35 x36 x37 x38 x39 x40 x41 x42 x43 x44 x45 x46 x47 x48 x49 x50 x51 x52 x53 x54 x55 x56 x57 x58 x59 x60 x61 x62 x63 x64 x65 x66 x67 x68 x69 x70 x71 x72 x73 x74 x75 x76 x77 x78 x79 x80 x81 x82 x83 x84 x85 x86 x87 x88 x89 : Value} {v : World} {mv : Value} {ms : List Mk} (hm : v.cell? ⟨rp, 3, none⟩ = some mv) (hfz : v.frozen? ⟨rp, 3, none⟩ = false) (hown : OwnM v B mv ms) (hB : B ≤ v.heap.size) (hrbB : rp < B) (hlen : ms.length < 1000000) :
    lastRP.wp Try.prog (fun e a' w' => e = .normal ∧ a'.defers = [] ∧ Marked3 v w' rp B mv (ms ++ [((ms.length : Int) + 1, (k : Int) + 1, a)])) ⟨#[.pointer (some ⟨rp, 0, none⟩), .int .i64 ((k : Int) + 1), x2, x3, x4, .int .i64 a, x6, x7, x8, x9, x10, x11, x12, x13, x14, x15, x16, x17, x18, x19, x20, x21, x22, x23, x24, x25, x26, x27, x28, x29, x30, x31, x32, x33, x34, x35, x36, x37, x38, x39, x40, x41, x42, x43, x44, x45, x46, x47, x48, x49, x50, x51, x52, x53, x54, x55, x56, x57, x58, x59, x60, x61, x62, x63, x64, x65, x66, x67, x68, x69, x70, x71, x72, x73, x74, x75, x76, x77, x78, x79, x80, x81, x82, x83, x84, x85, x86, x87, x88, x89], []⟩ v := by
  simp only [lastRP, bodyRP, Try.f25, Option.getD_some]
  have hrb : rp < v.heap.size := Nat.lt_of_lt_of_le hrbB hB
  have hw2 : IntKind.i64.wrap ((ms.length : Int) + 1) = (ms.length : Int) + 1 := by rw [IntKind.wrap_i64]; omega
  obtain ⟨ao, c, rfl, hsees, hn⟩ := hown.slice
  have hne : some rp ≠ (Value.slice ao ms.length c).ownBlock := fun e => by have := (hown.block e.symm).1; omega
  go_region_law (refine step_appendM (B := B) (v := .slice ao ms.length c) (xs := ms) (zs := [((ms.length : Int) + 1, (k : Int) + 1, a)]) (hown.at (fun g hg => Below.heap_alloc _ _ _ (hown.block hg).2)) (by simp <;> omega) rfl (.tmp 76) (.tmp 86) rfl (by simp [Act.eval]) ⟨v.heap.size, 0, none⟩ 1 (by simp [Act.eval]) (seesM_one (heap_alloc_new _ _)) (by simp <;> omega) ?_; intro v' w' hown' hgrow hat; obtain ⟨g', c', rfl⟩ : ∃ g' c', v' = .slice (some ⟨g', 0, none⟩) (ms.length + 1) c' := (by rcases hown'.form with ⟨_, e⟩ | ⟨g', c', e⟩; (exfalso; simp at e); (exact ⟨g', c', by simpa using e⟩)); have hblk : w'.heap[rp]? = v.heap[rp]? := ((hgrow.block rp (by simp <;> omega) (fun e => (by have := (hown.block e.symm).1; omega))).trans (Below.heap_alloc _ _ _ hrb)); have hcell' : w'.cell? ⟨rp, 3, none⟩ = some (.slice ao ms.length c) := ((World.cell?_of_block (a := ⟨rp, 3, none⟩) hblk).trans hm); have hfz' : w'.frozen? ⟨rp, 3, none⟩ = false := ((World.frozen?_of_block (a := ⟨rp, 3, none⟩) hblk).trans hfz))
  all_goals exact ⟨rfl, rfl, marks_end3 hgrow (by simp) (by intro x hx; exact Below.heap_alloc _ _ _ hx) ⟨rfl, rfl, rfl⟩ hown' hrbB hB hne hcell'⟩
end Go.Proofs.Ytaiinkeendejdaa
namespace Go.Proofs.Ytaiinkeendejdaa
open Go.RowKit
open Go.ConcN (upd upd_ne upd_same)
set_option maxRecDepth 100000
/-- the document's player in memory -/
structure RefSt (N M rp sb eb : Nat) (ao : Option Addr) (qc n : Nat) (ps : List (List Int)) (s : Nat → Nat) (e : Nat → Bool) (ms : List Mk) (w0 w : World) : Prop where
  num : N ≤ rp ∧ N ≤ sb ∧ N ≤ eb ∧ rp < M ∧ sb < M ∧ eb < M ∧ rp ≠ sb ∧ rp ≠ eb ∧ sb ≠ eb ∧ M ≤ w.heap.size
  plans : w.cell? ⟨rp, 0, none⟩ = some (.slice ao n qc)
  steps : w.cell? ⟨rp, 1, none⟩ = some (.slice (some ⟨sb, 0, none⟩) n n)
  ended : w.cell? ⟨rp, 2, none⟩ = some (.slice (some ⟨eb, 0, none⟩) n n)
  marks : ∃ mv, w.cell? ⟨rp, 3, none⟩ = some mv ∧ OwnM w M mv ms
  warm : ∀ x i, x = rp ∨ x = sb ∨ x = eb → w.frozen? ⟨x, i, none⟩ = false
  cells : ∀ t, t < n → w.cell? ⟨sb, t, none⟩ = some (.int .i64 (s t : Nat)) ∧ w.cell? ⟨eb, t, none⟩ = some (.bool (e t))
  rows : Plans (fun x => x < N) w ao ps
  below : Below N w0 w
/-- a cell of the player's own is stored -/
theorem RefSt.put {N M rp sb eb : Nat} {ao : Option Addr} {qc n : Nat} {ps : List (List Int)} {s s' : Nat → Nat} {e e' : Nat → Bool} {ms : List Mk} {w0 w : World} (H : RefSt N M rp sb eb ao qc n ps s e ms w0 w) {x k : Nat} (hx : x = sb ∨ x = eb) (u : Value)
    (hs : ∀ t, t < n → (w.setCell ⟨x, k, none⟩ u).cell? ⟨sb, t, none⟩ = some (.int .i64 (s' t : Nat))) (he : ∀ t, t < n → (w.setCell ⟨x, k, none⟩ u).cell? ⟨eb, t, none⟩ = some (.bool (e' t))) : RefSt N M rp sb eb ao qc n ps s' e' ms w0 (w.setCell ⟨x, k, none⟩ u) := by
  obtain ⟨n1, n2, n3, n4, n5, n6, n7, n8, n9, n10⟩ := H.num
  have hxr : rp ≠ x := by rcases hx with rfl | rfl <;> assumption
  have hxN : N ≤ x := by rcases hx with rfl | rfl <;> assumption
  have hxM : x < M := by rcases hx with rfl | rfl <;> assumption
  have hb : (w.setCell ⟨x, k, none⟩ u).heap[rp]? = w.heap[rp]? := Below.heap_setCell _ _ _ _ hxr
  obtain ⟨mv, m1, m2⟩ := H.marks
  exact ⟨⟨n1, n2, n3, n4, n5, n6, n7, n8, n9, by simpa using n10⟩, (World.cell?_of_block (a := ⟨rp, 0, none⟩) hb).trans H.plans, (World.cell?_of_block (a := ⟨rp, 1, none⟩) hb).trans H.steps, (World.cell?_of_block (a := ⟨rp, 2, none⟩) hb).trans H.ended,
    ⟨mv, (World.cell?_of_block (a := ⟨rp, 3, none⟩) hb).trans m1, m2.at fun g hg => Below.heap_setCell _ _ _ _ (fun e1 => by have := (m2.block hg).1; simp only at e1; omega)⟩, fun y i hy => (frozen_setCell _ _ _ _).trans (H.warm y i hy), fun t ht => ⟨hs t ht, he t ht⟩, H.rows.at (fun _ h => h) (fun y hy => Below.heap_setCell _ _ _ _ (by simp only; omega)), H.below.setCell hxN u⟩
theorem RefSt.drew {N M rp sb eb : Nat} {ao : Option Addr} {qc n : Nat} {ps : List (List Int)} {s : Nat → Nat} {e : Nat → Bool} {ms : List Mk} {w0 w : World} (H : RefSt N M rp sb eb ao qc n ps s e ms w0 w) (k : Nat) : RefSt N M rp sb eb ao qc n ps s e ms w0 (w.drewN k) :=
  ⟨H.num, H.plans, H.steps, H.ended, H.marks, H.warm, H.cells, H.rows, (by exact Go.Proofs.Ytaiinkeendejdaa.Below.drewK H.below k)⟩
theorem RefSt.drew1 {N M rp sb eb : Nat} {ao : Option Addr} {qc n : Nat} {ps : List (List Int)} {s : Nat → Nat} {e : Nat → Bool} {ms : List Mk} {w0 w : World} (H : RefSt N M rp sb eb ao qc n ps s e ms w0 w) : RefSt N M rp sb eb ao qc n ps s e ms w0 w.drew :=
  ⟨H.num, H.plans, H.steps, H.ended, H.marks, H.warm, H.cells, H.rows, H.below.drew⟩
theorem RefSt.marked {N M rp sb eb : Nat} {ao : Option Addr} {qc n : Nat} {ps : List (List Int)} {s : Nat → Nat} {e : Nat → Bool} {ms ms' : List Mk} {w0 w w' : World} {mv : Value} (H : RefSt N M rp sb eb ao qc n ps s e ms w0 w) (hm : OwnM w M mv ms) (K : Marked3 w w' rp M mv ms') : RefSt N M rp sb eb ao qc n ps s e ms' w0 w' := by
  obtain ⟨n1, n2, n3, n4, n5, n6, n7, n8, n9, n10⟩ := H.num
  have nb : ∀ x, x < M → some x ≠ mv.ownBlock := fun x hx e => by have := (hm.block e.symm).1; omega
  have same : ∀ x, x < M → x ≠ rp → w'.heap[x]? = w.heap[x]? := fun x h1 h2 => K.same x (by omega) h2 (nb x h1)
  exact ⟨⟨n1, n2, n3, n4, n5, n6, n7, n8, n9, Nat.le_trans n10 K.size⟩, (K.list 0 (by decide)).trans H.plans, (K.list 1 (by decide)).trans H.steps, (K.list 2 (by decide)).trans H.ended, K.row,
    fun x i hx => by
      by_cases e1 : x = rp
      · subst e1; exact (K.warm i).trans (H.warm x i (.inl rfl))
      · exact (World.frozen?_of_block (a := ⟨x, i, none⟩) (same x (by rcases hx with rfl | rfl | rfl <;> assumption) e1)).trans (H.warm x i hx),
    fun t ht => ⟨(World.cell?_of_block (a := ⟨sb, t, none⟩) (same sb n5 (Ne.symm n7))).trans (H.cells t ht).1, (World.cell?_of_block (a := ⟨eb, t, none⟩) (same eb n6 (Ne.symm n8))).trans (H.cells t ht).2⟩,
    H.rows.at (fun _ h => h) (fun y hy => same y (by omega) (by omega)), H.below.trans ⟨K.sys.1, K.sys.2.1, K.sys.2.2, K.size, fun y hy => same y (by omega) (by omega)⟩⟩
set_option maxHeartbeats 4000000 in
theorem refPick_any {N M rp sb eb : Nat} {ao : Option Addr} {qc n : Nat} {ps : List (List Int)} {s : Nat → Nat} {e : Nat → Bool} {ms : List Mk} {w0 w : World} {k : Nat} (H : RefSt N M rp sb eb ao qc n ps s e ms w0 w) (hn : ps.length = n) (hk : k < n) (h8 : n ≤ 8) (hms : ms.length < 1000000) :
    Calls Try.prog 25 #[.pointer (some ⟨rp, 0, none⟩), .int .i64 ((k : Int) + 1)] w fun x w' => x = .returned (.tuple #[]) ∧ RefSt N M rp sb eb ao qc n ps (rstep (planNext ps) (s, e, ms) k).1 (rstep (planNext ps) (s, e, ms) k).2.1 (rstep (planNext ps) (s, e, ms) k).2.2 w0 w' := by
  have hlast := @refLast_wp
  simp only [lastRP, bodyRP, Try.f25, Option.getD_some] at hlast
  obtain ⟨n1, n2, n3, n4, n5, n6, n7, n8, n9, n10⟩ := H.num
  obtain ⟨l, hl⟩ : ∃ l, ps[k]? = some l := ⟨_, List.getElem?_eq_getElem (by omega)⟩
  have hgl : ps.getD k [] = l := by rw [List.getD_eq_getElem?_getD, hl]; rfl
  obtain ⟨p, o, la, lc, rfl, hpK, hpc, hlm, hrow⟩ := H.rows k l hl
  obtain ⟨cs, ce⟩ := H.cells k hk
  have c0 := H.plans
  have c1 := H.steps
  have c2 := H.ended
  have etn : ((k : Int) + 1 - 1).toNat = k := by omega
  have hw1 : IntKind.i64.wrap ((k : Int) + 1 - 1) = (k : Int) := by rw [IntKind.wrap_i64]; omega
  have hlo : (0 : Int) ≤ (k : Int) := by omega
  have hhi : (k : Int) < (n : Int) := by omega
  obtain ⟨L, hL⟩ : ∃ L, L = l.length := ⟨_, rfl⟩
  rw [← hL] at hpc hlm
  unfold maxLen at hlm
  cases he : e k with
  | true =>
    rw [he] at ce
    have hR : rstep (planNext ps) (s, e, ms) k = (s, e, ms ++ [((ms.length : Int) + 1, (k : Int) + 1, 4)]) := by unfold rstep; rw [if_pos he]
    rw [hR]
    have H2 := H.put (x := eb) (k := k) (s' := s) (e' := e) (.inr rfl) (.bool true) (fun t ht => (World.cell?_setCell_other _ _ _ _ (fun h => n9 (congrArg Addr.block h).symm)).trans (H.cells t ht).1) (fun t ht => by
      by_cases h : t = k
      · subst h; rw [he]; exact World.cell?_setCell_same _ _ _ ce
      · rw [World.cell?_setCell_other _ _ _ _ (fun h' => h (congrArg Addr.off h').symm)]; exact (H.cells t ht).2)
    have hf := H.warm eb k (.inr (.inr rfl))
    have hf3 := H2.warm rp 3 (.inl rfl)
    obtain ⟨mv, m1, m2⟩ := H2.marks
    have HH := Lib.hid H2
    have M1 := Lib.hid m1
    have M2 := Lib.hid m2
    have F3 := Lib.hid hf3
    clear H2 H cs hrow m1 m2 hf3
    go_enter Try.func25, Try.ntmps25
    go_upto_region 2 with (fail)
    go_quiet (fail)
    go_upto_region 7 with (fail)
    refine Code.wp_mono ?_ (hlast (v := (w.drewN nq).setCell ⟨eb, k, none⟩ (.bool true)) (ms := ms) (B := M) M1.out F3.out M2.out (by simpa using n10) n4 hms)
    rintro x a' w'' ⟨rfl, hd, hM⟩
    exact bodyPost_end (results_none rfl _ _ _) hd ⟨rfl, (HH.out.drew nq).marked M2.out hM⟩
  | false =>
    rw [he] at ce
    have hne : ¬ (e k = true) := by rw [he]; decide
    cases hx : l[s k]? with
    | none =>
      have hge : L ≤ s k := by rw [hL]; exact List.getElem?_eq_none_iff.1 hx
      have hnext : planNext ps s ((k : Int) + 1) = (4, s) := by unfold planNext; rw [etn, hgl, hx]
      have hR : rstep (planNext ps) (s, e, ms) k = (s, upd e k true, ms ++ [((ms.length : Int) + 1, (k : Int) + 1, 4)]) := by unfold rstep; rw [if_neg hne, hnext]; rfl
      rw [hR]
      have H2 := H.put (x := eb) (k := k) (s' := s) (e' := upd e k true) (.inr rfl) (.bool true) (fun t ht => (World.cell?_setCell_other _ _ _ _ (fun h => n9 (congrArg Addr.block h).symm)).trans (H.cells t ht).1) (fun t ht => by
        by_cases h : t = k
        · subst h; rw [upd_same]; exact World.cell?_setCell_same _ _ _ ce
        · rw [upd_ne _ _ h, World.cell?_setCell_other _ _ _ _ (fun h' => h (congrArg Addr.off h').symm)]; exact (H.cells t ht).2)
      have hf := H.warm eb k (.inr (.inr rfl))
      have hf3 := H2.warm rp 3 (.inl rfl)
      have hlt : decide (((s k : Nat) : Int) < (L : Int)) = false := by rw [decide_eq_false_iff_not]; omega
      obtain ⟨mv, m1, m2⟩ := H2.marks
      have HH := Lib.hid H2
      have M1 := Lib.hid m1
      have M2 := Lib.hid m2
      have F3 := Lib.hid hf3
      clear H2 H hrow m1 m2 hf3 hnext hx hR
      go_enter Try.func25, Try.ntmps25
      go_upto_region 2 with (fail)
      go_quiet (fail)
      go_upto_region 7 with (fail)
      refine Code.wp_mono ?_ (hlast (v := (w.drewN nq).setCell ⟨eb, k, none⟩ (.bool true)) (ms := ms) (B := M) M1.out F3.out M2.out (by simpa using n10) n4 hms)
      rintro x a' w'' ⟨rfl, hd, hM⟩
      exact bodyPost_end (results_none rfl _ _ _) hd ⟨rfl, (HH.out.drew nq).marked M2.out hM⟩
    | some x =>
      have hlt0 : s k < L := by rw [hL]; exact (List.getElem?_eq_some_iff.1 hx).1
      obtain ⟨q, u, rfl, hqK, hqc⟩ := hrow (s k) x hx
      have hnext : planNext ps s ((k : Int) + 1) = (x, upd s k (s k + 1)) := by unfold planNext; rw [etn, hgl, hx]
      have hR : rstep (planNext ps) (s, e, ms) k = (upd s k (s k + 1), upd e k (x == 4), ms ++ [((ms.length : Int) + 1, (k : Int) + 1, x)]) := by unfold rstep; rw [if_neg hne, hnext]
      rw [hR]
      obtain ⟨z, hz⟩ : ∃ z, z = s k := ⟨_, rfl⟩
      have hlt : decide (((z : Nat) : Int) < (L : Int)) = true := by rw [decide_eq_true_eq]; omega
      have hzlo : (0 : Int) ≤ (z : Int) := by omega
      have hzhi : (z : Int) < (L : Int) := by omega
      have hw3 : IntKind.i64.wrap ((z : Int) + 1) = (z : Int) + 1 := by rw [IntKind.wrap_i64]; omega
      rw [← hz] at cs hqc
      have HH0 := Lib.hid H
      have HZ := Lib.hid hz
      have HE := Lib.hid he
      have HL := Lib.hid hL
      clear hL
      clear H hrow hnext hx hR hz he
      go_enter Try.func25, Try.ntmps25
      go_upto_region 2 with (fail)
      go_quiet (fail)
      rename Nat => nq0
      go_upto_region 3 with (fail)
      go_quiet (fail)
      go_upto_region 4 with (fail)
      have HW := (HH0.out.drew nq0).drew nq
      obtain ⟨W1, hW1⟩ : ∃ W1, W1 = (w.drewN nq0).drewN nq := ⟨_, rfl⟩
      rw [← hW1] at HW ⊢
      clear hW1
      have cs1 := (HW.cells k hk).1
      rw [← HZ.out] at cs1
      have k1 := HW.steps
      have hfs := HW.warm sb k (.inr (.inl rfl))
      have HH1 := Lib.hid HW
      clear HW
      go_region
      have H1 := (HH1.out.put (x := sb) (k := k) (s' := upd s k (s k + 1)) (e' := upd e k false) (.inl rfl) (.int .i64 ((z : Int) + 1)) (fun t ht => by
        by_cases h : t = k
        · subst h; rw [upd_same, ← HZ.out]; exact World.cell?_setCell_same _ _ _ cs1
        · rw [upd_ne _ _ h, World.cell?_setCell_other _ _ _ _ (fun h' => h (congrArg Addr.off h').symm)]; exact (HH1.out.cells t ht).1) (fun t ht => by
        rw [World.cell?_setCell_other _ _ _ _ (fun h => n9 (congrArg Addr.block h)), (HH1.out.cells t ht).2]
        by_cases h : t = k
        · subst h; rw [upd_same, HE.out]
        · rw [upd_ne _ _ h])).drew1
      obtain ⟨W2, hW2⟩ : ∃ W2, W2 = (W1.setCell ⟨sb, k, none⟩ (.int .i64 ((z : Int) + 1))).drew := ⟨_, rfl⟩
      rw [← hW2] at H1 ⊢
      clear hW2
      by_cases hx4 : x = 4
      · subst hx4
        have ce1 := (H1.cells k hk).2
        have ce2 := H1.ended
        have hfe := H1.warm eb k (.inr (.inr rfl))
        have H2 := H1.put (x := eb) (k := k) (s' := upd s k (s k + 1)) (e' := upd e k ((4 : Int) == 4)) (.inr rfl) (.bool true) (fun t ht => (World.cell?_setCell_other _ _ _ _ (fun h => n9 (congrArg Addr.block h).symm)).trans (H1.cells t ht).1) (fun t ht => by
          by_cases h : t = k
          · subst h; rw [upd_same]; exact World.cell?_setCell_same _ _ _ (H1.cells t ht).2
          · rw [upd_ne _ _ h, World.cell?_setCell_other _ _ _ _ (fun h' => h (congrArg Addr.off h').symm), (H1.cells t ht).2, upd_ne _ _ h])
        have hf3 := H2.warm rp 3 (.inl rfl)
        have nM := H2.num.2.2.2.2.2.2.2.2.2
        obtain ⟨mv, m1, m2⟩ := H2.marks
        have HH := Lib.hid H2
        have M1 := Lib.hid m1
        have M2 := Lib.hid m2
        have F3 := Lib.hid hf3
        have NM := Lib.hid nM
        clear H2 H1 m1 m2 hf3 nM
        go_upto_region 7 with (fail)
        refine Code.wp_mono ?_ (hlast (v := W2.setCell ⟨eb, k, none⟩ (.bool true)) (ms := ms) (B := M) M1.out F3.out M2.out NM.out n4 hms)
        rintro x a' w'' ⟨rfl, hd, hM⟩
        exact bodyPost_end (results_none rfl _ _ _) hd ⟨rfl, HH.out.marked M2.out hM⟩
      · have hb4 : (x == 4) = false := by simpa using hx4
        have hf3 := H1.warm rp 3 (.inl rfl)
        have nM := H1.num.2.2.2.2.2.2.2.2.2
        obtain ⟨mv, m1, m2⟩ := H1.marks
        have HH := Lib.hid H1
        have M1 := Lib.hid m1
        have M2 := Lib.hid m2
        have F3 := Lib.hid hf3
        have NM := Lib.hid nM
        clear H1 m1 m2 hf3 nM
        go_upto_region 7 with (fail)
        refine Code.wp_mono ?_ (hlast (v := W2) (ms := ms) (B := M) M1.out F3.out M2.out NM.out n4 hms)
        rintro x a' w'' ⟨rfl, hd, hM⟩
        exact bodyPost_end (results_none rfl _ _ _) hd ⟨rfl, by rw [hb4]; exact HH.out.marked M2.out hM⟩
end Go.Proofs.Ytaiinkeendejdaa
namespace Go.Proofs.Ytaiinkeendejdaa
open Go.RowKit
open Go.ConcN (upd upd_ne upd_same)
set_option maxRecDepth 100000
def nextN : Option Nat → Int
  | some k => (k : Int) + 1
  | none => 0
set_option maxHeartbeats 1000000 in
theorem refNext_any {N M rp sb eb : Nat} {ao : Option Addr} {qc n f : Nat} {ps : List (List Int)} {s : Nat → Nat} {e : Nat → Bool} {ms : List Mk} {w0 w : World} (H : RefSt N M rp sb eb ao qc n ps s e ms w0 w) (h0 : 0 < n) (h8 : n ≤ 8) (hf : f ≤ n) :
    Calls Try.prog 26 #[.pointer (some ⟨rp, 0, none⟩), .int .i64 (f : Nat)] w fun x w' => x = .returned (.int .i64 (nextN (nextS e n f))) ∧ w = w' := by
  obtain ⟨A, hA⟩ : ∃ A, A = nextS e n f := ⟨_, rfl⟩
  have HA := Lib.hid hA
  have c0 := H.plans
  have c2 := H.ended
  have HC := Lib.hid H.cells
  rw [← hA]
  clear hA H
  go_enter Try.func26, Try.ntmps26
  go_wp2
  go_loopw [6] (fun i wr => ∃ k : Nat, k ≤ n ∧ i = .int .i64 ((k : Int) + 1) ∧ wr = w ∧ ∀ j, j < k → e ((f + j) % n) = true) (fun i _ => n + 1 - (intOf i).toNat)
  case atStart => exact ⟨0, Nat.zero_le _, rfl, rfl, fun j hj => absurd hj (by omega)⟩
  case round =>
    obtain ⟨k, hk, rfl, rfl, hall⟩ := hrel
    have HALL := Lib.hid hall
    clear hall
    by_cases hlt : k < n
    · obtain ⟨q, hq⟩ : ∃ q, q = (f + k) % n := ⟨_, rfl⟩
      have hqn : q < n := by rw [hq]; exact Nat.mod_lt _ h0
      have e1 : ((f : Int) + (k : Int)).tmod (n : Int) = (q : Int) := by
        rw [Int.tmod_eq_emod_of_nonneg (by omega), hq]
        simp
      have ht : decide ((k : Int) + 1 ≤ (n : Int)) = true := by rw [decide_eq_true_eq]; omega
      have w1 : IntKind.i64.wrap ((f : Int) + ((k : Int) + 1)) = (f : Int) + ((k : Int) + 1) := by rw [IntKind.wrap_i64]; omega
      have w2 : IntKind.i64.wrap ((f : Int) + ((k : Int) + 1) - 1) = (f : Int) + (k : Int) := by rw [IntKind.wrap_i64]; omega
      have w3 : IntKind.i64.wrap (q : Int) = (q : Int) := by rw [IntKind.wrap_i64]; omega
      have w4 : IntKind.i64.wrap ((q : Int) + 1) = (q : Int) + 1 := by rw [IntKind.wrap_i64]; omega
      have w5 : IntKind.i64.wrap ((q : Int) + 1 - 1) = (q : Int) := by rw [IntKind.wrap_i64]; omega
      have hz : ((n : Int) == 0) = false := by simp; omega
      have ce := (HC.out q hqn).2
      have hlo : (0 : Int) ≤ (q : Int) := by omega
      have hhi : (q : Int) < (n : Int) := by omega
      have HQ := Lib.hid hq
      clear hq
      cases heq : e q with
      | true =>
        rw [heq] at ce
        go_wp2
        go_roundw
        case rel => exact ⟨k + 1, by omega, by go_num, trivial, fun j hj => by
          by_cases hjk : j = k
          · rw [hjk, ← HQ.out]; exact heq
          · exact HALL.out j (by omega)⟩
        case measure => simp [intOf]; omega
      | false =>
        rw [heq] at ce
        have : A = some q := by
          rw [HA.out, HQ.out]
          exact nextS_some hlt HALL.out (by rw [← HQ.out]; exact heq)
        subst this
        go_wp2
        go_ret
        exact ⟨rfl, rfl⟩
    · obtain rfl : k = n := by omega
      have ht : decide ((k : Int) + 1 ≤ (k : Int)) = false := by rw [decide_eq_false_iff_not]; omega
      have : A = none := by rw [HA.out]; exact nextS_none HALL.out
      subst this
      go_wp2
      go_ret
      exact ⟨rfl, rfl⟩
theorem infoB : (Try.prog.info? 4).map (fun i => (i.zero, i.size, i.bytes)) = some (some (.bool false), 1, 1) := by kernel_rfl
def falses (m : Nat) : Array Value := madeCells #[.bool false] m
theorem falses_at {m t : Nat} (h : t < m) : (falses m)[t]? = some (.bool false) := by
  have h1 : (falses m).toList = List.replicate m (.bool false) := by unfold falses; rw [toList_madeCells_one]
  rw [← Array.getElem?_toList, h1, List.getElem?_replicate, if_pos h]
theorem makeB (m : Nat) (h : m ≤ 100000) (w : World) : (Instr.makeSlice 49 (.int .i64 m) (.int .i64 m)).run Try.prog w = .ok (.slice (some ⟨w.heap.size, 0, none⟩) m m) (w.alloc (.cells (falses m) 4)) := by
  obtain ⟨i0, hi, hz0, hz1, hz2⟩ := info_parts infoB
  have h := run_makeSlice (w := w) (P := Try.prog) 49 4 i0 (.bool false) Try.underlying49 hi hz0 .i64 .i64 m m (by omega) (Int.le_refl _) (by rw [hz1]; simp; omega) (by rw [hz2]; omega) (by omega)
  rw [h, hz1]
  simp [Value.cells, falses]
theorem alloc3 (w : World) (o0 o1 o2 : Obj) : (((w.alloc o0).alloc o1).alloc o2).drew.heap[w.heap.size]? = some o0 ∧ (((w.alloc o0).alloc o1).alloc o2).drew.heap[w.heap.size + 1]? = some o1 ∧ (((w.alloc o0).alloc o1).alloc o2).drew.heap[w.heap.size + 1 + 1]? = some o2 := by
  show (((w.heap.push o0).push o1).push o2)[w.heap.size]? = _ ∧ (((w.heap.push o0).push o1).push o2)[w.heap.size + 1]? = _ ∧ (((w.heap.push o0).push o1).push o2)[w.heap.size + 1 + 1]? = _
  refine ⟨?_, ?_, ?_⟩
  · rw [Array.getElem?_push, Array.size_push, Array.size_push, if_neg (by omega), Array.getElem?_push, Array.size_push, if_neg (by omega), Array.getElem?_push, if_pos rfl]
  · rw [Array.getElem?_push, Array.size_push, Array.size_push, if_neg (by omega), Array.getElem?_push, Array.size_push, if_pos rfl]
  · rw [Array.getElem?_push, Array.size_push, Array.size_push, if_pos rfl]
/-- the player as it begins -/
theorem refSt_start {w W1 : World} {rp sb eb : Nat} {qa : Option Addr} {qc n : Nat} {ps : List (List Int)} {t1 t2 t3 : TypeId} (hps : Plans (fun x => x < w.heap.size) w qa ps) (h1 : W1.heap[sb]? = some (.cells (zerosI n) t1)) (h2 : W1.heap[eb]? = some (.cells (falses n) t2))
    (h3 : W1.heap[rp]? = some (.cells #[.slice qa n qc, .slice (some ⟨sb, 0, none⟩) n n, .slice (some ⟨eb, 0, none⟩) n n, .slice none 0 0] t3)) (hB : Below w.heap.size w W1) (hn : rp = w.heap.size + 2 ∧ w.heap.size ≤ sb ∧ sb < rp ∧ w.heap.size ≤ eb ∧ eb < rp ∧ sb ≠ eb) :
    RefSt w.heap.size (w.heap.size + 3) rp sb eb qa qc n ps (fun _ => 0) (fun _ => false) [] w W1 := by
  have hz : rp < W1.heap.size := (Array.getElem?_eq_some_iff.1 h3).1
  have fr : ∀ {x i : Nat} {c : Array Value} {t : TypeId}, W1.heap[x]? = some (.cells c t) → W1.frozen? ⟨x, i, none⟩ = false := fun {x i c t} h => by simp [World.frozen?, h]
  refine ⟨⟨by omega, by omega, by omega, by omega, by omega, by omega, by omega, by omega, hn.2.2.2.2.2, by omega⟩, ?_, ?_, ?_, ⟨.slice none 0 0, ?_, OwnM.nil _ _⟩, fun x i hx => ?_, fun t ht => ⟨?_, ?_⟩, hps.at (fun _ h => h) (fun x hx => hB.block x hx), hB⟩
  · rw [cell_of_row _ _ _ _ _ _ h3]; rfl
  · rw [cell_of_row _ _ _ _ _ _ h3]; rfl
  · rw [cell_of_row _ _ _ _ _ _ h3]; rfl
  · rw [cell_of_row _ _ _ _ _ _ h3]; rfl
  · rcases hx with rfl | rfl | rfl
    · exact fr h3
    · exact fr h1
    · exact fr h2
  · rw [cell_of_row _ _ _ _ _ _ h1, zerosI_at ht]; rfl
  · rw [cell_of_row _ _ _ _ _ _ h2, falses_at ht]
def picksX {σ : Type} (next : σ → Int → Int × σ) (n : Nat) (l : List Int) (s0 : σ) : σ × (Nat → Bool) × List Mk := l.foldl (fun x p => rstep next x (roundS n p)) (s0, fun _ => false, [])
theorem picksX_take {σ : Type} (next : σ → Int → Int × σ) (n : Nat) (l : List Int) (s0 : σ) (j : Nat) (x : Int) (h : l[j]? = some x) : picksX next n (l.take (j + 1)) s0 = rstep next (picksX next n (l.take j) s0) (roundS n x) := by
  unfold picksX
  rw [List.take_add_one, h, List.foldl_append]
  rfl
theorem picksX_len {σ : Type} (next : σ → Int → Int × σ) (n : Nat) (l : List Int) (s0 : σ) : (picksX next n l s0).2.2.length = l.length := by
  have : ∀ (l : List Int) (x : σ × (Nat → Bool) × List Mk), (l.foldl (fun x p => rstep next x (roundS n p)) x).2.2.length = x.2.2.length + l.length := by
    intro l
    induction l with
    | nil => intro x; rfl
    | cons p l ih => intro x; rw [List.foldl_cons, ih, rstep_len, List.length_cons]; omega
  unfold picksX
  rw [this]
  simp
theorem drainS_none {σ : Type} {next : σ → Int → Int × σ} {n d fr : Nat} {x : σ × (Nat → Bool) × List Mk} (h : nextS x.2.1 n fr = none) : drainS next n d fr x = x := by
  cases d with
  | zero => rfl
  | succ d => unfold drainS; rw [h]
theorem drainS_some {σ : Type} {next : σ → Int → Int × σ} {n d fr k : Nat} {x : σ × (Nat → Bool) × List Mk} (h : nextS x.2.1 n fr = some k) : drainS next n (d + 1) fr x = drainS next n d (k + 1) (rstep next x k) := by
  conv => lhs; unfold drainS
  rw [h]
set_option maxHeartbeats 4000000 in
theorem refPlay_any {qa pa : Option Addr} {qn qc np pc : Nat} {ps : List (List Int)} {l : List Int} {D : Int} {w : World} (hps : Plans (fun x => x < w.heap.size) w qa ps) (hqn : ps.length = qn) (hl : l.length = np) (hs : Sees w pa l) (hm : np ≤ maxLen) (h64 : ∀ x ∈ l, -9223372036854775808 ≤ x ∧ x ≤ 9223372036854775807) :
    Calls Try.prog 13 #[.slice qa qn qc, .slice pa np pc, .int .i64 D] w fun x w' => ∃ mv, x = .returned (.tuple #[mv, .int .i64 (playR ps l D).2]) ∧ OwnM w' w.heap.size mv (playR ps l D).1 ∧ Below w.heap.size w w' := by
  by_cases h0 : wrongS qn np D = 0
  · obtain ⟨r1, r2, r3, r4, r5⟩ := wrong_ok h0
    have r1 : 1 ≤ qn := by omega
    have r2 : qn ≤ 8 := by omega
    obtain ⟨K, rfl⟩ := Int.eq_ofNat_of_zero_le r3
    have hP : playR ps l (K : Int) = ((runS (planNext ps) qn l K fun _ => 0).2.2, 0) := by
      unfold playR runR
      rw [hqn, hl, if_pos h0, Int.toNat_natCast]
    rw [hP]
    obtain ⟨FIN, hF⟩ : ∃ FIN, FIN = runS (planNext ps) qn l K fun _ => 0 := ⟨_, rfl⟩
    rw [← hF]
    have hmI := makeI64 qn (by omega)
    have hmB := makeB qn (by omega)
    have HPS := Lib.hid hps
    have HS := Lib.hid hs
    have HL := Lib.hid hl
    have HW := Lib.hid h0
    have HF := Lib.hid hF
    have HQN := Lib.hid hqn
    have H64 := Lib.hid h64
    clear hps hs hl h0 hF hP h64 hqn
    go_enter Try.func13, Try.ntmps13
    go_upto_region 4 with (first | (go_at_call 24; go_must (refine (refWrong_any (qn : Nat) (K : Nat) np _).mono ?_; rintro e w1 ⟨rfl, rfl⟩; rw [HW.out])))
    go_region
    · obtain ⟨W1, hW1⟩ : ∃ W1, W1 = (((w.alloc (.cells (madeCells #[.int .i64 0] qn) 3)).alloc (.cells (falses qn) 4)).alloc (.cells #[.slice qa qn qc, .slice (some ⟨w.heap.size, 0, none⟩) qn qn, .slice (some ⟨w.heap.size + 1, 0, none⟩) qn qn, .slice none 0 0] 51)).drew := ⟨_, rfl⟩
      have H : RefSt w.heap.size (w.heap.size + 3) (w.heap.size + 1 + 1) (w.heap.size) (w.heap.size + 1) qa qc qn ps (fun _ => 0) (fun _ => false) [] w W1 := by
        rw [hW1]
        refine refSt_start (t1 := 3) (t2 := 4) (t3 := 51) HPS.out ?_ ?_ ?_ (((((Below.refl _ _).alloc (Nat.le_refl _) _).alloc (by simp) _).alloc (by simp <;> omega) _).drew) (by omega)
        · exact (alloc3 _ _ _ _).1
        · exact (alloc3 _ _ _ _).2.1
        · exact (alloc3 _ _ _ _).2.2
      rw [← hW1]
      obtain ⟨M, hM⟩ : ∃ M, M = w.heap.size + 3 := ⟨_, rfl⟩
      obtain ⟨rp, hrp⟩ : ∃ rp, rp = w.heap.size + 1 + 1 := ⟨_, rfl⟩
      obtain ⟨eb, heb⟩ : ∃ x, x = w.heap.size + 1 := ⟨_, rfl⟩
      obtain ⟨sb, hsb⟩ : ∃ x, x = w.heap.size := ⟨_, rfl⟩
      have H : RefSt w.heap.size M rp sb eb qa qc qn ps (fun _ => 0) (fun _ => false) [] w W1 := by rw [hM, hrp, heb, hsb]; exact H
      rw [← hrp]
      clear hM hW1 hrp heb hsb
      have HH := Lib.hid H
      clear H
      go_wp2
      go_loopw [10] (fun i wr => ∃ j : Nat, j ≤ np ∧ i = .int .i64 j ∧ RefSt w.heap.size M rp sb eb qa qc qn ps (picksX (planNext ps) qn (l.take j) fun _ => 0).1 (picksX (planNext ps) qn (l.take j) fun _ => 0).2.1 (picksX (planNext ps) qn (l.take j) fun _ => 0).2.2 w wr) (fun i _ => np - (intOf i).toNat)
      case atStart => exact ⟨0, Nat.zero_le _, rfl, HH.out⟩
      case round =>
        obtain ⟨j, hj, rfl, hst⟩ := hrel
        have hlen := picksX_len (planNext ps) qn (l.take j) fun _ => 0
        rw [List.length_take, HL.out] at hlen
        have HST := Lib.hid hst
        clear hst
        by_cases hlt : j < np
        · obtain ⟨b, o, h1, h2⟩ := HS.out
          have hne : l ≠ [] := by intro e; have := HL.out; subst e; simp at this; omega
          obtain rfl := h1 hne
          obtain ⟨x, hx⟩ : ∃ x, l[j]? = some x := ⟨_, List.getElem?_eq_getElem (by rw [HL.out]; exact hlt)⟩
          have c0 := h2 j (by rw [HL.out]; exact hlt)
          rw [List.getD_eq_getElem?_getD, hx, Option.getD_some] at c0
          have c1 : wr.cell? ⟨b, o + j, none⟩ = some (.int .i64 x) := (HST.out.below.cell (p := ⟨b, o + j, none⟩) (block_lt_of_cell c0)).trans c0
          have h5 := roundS_lt x (show 0 < qn by omega)
          have HX := Lib.hid hx
          have hlo : (0 : Int) ≤ (j : Int) := by omega
          have hhi : (j : Int) < (np : Int) := by omega
          have HLEN := Lib.hid hlen
          clear hx c0 h1 h2 hne hlen
          go_wp2_with (first
            | (go_at_call 21; go_must (refine (refRound_any qn x _ (by omega) (by omega)).mono ?_; rintro e w1 ⟨rfl, rfl⟩))
            | (go_at_call 25; go_must (refine (refPick_any (k := roundS qn x) HST.out HQN.out h5 r2 (by rw [HLEN.out]; omega)).mono ?_; rintro e w2 ⟨rfl, H2⟩)))
          have HH2 := Lib.hid H2
          clear H2
          go_roundw
          case rel => exact ⟨j + 1, by omega, by go_num, by rw [picksX_take _ _ _ _ _ _ HX.out]; exact HH2.out⟩
          case measure => simp [intOf]; omega
        · obtain rfl : j = np := by omega
          have hT : l.take j = l := List.take_of_length_le (by rw [HL.out]; exact Nat.le_refl _)
          rw [hT] at hlen
          have HST2 := HST.out
          rw [hT] at HST2
          have HST3 := Lib.hid HST2
          have HLEN := Lib.hid hlen
          have hdr : drainS (planNext ps) qn K 0 (picksX (planNext ps) qn l fun _ => 0) = FIN := HF.out.symm
          have HDR := Lib.hid hdr
          clear hT HST2 hlen hdr
          go_wp2
          go_loopw [11, 12] (fun v i wr => ∃ (k fr : Nat) (x : (Nat → Nat) × (Nat → Bool) × List Mk), k ≤ K ∧ v = .int .i64 fr ∧ i = .int .i64 k ∧ fr ≤ qn ∧ x.2.2.length ≤ j + k ∧ RefSt w.heap.size M rp sb eb qa qc qn ps x.1 x.2.1 x.2.2 w wr ∧ drainS (planNext ps) qn (K - k) fr x = FIN) (fun _ i _ => K - (intOf i).toNat)
          case atStart => exact ⟨0, 0, _, Nat.zero_le _, rfl, rfl, Nat.zero_le _, by rw [HLEN.out]; omega, HST3.out, HDR.out⟩
          case round =>
            obtain ⟨k, fr, x, hk, rfl, rfl, hfr, hxl, hst, hd⟩ := hrel
            have HST4 := Lib.hid hst
            have HD := Lib.hid hd
            have c3 := hst.marks
            obtain ⟨mv, m1, m2⟩ := c3
            have M2 := Lib.hid m2
            clear hst hd m2
            by_cases hlt2 : k < K
            · cases hnx : nextS x.2.1 qn fr with
              | none =>
                have hx2 : x = FIN := by rw [← HD.out, drainS_none hnx]
                subst hx2
                have HNX := Lib.hid hnx
                clear hnx
                go_wp2_with (first | (go_at_call 26; go_must (refine (refNext_any HST4.out (by omega) r2 hfr).mono ?_; rintro e w2 ⟨rfl, rfl⟩; rw [HNX.out])))
                go_ret2
                exact ⟨_, rfl, M2.out.lower (by have := HST4.out.num; omega), HST4.out.below⟩
              | some q =>
                have hq := nextS_lt hnx
                have hd2 := HD.out
                rw [show K - k = (K - (k + 1)) + 1 by omega, drainS_some hnx] at hd2
                have HD2 := Lib.hid hd2
                have HNX := Lib.hid hnx
                have ht : decide ((q : Int) + 1 = 0) = false := by rw [decide_eq_false_iff_not]; omega
                have ht2 : ((q : Int) + 1 == 0) = false := by simpa using ht
                clear hnx hd2
                go_wp2_with (first
                  | (go_at_call 26; go_must (refine (refNext_any HST4.out (by omega) r2 hfr).mono ?_; rintro e w2 ⟨rfl, rfl⟩; rw [HNX.out]; simp only [nextN]))
                  | (go_at_call 25; go_must (refine (refPick_any (k := q) HST4.out HQN.out hq r2 (by omega)).mono ?_; rintro e w2 ⟨rfl, H2⟩)))
                have HH2 := Lib.hid H2
                clear H2
                go_roundw
                case rel => exact ⟨k + 1, q + 1, rstep (planNext ps) x q, by omega, by go_num, by go_num, by omega, by rw [rstep_len]; omega, HH2.out, HD2.out⟩
                case measure => simp [intOf]; omega
            · obtain rfl : k = K := by omega
              have hx2 : x = FIN := by
                have := HD.out
                rw [Nat.sub_self] at this
                exact this
              subst hx2
              go_wp2
              go_ret2
              exact ⟨_, rfl, M2.out.lower (by have := HST4.out.num; omega), HST4.out.below⟩
    · obtain ⟨W1, hW1⟩ : ∃ W1, W1 = (((w.alloc (.cells (falses qn) 4)).alloc (.cells (madeCells #[.int .i64 0] qn) 3)).alloc (.cells #[.slice qa qn qc, .slice (some ⟨w.heap.size + 1, 0, none⟩) qn qn, .slice (some ⟨w.heap.size, 0, none⟩) qn qn, .slice none 0 0] 51)).drew := ⟨_, rfl⟩
      have H : RefSt w.heap.size (w.heap.size + 3) (w.heap.size + 1 + 1) (w.heap.size + 1) (w.heap.size) qa qc qn ps (fun _ => 0) (fun _ => false) [] w W1 := by
        rw [hW1]
        refine refSt_start (t1 := 3) (t2 := 4) (t3 := 51) HPS.out ?_ ?_ ?_ (((((Below.refl _ _).alloc (Nat.le_refl _) _).alloc (by simp) _).alloc (by simp <;> omega) _).drew) (by omega)
        · exact (alloc3 _ _ _ _).2.1
        · exact (alloc3 _ _ _ _).1
        · exact (alloc3 _ _ _ _).2.2
      rw [← hW1]
      obtain ⟨M, hM⟩ : ∃ M, M = w.heap.size + 3 := ⟨_, rfl⟩
      obtain ⟨rp, hrp⟩ : ∃ rp, rp = w.heap.size + 1 + 1 := ⟨_, rfl⟩
      obtain ⟨sb, hsb⟩ : ∃ x, x = w.heap.size + 1 := ⟨_, rfl⟩
      obtain ⟨eb, heb⟩ : ∃ x, x = w.heap.size := ⟨_, rfl⟩
      have H : RefSt w.heap.size M rp sb eb qa qc qn ps (fun _ => 0) (fun _ => false) [] w W1 := by rw [hM, hrp, heb, hsb]; exact H
      rw [← hrp]
      clear hM hW1 hrp heb hsb
      have HH := Lib.hid H
      clear H
      go_wp2
      go_loopw [10] (fun i wr => ∃ j : Nat, j ≤ np ∧ i = .int .i64 j ∧ RefSt w.heap.size M rp sb eb qa qc qn ps (picksX (planNext ps) qn (l.take j) fun _ => 0).1 (picksX (planNext ps) qn (l.take j) fun _ => 0).2.1 (picksX (planNext ps) qn (l.take j) fun _ => 0).2.2 w wr) (fun i _ => np - (intOf i).toNat)
      case atStart => exact ⟨0, Nat.zero_le _, rfl, HH.out⟩
      case round =>
        obtain ⟨j, hj, rfl, hst⟩ := hrel
        have hlen := picksX_len (planNext ps) qn (l.take j) fun _ => 0
        rw [List.length_take, HL.out] at hlen
        have HST := Lib.hid hst
        clear hst
        by_cases hlt : j < np
        · obtain ⟨b, o, h1, h2⟩ := HS.out
          have hne : l ≠ [] := by intro e; have := HL.out; subst e; simp at this; omega
          obtain rfl := h1 hne
          obtain ⟨x, hx⟩ : ∃ x, l[j]? = some x := ⟨_, List.getElem?_eq_getElem (by rw [HL.out]; exact hlt)⟩
          have c0 := h2 j (by rw [HL.out]; exact hlt)
          rw [List.getD_eq_getElem?_getD, hx, Option.getD_some] at c0
          have c1 : wr.cell? ⟨b, o + j, none⟩ = some (.int .i64 x) := (HST.out.below.cell (p := ⟨b, o + j, none⟩) (block_lt_of_cell c0)).trans c0
          have h5 := roundS_lt x (show 0 < qn by omega)
          have HX := Lib.hid hx
          have hlo : (0 : Int) ≤ (j : Int) := by omega
          have hhi : (j : Int) < (np : Int) := by omega
          have HLEN := Lib.hid hlen
          clear hx c0 h1 h2 hne hlen
          go_wp2_with (first
            | (go_at_call 21; go_must (refine (refRound_any qn x _ (by omega) (by omega)).mono ?_; rintro e w1 ⟨rfl, rfl⟩))
            | (go_at_call 25; go_must (refine (refPick_any (k := roundS qn x) HST.out HQN.out h5 r2 (by rw [HLEN.out]; omega)).mono ?_; rintro e w2 ⟨rfl, H2⟩)))
          have HH2 := Lib.hid H2
          clear H2
          go_roundw
          case rel => exact ⟨j + 1, by omega, by go_num, by rw [picksX_take _ _ _ _ _ _ HX.out]; exact HH2.out⟩
          case measure => simp [intOf]; omega
        · obtain rfl : j = np := by omega
          have hT : l.take j = l := List.take_of_length_le (by rw [HL.out]; exact Nat.le_refl _)
          rw [hT] at hlen
          have HST2 := HST.out
          rw [hT] at HST2
          have HST3 := Lib.hid HST2
          have HLEN := Lib.hid hlen
          have hdr : drainS (planNext ps) qn K 0 (picksX (planNext ps) qn l fun _ => 0) = FIN := HF.out.symm
          have HDR := Lib.hid hdr
          clear hT HST2 hlen hdr
          go_wp2
          go_loopw [11, 12] (fun v i wr => ∃ (k fr : Nat) (x : (Nat → Nat) × (Nat → Bool) × List Mk), k ≤ K ∧ v = .int .i64 fr ∧ i = .int .i64 k ∧ fr ≤ qn ∧ x.2.2.length ≤ j + k ∧ RefSt w.heap.size M rp sb eb qa qc qn ps x.1 x.2.1 x.2.2 w wr ∧ drainS (planNext ps) qn (K - k) fr x = FIN) (fun _ i _ => K - (intOf i).toNat)
          case atStart => exact ⟨0, 0, _, Nat.zero_le _, rfl, rfl, Nat.zero_le _, by rw [HLEN.out]; omega, HST3.out, HDR.out⟩
          case round =>
            obtain ⟨k, fr, x, hk, rfl, rfl, hfr, hxl, hst, hd⟩ := hrel
            have HST4 := Lib.hid hst
            have HD := Lib.hid hd
            have c3 := hst.marks
            obtain ⟨mv, m1, m2⟩ := c3
            have M2 := Lib.hid m2
            clear hst hd m2
            by_cases hlt2 : k < K
            · cases hnx : nextS x.2.1 qn fr with
              | none =>
                have hx2 : x = FIN := by rw [← HD.out, drainS_none hnx]
                subst hx2
                have HNX := Lib.hid hnx
                clear hnx
                go_wp2_with (first | (go_at_call 26; go_must (refine (refNext_any HST4.out (by omega) r2 hfr).mono ?_; rintro e w2 ⟨rfl, rfl⟩; rw [HNX.out])))
                go_ret2
                exact ⟨_, rfl, M2.out.lower (by have := HST4.out.num; omega), HST4.out.below⟩
              | some q =>
                have hq := nextS_lt hnx
                have hd2 := HD.out
                rw [show K - k = (K - (k + 1)) + 1 by omega, drainS_some hnx] at hd2
                have HD2 := Lib.hid hd2
                have HNX := Lib.hid hnx
                have ht : decide ((q : Int) + 1 = 0) = false := by rw [decide_eq_false_iff_not]; omega
                have ht2 : ((q : Int) + 1 == 0) = false := by simpa using ht
                clear hnx hd2
                go_wp2_with (first
                  | (go_at_call 26; go_must (refine (refNext_any HST4.out (by omega) r2 hfr).mono ?_; rintro e w2 ⟨rfl, rfl⟩; rw [HNX.out]; simp only [nextN]))
                  | (go_at_call 25; go_must (refine (refPick_any (k := q) HST4.out HQN.out hq r2 (by omega)).mono ?_; rintro e w2 ⟨rfl, H2⟩)))
                have HH2 := Lib.hid H2
                clear H2
                go_roundw
                case rel => exact ⟨k + 1, q + 1, rstep (planNext ps) x q, by omega, by go_num, by go_num, by omega, by rw [rstep_len]; omega, HH2.out, HD2.out⟩
                case measure => simp [intOf]; omega
            · obtain rfl : k = K := by omega
              have hx2 : x = FIN := by
                have := HD.out
                rw [Nat.sub_self] at this
                exact this
              subst hx2
              go_wp2
              go_ret2
              exact ⟨_, rfl, M2.out.lower (by have := HST4.out.num; omega), HST4.out.below⟩
  · rw [show playR ps l D = ([], wrongS qn np D) by unfold playR runR; rw [hqn, hl, if_neg h0]]
    obtain ⟨E, hE⟩ : ∃ E, E = wrongS qn np D := ⟨_, rfl⟩
    rw [← hE] at h0 ⊢
    have h01 : (E != 0) = true := by simpa using h0
    have h02 : (E == 0) = false := by simpa using h0
    have HE := Lib.hid hE
    clear hs hl hE h0 hps hqn h64
    go_enter Try.func13, Try.ntmps13
    go_wp2_with (first | (go_at_call 24; go_must (refine (refWrong_any (qn : Nat) D np _).mono ?_; rintro e w1 ⟨rfl, rfl⟩; rw [← HE.out])))
    go_ret2
    exact ⟨_, rfl, OwnM.nil _ _, Below.refl _ _⟩
end Go.Proofs.Ytaiinkeendejdaa
