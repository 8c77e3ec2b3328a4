/-
  quash/quashlaw23.ScriptPrints answers true, whatever the script. Condition: the library's variables (Env).
  And: quash/quashref23.Print: every script. Condition: what it sees in memory (SV.Sees), numbers within int64 (SV.In).
  And: quash/quashref23.Digits, row: every number, every row. Condition: sizes; of the numbers' place what is asked.
-/
import Derived.Test.YtoiokbdipcecnaaGreatDoorRefPrint15
import Derived.Test.YtoiokbdipcecnaaGreatDoorScrPrint
import Derived.Test.YtoiokbdipcecnaaGreatDoorOpenS
import Derived.Test.YtoiokbdipcecnaaGreatDoorScrAwake
namespace Go.Proofs.YtoiokbdipcecnaaGreatDoor
open Go.RowKit
set_option maxRecDepth 100000

theorem check_push (a : Int) : (checkL [(1, a)]).1 = 0 := by
  have h1 : isOp 1 = true := by decide
  have h2 : takes 1 = 1 := by decide +kernel
  simp [checkL, checkFrom, h1, h2, mayB]
theorem print_push (a : Int) : printL [(1, a)] = [112, 117, 115, 104, 32] ++ (Lib.itoa a ++ [10]) := by
  have h1 : (opRow 1).1 = [112, 117, 115, 104] := by decide +kernel
  have h2 : takes 1 = 1 := by decide +kernel
  simp [printL, printOne, h1, h2]
theorem push_ext (a : Int) : (S (printL [(1, a)])).extract 5 ((S (printL [(1, a)])).size - 1) = S (Lib.itoa a) := by
  rw [print_push]
  apply ByteArray.ext
  rw [ByteArray.data_extract, S_size]
  apply Array.ext'
  simp [S]
theorem refDigits_any (a : Int) (w : World) (hlo : -9223372036854775808 ≤ a) (hhi : a ≤ 9223372036854775807) :
    Calls Tryz.prog 43 #[.int .i64 a] w fun e w' => e = .returned (.string (S (Lib.itoa a))) ∧ Below w.heap.size w w' := by
  have hil := Lib.itoa_length_le a hlo hhi
  have hext := push_ext a
  have hlen1 : (S (printL [(1, a)])).size = 6 + (S (Lib.itoa a)).size := by rw [S_size, S_size, print_push]; simp; omega
  have hop : ∀ W g, W.heap[g]? = some (.cells #[.int .i64 1, .int .i64 a] 82) → Calls Tryz.prog 26 #[.slice (some ⟨g, 0, none⟩) 1 1] W fun e w' => e = .returned (.tuple #[.string (S (printL [(1, a)])), .int .i64 0]) ∧ Below W.heap.size W w' := fun W g h => by
    have h1 := refPrint_any (some ⟨g, 0, none⟩) 1 1 [(1, a)] W rfl (seesP_one h) (by decide) (fun x hx => by simp at hx; subst hx; exact ⟨hlo, hhi⟩)
    rw [check_push, if_pos rfl] at h1
    exact h1
  have hods : (S (Lib.itoa a)).size ≤ 21 := by rw [S_size]; exact hil
  obtain ⟨od, hod⟩ : ∃ od, od = S (Lib.itoa a) := ⟨_, rfl⟩
  rw [← hod] at hext hlen1 hods ⊢
  generalize S (printL [(1, a)]) = one at hext hlen1 hop
  have HOP := Lib.hid hop
  have k1 : IntKind.i64.wrap ((one.size : Int) - 1) = (one.size : Int) - 1 := IntWalk.i64_in _ (by omega)
  have k2 : (0 : Int) ≤ (one.size : Int) - 1 := by omega
  have k3 : (one.size : Int) - 1 ≤ (one.size : Int) := by omega
  have k4 : (5 : Int) ≤ (one.size : Int) - 1 := by omega
  have k5 : ((one.size : Int) - 1).toNat = one.size - 1 := by omega
  clear hop hil hod hlen1 hlo hhi
  go_enter Tryz.func43, Tryz.ntmps43
  go_upto_region 2 with (go_at_call 26; go_must (refine (HOP.out _ _ (by exact heap_new _ _ _ rfl)).mono ?_; rintro e w7 ⟨rfl, hb7⟩))
  have HB7 := Lib.hid (((Below.refl _ _).alloc (Nat.le_refl _) _).trans (hb7.mono (by simp)) : Below w.heap.size w w7)
  clear hb7
  go_wp2
  go_ret
  exact ⟨by rw [← hext]; rfl, HB7.out⟩
/-- what is no row of bytes is as it was -/
def KeepU (w w' : World) : Prop := ∀ (g : Nat) (xs : Array Value) (t : TypeId), w.heap[g]? = some (.cells xs t) → t ≠ 5 → w'.heap[g]? = w.heap[g]?
theorem KeepU.refl (w : World) : KeepU w w := fun _ _ _ _ _ => rfl
theorem KeepU.trans {a b c : World} (h : KeepU a b) (k : KeepU b c) : KeepU a c := fun g xs t hg ht => (k g xs t ((h g xs t hg ht).trans hg) ht).trans (h g xs t hg ht)
theorem KeepU.of_below {w w' : World} (h : Below w.heap.size w w') : KeepU w w' := fun g _ _ hg _ => h.block g (lt_of_block hg)
theorem KeepU.grown {w w' : World} {B : Nat} {v : Value} {l : List UInt8} (ho : OwnB w B v l) (hg : w.grownBy w' v.ownBlock) : KeepU w w' := fun g xs t hgx ht => hg.block g (lt_of_block hgx) fun e => by
  obtain ⟨c', hc⟩ := own_block ho e.symm
  rw [hgx] at hc
  injection hc with hc
  injection hc with _ hc
  exact ht hc
/-- what a call that writes behind a row leaves -/
def RowDoes (B : Nat) (bs : List UInt8) (w : World) (e : Ending) (w' : World) : Prop := ∃ v, e = .returned v ∧ OwnB w' B v bs ∧ Below B w w' ∧ KeepU w w'
set_option maxHeartbeats 4000000 in
theorem refRow_any (v : Value) (bs word : List UInt8) (ao : Option Addr) (c n : Nat) (ns : List Int) (B : Nat) (w : World) (hown : OwnB w B v bs) (hB : B ≤ w.heap.size) (hbs : bs.length ≤ 3000000) (hwl : word.length ≤ 8) (hn : n = ns.length) (hn2 : n ≤ 65536) (hi : InZ ns)
    (hs : ∀ W, Below B w W → KeepU w W → Sees W ao ns) :
    Calls Tryz.prog 25 #[v, .string (S word), .slice ao n c] w (RowDoes B (bs ++ rowL word ns) w) := by
  have HN := Lib.hid hn
  have HS := Lib.hid hs
  have HI := Lib.hid hi
  have HOWN := Lib.hid hown
  obtain ⟨aov, nv, cv, rfl, hnv⟩ := hown.form'
  clear hn hs hi hown hnv
  go_enter Tryz.func25, Tryz.ntmps25
  go_wp2_with (at_builtin; go_must (refine wpList_appS HOWN.out hB word (by omega) rfl _ _ rfl rfl rfl ?_; intro v1 w1 hown1 hgrow1; have HB1 := Lib.hid ((Below.refl B w).grown hgrow1 hB (fun k hk => own_ge HOWN.out hk)); have HK1 := Lib.hid (KeepU.grown HOWN.out hgrow1); have HO1 := Lib.hid hown1; clear hown1 hgrow1))
  go_loopw [0, 7] (fun u i wr => ∃ k : Nat, k ≤ n ∧ i = .int .i64 k ∧ OwnB wr B u (bs ++ word ++ numsT (ns.take k)) ∧ Below B w wr ∧ KeepU w wr) (fun _ i _ => n - (intOf i).toNat)
  case atStart => exact ⟨0, Nat.zero_le _, rfl, by simpa [numsT] using HO1.out, HB1.out, HK1.out⟩
  case round =>
    obtain ⟨k, hk, rfl, hO, hBr, hKr⟩ := hrel
    have hzr := hBr.size
    have hBw : B ≤ _ := Nat.le_trans hB hzr
    have HO := Lib.hid hO
    have HBR := Lib.hid hBr
    have HKR := Lib.hid hKr
    obtain ⟨aou, nu, cu, rfl, hnu⟩ := hO.form'
    have hnl := numsT_len (HI.out.take k)
    have hnk : (ns.take k).length ≤ 65536 := by simp; omega
    have HPL := Lib.hid (show (bs ++ word ++ numsT (ns.take k)).length ≤ 4500000 by rw [List.length_append, List.length_append]; omega)
    clear hO hBr hKr hnu hnl hnk
    by_cases hlt : k < n
    · have hkl : k < ns.length := by rw [← HN.out]; exact hlt
      obtain ⟨b, o, hao, hcell⟩ := HS.out _ HBR.out HKR.out
      obtain rfl := hao (by intro e; subst e; simp at hkl)
      have hat := getD_at hkl
      have hin := HI.out _ (List.mem_of_getElem? hat)
      have hsn := numsT_snoc hat
      have HCELL := Lib.hid (fun W (hb : Below B w W) (hk : KeepU w W) => (show W.cell? ⟨b, o + k, none⟩ = some (.int .i64 (ns.getD k 0)) by
        obtain ⟨b', o', ha, hc⟩ := HS.out W hb hk
        have := ha (by intro e; subst e; simp at hkl)
        injection this with this
        injection this with e1 e2
        subst e1; subst e2
        exact hc k hkl))
      generalize ns.getD k 0 = x at hat hin hsn HCELL
      obtain ⟨x1, x2⟩ := hin
      have hil := Lib.itoa_length_le x x1 x2
      have HSN := Lib.hid hsn
      have hi0 : (0 : Int) ≤ (k : Int) := by omega
      have hi1 : (k : Int) < (n : Int) := by omega
      clear hcell hat hsn hkl hao
      go_upto_region 6 with (at_builtin; go_must (refine wpList_app1 (HO.out.below ((Below.refl _ _).alloc (Nat.le_refl _) _)) (by simp; omega) _ 32 _ _ (heap_new _ _ _ rfl) rfl (by have := HPL.out; omega) rfl _ _ rfl rfl rfl ?_; intro v5 w5 hown5 hgrow5; have HB5 := Lib.hid ((HBR.out.alloc hBw _).grown hgrow5 (by simp; omega) (fun k hk => own_ge HO.out hk)); have HK5 := Lib.hid ((HKR.out.trans (KeepU.of_below ((Below.refl _ _).alloc (Nat.le_refl _) _))).trans (KeepU.grown (HO.out.below ((Below.refl _ _).alloc (Nat.le_refl _) _)) hgrow5)); have HO5 := Lib.hid hown5; obtain ⟨ao5, n5, c5, rfl, hn5⟩ := hown5.form'; clear hown5 hgrow5 hn5))
      have cx := HCELL.out _ HB5.out HK5.out
      have hz5 : B ≤ _ := Nat.le_trans hB HB5.out.size
      go_wp2_with (first
        | (go_at_call 43; go_must (refine (refDigits_any x _ x1 x2).mono ?_; rintro e w6 ⟨rfl, hb6⟩; have hz6 := hb6.size; have HB6 := Lib.hid hb6; clear hb6))
        | (at_builtin; go_must (refine wpList_appS (HO5.out.below HB6.out) (Nat.le_trans hz5 hz6) (Lib.itoa x) (by rw [List.length_append, List.length_singleton]; have := HPL.out; omega) rfl _ _ rfl rfl rfl ?_; intro v7 w7 hown7 hgrow7; have HB7 := Lib.hid ((HB5.out.trans (HB6.out.mono hz5)).grown hgrow7 (Nat.le_trans hz5 hz6) (fun k hk => own_ge HO5.out hk)); have HK7 := Lib.hid ((HK5.out.trans (KeepU.of_below HB6.out)).trans (KeepU.grown (HO5.out.below HB6.out) hgrow7)); have HO7 := Lib.hid hown7; clear hown7 hgrow7)))
      go_roundw
      case rel =>
        refine ⟨k + 1, by omega, by go_num, ?_, HB7.out, HK7.out⟩
        have h := HO7.out
        rw [HSN.out]
        simp only [List.append_assoc, List.cons_append, List.nil_append] at h ⊢
        exact h
      case measure => simp [intOf]; omega
    · obtain rfl : k = n := by omega
      have htk : ns.take k = ns := List.take_of_length_le (by rw [← HN.out]; exact Nat.le_refl _)
      rw [htk] at HO HPL
      clear htk
      go_wp2_with (at_builtin; go_must (refine wpList_app1 (HO.out.below ((Below.refl _ _).alloc (Nat.le_refl _) _)) (by simp; omega) _ 10 _ _ (heap_new _ _ _ rfl) rfl (by have := HPL.out; omega) rfl _ _ rfl rfl rfl ?_; intro v9 w9 hown9 hgrow9; have HB9 := Lib.hid ((HBR.out.alloc hBw _).grown hgrow9 (by simp; omega) (fun k hk => own_ge HO.out hk)); have HK9 := Lib.hid ((HKR.out.trans (KeepU.of_below ((Below.refl _ _).alloc (Nat.le_refl _) _))).trans (KeepU.grown (HO.out.below ((Below.refl _ _).alloc (Nat.le_refl _) _)) hgrow9)); have HO9 := Lib.hid hown9; clear hown9 hgrow9))
      go_ret
      refine ⟨_, rfl, ?_, HB9.out, HK9.out⟩
      have h := HO9.out
      unfold rowL
      simp only [List.append_assoc] at h ⊢
      exact h
end Go.Proofs.YtoiokbdipcecnaaGreatDoor
namespace Go.Proofs.YtoiokbdipcecnaaGreatDoor
open Go.RowKit
set_option maxRecDepth 100000

theorem refScrPrint_bad (x : SV) (w : World) (h : x.Sees w) (h0 : x.check ≠ 0) :
    Calls Tryz.prog 12 #[x.v] w fun e w' => e = .returned (.tuple #[.string ⟨#[]⟩, .int .i64 x.check]) ∧ Below w.heap.size w w' := by
  have HC := Lib.hid (fun W (hb : Below w.heap.size w W) => refScrCheck_any x W (h.below hb))
  have h1 : (x.check != 0) = true := by simpa using h0
  generalize x.check = K at h1 HC ⊢
  unfold SV.v at HC ⊢
  generalize x.c.getD 0 0 = c0 at *
  generalize x.c.getD 1 0 = c1 at *
  generalize x.c.getD 2 0 = c2 at *
  generalize x.c.getD 3 0 = c3 at *
  generalize x.c.getD 4 0 = c4 at *
  generalize x.c.getD 5 0 = c5 at *
  generalize x.s.length = ns at *
  generalize x.P.length = np at *
  generalize x.k.length = nk at *
  clear h h0
  go_enter Tryz.func12, Tryz.ntmps12
  go_wp2_with (go_at_call 10; go_must (refine (HC.out _ ((Below.refl _ _).alloc (Nat.le_refl _) _)).mono ?_; rintro e w1 ⟨rfl, hb1⟩))
  go_ret2
  exact ⟨rfl, ((Below.refl _ _).alloc (Nat.le_refl _) _).trans (hb1.mono (by simp))⟩
/-- a row of ints that stays -/
theorem sees_kept {w : World} {B : Nat} {ao : Option Addr} {n c : Nat} {l : List Int} (h : OwnG intT w B (.slice ao n c) l) (hn : n = l.length) {W : World} (hk : KeepU w W) : Sees W ao l := by
  subst hn
  have h2 : OwnG intT W B (.slice ao l.length c) l := h.at fun g hg => by obtain ⟨cc, hc⟩ := own_block h hg; exact hk g cc _ hc (by decide)
  unfold OwnG at h2
  rw [all_int] at h2
  exact Sees.of_own h2
theorem OwnB.past {w w' : World} {B B' : Nat} {v u : Value} {l : List UInt8} {k : List Int} (h : OwnB w B v l) (hu : OwnG intT w B' u k) (hg : w.grownBy w' u.ownBlock) : OwnB w' B v l :=
  ownsRow_at h fun g hv => by
    obtain ⟨cur, hc⟩ := own_block h hv
    exact grown_block (E := intT) hu hg hc (by decide)
set_option maxHeartbeats 8000000 in
theorem refScrPrint_good (x : SV) (w : World) (h : x.Sees w) (hi : x.In) (h0 : x.check = 0) :
    Calls Tryz.prog 12 #[x.v] w fun e w' => e = .returned (if 1048576 < x.text.length then .tuple #[.string ⟨#[]⟩, .int .i64 234] else .tuple #[.string (S x.text), .int .i64 0]) ∧ Below w.heap.size w w' := by
  obtain ⟨g1, g2, g3, g4, g5, g6, g7, g8⟩ := scrCheck_zero h0
  obtain ⟨hci, hc0, hc1⟩ := cfgB_in g1
  rw [progsV_length] at g3 g4
  have HC := Lib.hid (fun W (hb : Below w.heap.size w W) => refScrCheck_any x W (h.below hb))
  have H := Lib.hid h
  have HIN := Lib.hid hi
  have HG5 := Lib.hid g5
  have HCI := Lib.hid hci
  have hsl : x.s.length ≤ 256 := by omega
  obtain ⟨TX, hTX⟩ : ∃ TX, x.text = TX := ⟨_, rfl⟩
  rw [hTX]
  unfold SV.text scrText at hTX
  obtain ⟨T0, hT0⟩ : ∃ T0, headT x.c = T0 := ⟨_, rfl⟩
  have hT0l : T0.length ≤ 139 := by rw [← hT0]; have := rowL_len (word := [99, 111, 110, 102, 105, 103]) hci; simpa [headT, cfgN] using this
  have hst : (startT x.s).length ≤ 5638 := by
    unfold startT
    split
    · simp
    · have := rowL_len (word := [115, 116, 97, 114, 116]) hi.s
      simp only [List.length_cons, List.length_nil] at this; omega
  have hpt : (picksT x.k).length ≤ 1441798 := by
    unfold picksT
    split
    · simp
    · have := rowL_len (word := [112, 105, 99, 107, 115]) hi.k
      simp only [List.length_cons, List.length_nil] at this; omega
  have hlt0 : ∀ k, (linesT ((progsV x.P).take k)).length ≤ 92888 := fun k => by
    have h1 : ∀ p ∈ (progsV x.P).take k, InI p ∧ p.length ≤ 400 := fun p hp => by
      have hp2 := List.mem_of_mem_take hp
      obtain ⟨y, hy, rfl⟩ := List.mem_map.1 hp2
      exact ⟨hi.p y hy, (checkL_ok (g5 _ hp2)).2.1⟩
    have h2 := linesT_len h1
    have h3 : ((progsV x.P).take k).length ≤ 8 := by rw [List.length_take, progsV_length]; omega
    omega
  have HLT := Lib.hid hlt0
  rw [h0] at HC
  rw [hT0] at hTX
  have HT0 := Lib.hid hT0
  unfold headT cfgN at HT0
  unfold cfgN at HCI
  unfold SV.v at HC ⊢
  have HTX := Lib.hid hTX
  generalize x.c.getD 0 0 = c0 at *
  generalize x.c.getD 1 0 = c1 at *
  generalize x.c.getD 2 0 = c2 at *
  generalize x.c.getD 3 0 = c3 at *
  generalize x.c.getD 4 0 = c4 at *
  generalize x.c.getD 5 0 = c5 at *
  obtain ⟨ns, hns⟩ : ∃ n, n = x.s.length := ⟨_, rfl⟩
  obtain ⟨np, hnp⟩ : ∃ n, n = x.P.length := ⟨_, rfl⟩
  obtain ⟨nk, hnk⟩ : ∃ n, n = x.k.length := ⟨_, rfl⟩
  rw [← hns] at hsl HC ⊢
  rw [← hnp] at g3 g4 HC ⊢
  rw [← hnk] at g6 HC ⊢
  have HNS := Lib.hid hns
  have HNP := Lib.hid hnp
  have HNK := Lib.hid hnk
  obtain ⟨RV, hRV⟩ : ∃ RV, RV = (if 1048576 < TX.length then Value.tuple #[.string ⟨#[]⟩, .int .i64 234] else Value.tuple #[.string (S TX), .int .i64 0]) := ⟨_, rfl⟩
  rw [← hRV]
  have HRV := Lib.hid hRV
  clear hRV h hi g1 g2 g5 hci h0 hTX hT0 hns hnp hnk hlt0
  go_enter Tryz.func12, Tryz.ntmps12
  go_upto_region 4 with (go_at_call 10; go_must (refine (HC.out _ ((Below.refl _ _).alloc (Nat.le_refl _) _)).mono ?_; rintro e w1 ⟨rfl, hb1⟩; have Q := Lib.hid ((hb1.block _ (by simp)).trans (heap_new w _ w.heap.size rfl))))
  have HB1 := Lib.hid (((Below.refl _ _).alloc (Nat.le_refl _) _).trans (hb1.mono (by simp)) : Below w.heap.size w w1)
  have hlt1 : w.heap.size < w1.heap.size := lt_of_block Q.out
  have r0 := cell_of_row _ _ 0 _ _ _ Q.out
  have r1 := cell_of_row _ _ 1 _ _ _ Q.out
  have r2 := cell_of_row _ _ 2 _ _ _ Q.out
  have r3 := cell_of_row _ _ 3 _ _ _ Q.out
  have r4 := cell_of_row _ _ 4 _ _ _ Q.out
  have r5 := cell_of_row _ _ 5 _ _ _ Q.out
  clear hb1
  go_upto_region 5 with (fail)
  refine wp_gen (fun U => U.heap[w1.heap.size]? = some (.cells #[.int .i64 c0, .int .i64 c1, .int .i64 c2, .int .i64 c3, .int .i64 c4, .int .i64 c5] 24) ∧ Below w1.heap.size w1 U) ⟨heap_new _ _ _ rfl, (Below.refl _ _).alloc (Nat.le_refl _) _⟩ ?_
  rintro U ⟨hqU, hBU⟩
  have d0 := cell_of_row _ _ 0 _ _ _ hqU
  have d1 := cell_of_row _ _ 1 _ _ _ hqU
  have d2 := cell_of_row _ _ 2 _ _ _ hqU
  have d3 := cell_of_row _ _ 3 _ _ _ hqU
  have d4 := cell_of_row _ _ 4 _ _ _ hqU
  have d5 := cell_of_row _ _ 5 _ _ _ hqU
  have hzU := hBU.size
  have hrow := refRow_any (.slice none 0 0) [] [99, 111, 110, 102, 105, 103] (some ⟨U.heap.size, 0, none⟩) 6 6 [c0, c1, c2, c3, c4, c5] U.heap.size (U.alloc (.cells #[.int .i64 c0, .int .i64 c1, .int .i64 c2, .int .i64 c3, .int .i64 c4, .int .i64 c5] 3)) (World.ownsRow_nil _ _ _ _) (by simp) (by decide) (by decide) rfl (by decide) HCI.out
    (fun W _ hk => Sees.of_block (t := 3) ((hk _ _ _ (heap_new _ _ _ rfl) (by decide)).trans (heap_new _ _ _ rfl)))
  rw [List.nil_append, HT0.out] at hrow
  have HROW := Lib.hid hrow
  have HBU := Lib.hid (HB1.out.trans (hBU.mono HB1.out.size))
  have HQU := Lib.hid ((hBU.block _ hlt1).trans Q.out)
  clear r0 r1 r2 r3 r4 r5 hqU hBU hrow
  go_upto_region 6 with (go_at_call 25; go_must (refine HROW.out.mono ?_; rintro e w2 ⟨v2, rfl, ho2, hb2, hk2⟩; have HO2 := Lib.hid ho2; have HB2 := Lib.hid ((Below.refl _ _).alloc (Nat.le_refl _) _ |>.trans hb2 : Below U.heap.size U w2); clear ho2 hb2 hk2))
  -- the start line
  have hzB := HB2.out.size
  have q6 := cell_of_row _ _ 6 _ _ _ ((HB2.out.block _ (by have := HB1.out.size; have := lt_of_block HQU.out; omega)).trans HQU.out)
  have hbox : w.heap.size < U.heap.size := lt_of_block HQU.out
  obtain ⟨T1, hT1⟩ : ∃ T1, T1 = T0 ++ startT x.s := ⟨_, rfl⟩
  have hT1l : T1.length ≤ 5777 := by rw [hT1, List.length_append]; omega
  have HT1 := Lib.hid hT1
  clear hT1 d0 d1 d2 d3 d4 d5
  go_upto_if 36 with (fail)
  go_cut [6] from 33 (fun u wx => OwnB wx U.heap.size u T1 ∧ Below U.heap.size U wx)
  case first =>
    by_cases hs0 : ns = 0
    · subst hs0
      have hT : T1 = T0 := by rw [HT1.out]; unfold startT; rw [if_pos HNS.out.symm, List.append_nil]
      go_wp2
      go_meet
      rw [hT]
      exact ⟨HO2.out, HB2.out⟩
    · have hs1 : (0 : Int) < (ns : Int) := by omega
      have hT : T1 = T0 ++ rowL [115, 116, 97, 114, 116] x.s := by rw [HT1.out]; unfold startT; rw [if_neg (by rw [← HNS.out]; exact hs0)]
      have HT := Lib.hid hT
      have hdec : decide (0 < ns) = true := by simp; omega
      clear hT hs0
      rw [hdec]
      go_wp2
      go_loopw [7, 8] (fun u i wr => ∃ k : Nat, k ≤ ns ∧ i = .int .i64 k ∧ OwnG intT wr U.heap.size u (x.s.take k) ∧ OwnB wr U.heap.size v2 T0 ∧ Below U.heap.size U wr) (fun _ i _ => ns - (intOf i).toNat)
      case atStart => exact ⟨0, Nat.zero_le _, rfl, OwnG.nil _ _ _, HO2.out, HB2.out⟩
      case round =>
        obtain ⟨k, hk, rfl, hl, hO, hB⟩ := hrel
        have HL := Lib.hid hl
        have HO := Lib.hid hO
        have HB := Lib.hid hB
        have hzr := hB.size
        have c6 := cell_of_row _ _ 6 _ _ _ ((hB.block _ hbox).trans HQU.out)
        clear hl hO hB
        by_cases hlt : k < ns
        · have hkl : k < x.s.length := by rw [← HNS.out]; exact hlt
          obtain ⟨b, o, hao, hcell⟩ := H.out.s.below (HBU.out.trans (HB.out.mono HBU.out.size))
          have hso := hao (by intro e; rw [e] at hkl; simp at hkl)
          have cx := hcell k hkl
          have hat := getD_at hkl
          generalize x.s.getD k 0 = z at cx hat
          have htk : x.s.take (k + 1) = x.s.take k ++ [z] := by rw [List.take_add_one, hat]; rfl
          rw [hso] at c6
          have HTK := Lib.hid htk
          have HLN := Lib.hid (show (x.s.take k).length ≤ 256 by simp; omega)
          have hi0 : (0 : Int) ≤ (k : Int) := by omega
          have hi1 : (k : Int) < (ns : Int) := by omega
          clear hcell hat htk hkl hao hso
          go_wp2_with (at_builtin; go_must (refine wpList_append1 (E := intT) (HL.out.below ((Below.refl _ _).alloc (Nat.le_refl _) _)) (by simp; omega) _ 1 z 3 (by exact heap_new _ _ _ rfl) (by show (_ + 1) * 8 ≤ _; have := HLN.out; omega) (by unfold maxLen; have := HLN.out; omega) rfl _ _ rfl rfl rfl ?_; intro v5 w5 hown5 hgrow5; have HO5 := Lib.hid ((HO.out.below ((Below.refl _ _).alloc (Nat.le_refl _) _)).past (HL.out.below ((Below.refl _ _).alloc (Nat.le_refl _) _)) hgrow5); have HB5 := Lib.hid ((HB.out.alloc hzr _).grown hgrow5 (by simp; omega) (fun k hk => own_ge HL.out hk)); have HL5 := Lib.hid hown5; clear hown5 hgrow5))
          go_roundw
          case rel => exact ⟨k + 1, (by omega), (by go_num), (by rw [HTK.out]; exact HL5.out), HO5.out, HB5.out⟩
          case measure => simp [intOf]; omega
        · obtain rfl : k = ns := by omega
          have htk : x.s.take k = x.s := List.take_of_length_le (by rw [← HNS.out]; exact Nat.le_refl _)
          rw [htk] at HL
          obtain ⟨al, nl, cl, rfl, hnl⟩ := HL.out.sliceH
          have hrow := refRow_any v2 T0 [115, 116, 97, 114, 116] al cl nl x.s U.heap.size _ HO.out hzr (by omega) (by decide) hnl.out (by have := hnl.out; rw [← HNS.out] at this; omega) HIN.out.s (fun W _ hk => sees_kept HL.out hnl.out hk)
          have HROW2 := Lib.hid hrow
          clear htk hrow
          go_wp2_with (go_at_call 25; go_must (refine HROW2.out.mono ?_; rintro e w7 ⟨v7, rfl, ho7, hb7, hk7⟩))
          go_meet
          rw [HT.out]
          exact ⟨ho7, HB.out.trans hb7⟩
  case rest =>
    obtain ⟨hOc, hBc⟩ := hcut
    have HOc := Lib.hid hOc
    have HBc := Lib.hid hBc
    have hzc := hBc.size
    clear hOc hBc
    go_wp2
    go_loopw [6, 9] (fun u i wr => ∃ k : Nat, k ≤ np ∧ i = .int .i64 k ∧ OwnB wr U.heap.size u (T1 ++ linesT ((progsV x.P).take k)) ∧ Below U.heap.size U wr) (fun _ i _ => np - (intOf i).toNat)
    case atStart => exact ⟨0, Nat.zero_le _, rfl, by simpa [linesT] using HOc.out, HBc.out⟩
    case round =>
      obtain ⟨k, hk, rfl, hO, hB⟩ := hrel
      have HO := Lib.hid hO
      have HB := Lib.hid hB
      have hzr := hB.size
      have HBW := Lib.hid (HBU.out.trans (hB.mono HBU.out.size))
      have c7 := cell_of_row _ _ 7 _ _ _ ((hB.block _ hbox).trans HQU.out)
      have hlk := HLT.out k
      have HPL := Lib.hid (show (T1 ++ linesT ((progsV x.P).take k)).length ≤ 98665 by rw [List.length_append]; omega)
      clear hO hB
      by_cases hlt : k < np
      · obtain ⟨y, hy⟩ : ∃ y, x.P[k]? = some y := ⟨_, List.getElem?_eq_getElem (by rw [← HNP.out]; exact hlt)⟩
        obtain ⟨b, o, hpo, hc, hsp⟩ := H.out.part hy
        have c0' := (HBW.out.cell (p := ⟨b, _, none⟩) (block_lt_of_cell hc)).trans hc
        have hpy := progsV_at hy
        have hsn := linesT_snoc hpy
        have hck := HG5.out _ (List.mem_of_getElem? hpy)
        have hin := HIN.out.p y (List.mem_of_getElem? hy)
        have hpr := fun W (hb : Below w.heap.size w W) => refPrint_any y.1 y.2.2.length y.2.1 y.2.2 W rfl (hsp.below hb) (by have := (checkL_ok hck).2.1; unfold maxLen; omega) hin
        rw [hck] at hpr
        simp only [if_true] at hpr
        have hpl := printL_len hin
        have h400 := (checkL_ok hck).2.1
        rw [hpo] at c7
        obtain ⟨y1, y2, y3⟩ := y
        simp only at hpr hsn c0' hpl h400
        have hPT : (printL y3).length ≤ 11600 := by omega
        generalize y3.length = yn at hpr c0'
        generalize printL y3 = PT at hpr hsn hPT
        have HPR := Lib.hid hpr
        have HSN := Lib.hid hsn
        have hi0 : (0 : Int) ≤ (k : Int) := by omega
        have hi1 : (k : Int) < (np : Int) := by omega
        clear hy hc hsp hpy hck hin hpr hpl h400 hsn hpo
        go_upto_region 17 with (go_at_call 26; go_must (refine (HPR.out _ HBW.out).mono ?_; rintro e w4 ⟨rfl, hb4⟩; have hz4 := hb4.size; have HB4 := Lib.hid (HB.out.trans (hb4.mono hzr)); have HO4 := Lib.hid (HO.out.below hb4); clear hb4))
        go_upto_region 18 with (at_builtin; go_must (refine wpList_appS HO4.out (by omega) threadT (by have := HPL.out; simp [threadT]; omega) rfl _ _ rfl rfl rfl ?_; intro v5 w5 ho5 hg5; have HB5 := Lib.hid (HB4.out.grown hg5 (by omega) (fun k hk => own_ge HO4.out hk)); have HO5 := Lib.hid ho5; clear ho5 hg5))
        have hz5 := HB5.out.size
        go_upto_region 19 with (at_builtin; go_must (refine wpList_appS HO5.out hz5 PT (by rw [List.length_append]; have := HPL.out; simp [threadT]; omega) rfl _ _ rfl rfl rfl ?_; intro v6 w6 ho6 hg6; have HB6 := Lib.hid (HB5.out.grown hg6 hz5 (fun k hk => own_ge HO5.out hk)); have HO6 := Lib.hid ho6; clear ho6 hg6))
        have hz6 := HB6.out.size
        go_wp2_with (at_builtin; go_must (refine wpList_appS HO6.out hz6 endT (by rw [List.length_append, List.length_append]; have := HPL.out; simp [threadT, endT]; omega) rfl _ _ rfl rfl rfl ?_; intro v7 w7 ho7 hg7; have HB7 := Lib.hid (HB6.out.grown hg7 hz6 (fun k hk => own_ge HO6.out hk)); have HO7 := Lib.hid ho7; clear ho7 hg7))
        go_roundw
        case rel =>
          refine ⟨k + 1, by omega, by go_num, ?_, HB7.out⟩
          have h := HO7.out
          rw [HSN.out]
          simp only [List.append_assoc] at h ⊢
          exact h
        case measure => simp [intOf]; omega
      · obtain rfl : k = np := by omega
        have htk : (progsV x.P).take k = progsV x.P := List.take_of_length_le (by rw [progsV_length, ← HNP.out]; exact Nat.le_refl _)
        rw [htk] at HO HPL
        obtain ⟨T2, hT2⟩ : ∃ T2, T2 = T1 ++ linesT (progsV x.P) := ⟨_, rfl⟩
        rw [← hT2] at HO HPL
        have hT2l : T2.length ≤ 98665 := HPL.out
        have HT2 := Lib.hid hT2
        have c8 := cell_of_row _ _ 8 _ _ _ ((HB.out.block _ hbox).trans HQU.out)
        obtain ⟨T3, hT3⟩ : ∃ T3, T3 = T2 ++ picksT x.k := ⟨_, rfl⟩
        have hT3l : T3.length ≤ 1540463 := by rw [hT3, List.length_append]; omega
        have HT3 := Lib.hid hT3
        clear htk hlk hT2 hT3
        go_upto_if 81 with (fail)
        go_cut [6] from 78 (fun u wx => OwnB wx U.heap.size u T3 ∧ Below U.heap.size U wx)
        case first =>
          by_cases hs0 : nk = 0
          · subst hs0
            have hT : T3 = T2 := by rw [HT3.out]; unfold picksT; rw [if_pos HNK.out.symm, List.append_nil]
            go_wp2
            go_meet
            rw [hT]
            exact ⟨HO.out, HB.out⟩
          · have hs1 : (0 : Int) < (nk : Int) := by omega
            have hT : T3 = T2 ++ rowL [112, 105, 99, 107, 115] x.k := by rw [HT3.out]; unfold picksT; rw [if_neg (by rw [← HNK.out]; exact hs0)]
            have hrow := refRow_any _ T2 [112, 105, 99, 107, 115] x.ko x.kc nk x.k U.heap.size _ HO.out hzr (by omega) (by decide) HNK.out g6 HIN.out.k (fun W hb _ => H.out.k.below (HBU.out.trans ((HB.out.trans hb).mono HBU.out.size)))
            have HROW2 := Lib.hid hrow
            have HT := Lib.hid hT
            clear hT hs0 hrow
            go_wp2_with (go_at_call 25; go_must (refine HROW2.out.mono ?_; rintro e w7 ⟨v7, rfl, ho7, hb7, hk7⟩))
            go_meet
            rw [HT.out]
            exact ⟨ho7, HB.out.trans hb7⟩
        case rest =>
          obtain ⟨hOe, hBe⟩ := hcut
          have HOe := Lib.hid hOe
          have HBe := Lib.hid hBe
          have hze := hBe.size
          have q9 := cell_of_row _ _ 9 _ _ _ ((hBe.block _ hbox).trans HQU.out)
          have hdr := rowL_len (word := [100, 114, 97, 105, 110]) (ns := [x.d]) (fun y hy => by simp at hy; subst hy; omega)
          simp only [List.length_cons, List.length_nil] at hdr
          have hTXE : T3 ++ rowL [100, 114, 97, 105, 110] [x.d] = TX := by rw [← HTX.out, HT3.out, HT2.out, HT1.out]; rfl
          have hTXl : TX.length ≤ 1540491 := by rw [← hTXE, List.length_append]; omega
          have hrow := refRow_any _ T3 [100, 114, 97, 105, 110] (some ⟨wc.heap.size, 0, none⟩) 1 1 [x.d] U.heap.size (wc.alloc (.cells #[.int .i64 x.d] 3)) (hOe.below ((Below.refl _ _).alloc (Nat.le_refl _) _)) (by simp; omega) (by omega) (by decide) rfl (by decide) (fun y hy => by simp at hy; subst hy; omega)
            (fun W _ hk => Sees.of_block (t := 3) ((hk _ _ _ (heap_new _ _ _ rfl) (by decide)).trans (heap_new _ _ _ rfl)))
          rw [hTXE] at hrow
          have HROW3 := Lib.hid hrow
          clear hOe hBe hTXE hrow
          go_upto_region 23 with (go_at_call 25; go_must (refine HROW3.out.mono ?_; rintro e w7 ⟨v7, rfl, ho7, hb7, hk7⟩; have HO7 := Lib.hid ho7; have HB7 := Lib.hid ((HBe.out.alloc hze _).trans hb7); clear ho7 hb7 hk7))
          have hne : TX.length ≠ 0 := by
            intro e0
            have h1 := HTX.out
            rw [List.eq_nil_of_length_eq_zero e0] at h1
            simp [drainT, rowL] at h1
          obtain ⟨a9, c9, rfl, hsome⟩ := HO7.out.form
          obtain ⟨g9, rfl⟩ := hsome hne
          have hcv : (convert 42 9 (.slice (some ⟨g9, 0, none⟩) TX.length c9)).run Tryz.prog w7 = .ok (.string (S TX)) w7 :=
            run_convert_bytes_back w7 _ _ 5 ⟨g9, 0, none⟩ c9 TX Tryz.underlying42 Tryz.underlying5 Tryz.underlying9 (fun j hj => by
              rw [Addr.add_lit, Nat.zero_add]
              refine (HO7.out.cellAt j (by omega)).trans ?_
              simp [Lib.byteCells, List.getElem?_eq_getElem hj])
          have hrv := HRV.out
          generalize TX.length = M at hcv hrv hTXl
          by_cases hbig : 1048576 < M
          · rw [if_pos hbig] at hrv
            have HR := Lib.hid hrv
            have hb1 : (1048576 : Int) < (M : Int) := by omega
            clear hrv hbig
            go_wp2
            go_ret2
            exact ⟨by rw [HR.out]; rfl, HBU.out.trans (HB7.out.mono HBU.out.size)⟩
          · rw [if_neg hbig] at hrv
            have HR := Lib.hid hrv
            have hb1 : ¬ (1048576 : Int) < (M : Int) := by omega
            clear hrv hbig
            go_wp2
            go_ret2
            exact ⟨by rw [HR.out]; rfl, HBU.out.trans (HB7.out.mono HBU.out.size)⟩
theorem refScrPrint_any (x : SV) (w : World) (h : x.Sees w) (hi : x.In) :
    Calls Tryz.prog 12 #[x.v] w fun e w' => e = .returned (.tuple #[.string (S x.print.1), .int .i64 x.print.2]) ∧ Below w.heap.size w w' := by
  by_cases h0 : x.check = 0
  · refine (refScrPrint_good x w h hi h0).mono fun e w' ⟨h1, h2⟩ => ⟨?_, h2⟩
    rw [h1]
    have e0 : x.print = if 1048576 < x.text.length then ([], 234) else (x.text, 0) := by
      unfold SV.print scrPrintS
      rw [if_pos (show scrCheckS x.c x.s (progsV x.P) x.k x.d = 0 from h0)]
      rfl
    rw [e0]
    by_cases hb : 1048576 < x.text.length
    · rw [if_pos hb, if_pos hb]; rfl
    · rw [if_neg hb, if_neg hb]
  · refine (refScrPrint_bad x w h h0).mono fun e w' ⟨h1, h2⟩ => ⟨?_, h2⟩
    rw [h1]
    have e0 : x.print = ([], x.check) := by
      unfold SV.print scrPrintS
      rw [if_neg (show ¬ scrCheckS x.c x.s (progsV x.P) x.k x.d = 0 from h0)]
      rfl
    rw [e0]
    rfl
end Go.Proofs.YtoiokbdipcecnaaGreatDoor
namespace Go.Proofs.YtoiokbdipcecnaaGreatDoor
open Go.RowKit
set_option maxRecDepth 100000
set_option maxHeartbeats 2000000 in
theorem ScriptPrints_any (x : SV) (w : World) (he : Env w) (h : x.Sees w) (hi : x.In) : Calls Tryz.prog 5 #[x.v] w fun e w' => e = .returned (.bool true) ∧ Below w.heap.size w w' := by
  have hc := fun W (hb : Below w.heap.size w W) => scrPrint_any x W (he.below hb) (h.below hb) hi
  have hr := fun W (hb : Below w.heap.size w W) => refScrPrint_any x W (h.below hb) hi
  obtain ⟨T, K, hK⟩ : ∃ T K, x.print = (T, K) := ⟨_, _, rfl⟩
  rw [hK] at hc hr
  unfold SV.v at hc hr ⊢
  generalize x.c.getD 0 0 = c0 at *
  generalize x.c.getD 1 0 = c1 at *
  generalize x.c.getD 2 0 = c2 at *
  generalize x.c.getD 3 0 = c3 at *
  generalize x.c.getD 4 0 = c4 at *
  generalize x.c.getD 5 0 = c5 at *
  generalize x.s.length = ns at *
  generalize x.P.length = np at *
  generalize x.k.length = nk at *
  have HC := Lib.hid hc
  have HR := Lib.hid hr
  have HE := Lib.hid he
  clear hc hr he h hi hK
  go_enter Tryz.func5, Tryz.ntmps5
  go_upto_region 2 with (go_at_call 8; go_must (refine (awake23_any _ (HE.out.below ((Below.refl _ _).alloc (Nat.le_refl _) _))).mono ?_; rintro e w1 ⟨rfl, hb1⟩))
  have q1 := (hb1.block _ (by simp)).trans (heap_new w _ w.heap.size rfl)
  have HB1 := Lib.hid (((Below.refl _ _).alloc (Nat.le_refl _) _).trans (hb1.mono (by simp)) : Below w.heap.size w w1)
  have Q1 := Lib.hid q1
  have k0 := cell_of_row _ _ 0 _ _ _ q1
  have k1 := cell_of_row _ _ 1 _ _ _ q1
  have k2 := cell_of_row _ _ 2 _ _ _ q1
  have k3 := cell_of_row _ _ 3 _ _ _ q1
  have k4 := cell_of_row _ _ 4 _ _ _ q1
  have k5 := cell_of_row _ _ 5 _ _ _ q1
  have k6 := cell_of_row _ _ 6 _ _ _ q1
  have k7 := cell_of_row _ _ 7 _ _ _ q1
  have k8 := cell_of_row _ _ 8 _ _ _ q1
  have k9 := cell_of_row _ _ 9 _ _ _ q1
  have hlw : w.heap.size < w1.heap.size := lt_of_block q1
  clear hb1 q1
  go_upto_region 3 with (go_at_call 11; go_must (refine (HC.out _ HB1.out).mono ?_; rintro e w2 ⟨rfl, hb2⟩))
  have HB2 := Lib.hid (HB1.out.trans (hb2.mono HB1.out.size))
  have q2 := (hb2.block _ hlw).trans Q1.out
  clear k0 k1 k2 k3 k4 k5 k6 k7 k8 k9
  have k0 := cell_of_row _ _ 0 _ _ _ q2
  have k1 := cell_of_row _ _ 1 _ _ _ q2
  have k2 := cell_of_row _ _ 2 _ _ _ q2
  have k3 := cell_of_row _ _ 3 _ _ _ q2
  have k4 := cell_of_row _ _ 4 _ _ _ q2
  have k5 := cell_of_row _ _ 5 _ _ _ q2
  have k6 := cell_of_row _ _ 6 _ _ _ q2
  have k7 := cell_of_row _ _ 7 _ _ _ q2
  have k8 := cell_of_row _ _ 8 _ _ _ q2
  have k9 := cell_of_row _ _ 9 _ _ _ q2
  clear hb2 q2
  go_wp2_with (go_at_call 12; go_must (refine (HR.out _ HB2.out).mono ?_; rintro e w3 ⟨rfl, hb3⟩; have HB3 := Lib.hid (HB2.out.trans (hb3.mono HB2.out.size)); clear hb3))
  go_ret
  exact ⟨by simp, HB3.out⟩
open Go.ChangeShapes Go.WideShapes Go.ChangeAt in
theorem scriptPrints_law {H : Type} (enc : TypeId × Value → H) {W : World} {base : Nat} {args : Array Value} {ds gs : List (DataW H)} {before : List MemPlace}
    (hval : ∀ (j : Nat) t v, Tryz.f5.params[j]? = some t → args[j]? = some v → Value.okWide Tryz.prog W .any base t v)
    (hW : DataW.Whole enc Tryz.prog Tryz.f5.params.toList Rows.scriptPrintsSpec.vars false W args.toList ds gs before)
    (_hreach : (DataW.weightsEach Tryz.prog (Tryz.f5.params.toList ++ (OpenSpec.ofChange Rows.scriptPrintsSpec).bare.plain.varTypes Tryz.prog) (ds ++ gs)).all (· ≤ reachBytes) = true) (he : Env W) :
    Calls Tryz.prog 5 args W fun e W' => ∃ v, e = .returned v ∧ Rows.scriptPrintsSpec.post enc Tryz.prog Tryz.f5 false true false false W args v W' := by
  have hW' := hW
  obtain ⟨p, q, hA0, hV, rfl, hfz, hnd⟩ := hW
  have hA : DataW.TrodAll enc Tryz.prog W 0 (fun _ => true) true Tryz.f5.params.toList args.toList ds p := hA0
  rw [Tryz.params5] at hA hval
  obtain ⟨v0, d0, rfl, rfl, h0⟩ := trodAll_one hA
  obtain ⟨x, rfl, hs, hi⟩ := script_open (hval 0 _ _ rfl rfl) h0
  exact (ScriptPrints_any x W he hs hi).mono fun e w' ⟨h1, h2⟩ => ⟨_, h1, law_post laidOut hW' rfl rfl rfl Tryz.underlying4 (by kernel_rfl) h2⟩
end Go.Proofs.YtoiokbdipcecnaaGreatDoor
