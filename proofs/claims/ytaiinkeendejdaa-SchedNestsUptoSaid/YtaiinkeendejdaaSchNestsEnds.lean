/-
  quash/quashlaw04.SchedNests from every start: it answers true. No condition.
  And: quash/quashlaw04.SchedNests: its step as a step of Run; what stands behind the call of Run. No condition.
  And: quash/quashlaw04.SchedNests' step behind its own call of Play, alone. No condition.
  And: quash/quashlaw04.SchedNests: what stands ahead of the call of Run, alone. No condition.
-/
import Derived.Test.YtaiinkeendejdaaSchRunsD
import Derived.Test.YtaiinkeendejdaaSchRunsEnds
namespace Go.Proofs.Ytaiinkeendejdaa
open Go.RowKit
set_option maxRecDepth 100000
noncomputable def bodyNests : Code := (Try.f7).body.getD .skip
noncomputable def pNests : Code := match bodyNests with | .seq _ (.seq _ (.seq c _)) => c | _ => .skip
noncomputable def qNests : Code := match bodyNests with | .seq _ (.seq _ (.seq _ (.seq c _))) => c | _ => .skip
noncomputable def kNests : Code := match bodyNests with | .seq _ (.seq _ (.seq _ (.seq _ (.seq c _)))) => c | _ => .skip
noncomputable def wNests : Code := match bodyNests with | .seq _ (.seq _ (.seq _ (.seq _ (.seq _ (.seq c _))))) => c | _ => .skip
noncomputable def fNests : Code := match bodyNests with | .seq _ (.seq _ (.seq _ (.seq _ (.seq _ (.seq _ (.seq c _)))))) => c | _ => .skip
noncomputable def atNests : Code := match bodyNests with | .seq _ (.seq _ (.seq _ (.seq _ (.seq _ (.seq _ (.seq _ (.seq c _))))))) => c | _ => .skip
noncomputable def fineNests : Code := match bodyNests with | .seq _ (.seq _ (.seq _ (.seq _ (.seq _ (.seq _ (.seq _ (.seq _ (.seq c _)))))))) => c | _ => .skip
theorem pNests_lone : codeC (opW Try.prog (fun f => lones.contains f) (bare 0)) pNests = true := by kernel_rfl
theorem qNests_lone : codeC (opW Try.prog (fun f => lones.contains f) (bare 0)) qNests = true := by kernel_rfl
theorem kNests_lone : codeC (opW Try.prog (fun f => lones.contains f) (bare 0)) kNests = true := by kernel_rfl
theorem wNests_lone : codeC (opW Try.prog (fun f => lones.contains f) (bare 0)) wNests = true := by kernel_rfl
theorem fNests_lone : codeC (opW Try.prog (fun f => lones.contains f) (bare 0)) fNests = true := by kernel_rfl
theorem atNests_lone : codeC (opW Try.prog (fun f => lones.contains f) (bare 0)) atNests = true := by kernel_rfl
theorem fineNests_lone : codeC (opW Try.prog (fun f => lones.contains f) (bare 0)) fineNests = true := by kernel_rfl
set_option maxHeartbeats 2000000 in
theorem nests_p {ao bo pa : Option Addr} {n cc n2 c2 np pc : Nat} {x3 x4 x5 x8 x9 x10 x11 x12 x13 x14 x15 x16 x17 x18 x19 x20 x21 x22 x23 x24 x25 x26 x27 x28 x29 x30 x31 x32 x33 x34 x35 x36 x37 x38 x39 x40 x41 x42 x43 x44 x45 x46 x47 x48 x49 x50 x51 x52 x53 x54 x55 x56 x57 x58 x59 x60 x61 x62 : Value} {L : List PV} {w : World} (hL : L.length = n) (hs : SeesV w ao L) (hp : PVs (fun x => x < w.heap.size) w L) :
    pNests.wp Try.prog (fun e a' w' => e = .normal ∧ a'.defers = [] ∧ ∃ pvb ro rc y20 y21, a'.tmps = #[.slice ao n cc, .slice bo n2 c2, .slice pa np pc, x3, x4, x5, .bool false, .bool true, .pointer (some ⟨pvb, 0, none⟩), x9, x10, x11, x12, x13, x14, x15, x16, x17, x18, x19, y20, y21, x22, x23, x24, x25, x26, x27, x28, x29, x30, x31, x32, x33, x34, x35, x36, x37, x38, x39, x40, x41, x42, x43, x44, x45, x46, x47, x48, x49, x50, x51, x52, x53, x54, x55, x56, x57, x58, x59, x60, x61, x62] ∧ PVar L (cutL L).length pvb ro rc w w') ⟨#[.slice ao n cc, .slice bo n2 c2, .slice pa np pc, x3, x4, x5, .bool false, .bool true, x8, x9, x10, x11, x12, x13, x14, x15, x16, x17, x18, x19, x20, x21, x22, x23, x24, x25, x26, x27, x28, x29, x30, x31, x32, x33, x34, x35, x36, x37, x38, x39, x40, x41, x42, x43, x44, x45, x46, x47, x48, x49, x50, x51, x52, x53, x54, x55, x56, x57, x58, x59, x60, x61, x62], []⟩ w := by
  simp only [pNests, bodyNests, Try.f7, Option.getD_some]
  have HS := Lib.hid hs
  have HL := Lib.hid hL
  have HP := Lib.hid hp
  clear hs hL hp
  go_wp2_with (first | (go_at_call 10; go_must (refine (some_any ao n cc L _ HL.out HS.out HP.out).mono ?_; rintro e w1 ⟨v, rfl, hown, hB⟩; obtain ⟨ro, rc, rfl, hpv⟩ := PVar.of HP.out hown hB rfl)))
  exact ⟨ro, rc, hpv⟩
set_option maxHeartbeats 2000000 in
theorem nests_q {ao bo pa : Option Addr} {n cc n2 c2 np pc : Nat} {pvb : Nat} {x3 x4 x5 x9 x10 x11 x12 x13 x14 x15 x16 x17 x18 x19 x20 x21 x22 x23 x24 x25 x26 x27 x28 x29 x30 x31 x32 x33 x34 x35 x36 x37 x38 x39 x40 x41 x42 x43 x44 x45 x46 x47 x48 x49 x50 x51 x52 x53 x54 x55 x56 x57 x58 x59 x60 x61 x62 : Value} {L : List PV} {w : World} (hL : L.length = n2) (hs : SeesV w bo L) (hp : PVs (fun x => x < w.heap.size) w L) :
    qNests.wp Try.prog (fun e a' w' => e = .normal ∧ a'.defers = [] ∧ ∃ qvb ro rc y22 y23, a'.tmps = #[.slice ao n cc, .slice bo n2 c2, .slice pa np pc, x3, x4, x5, .bool false, .bool true, .pointer (some ⟨pvb, 0, none⟩), .pointer (some ⟨qvb, 0, none⟩), x10, x11, x12, x13, x14, x15, x16, x17, x18, x19, x20, x21, y22, y23, x24, x25, x26, x27, x28, x29, x30, x31, x32, x33, x34, x35, x36, x37, x38, x39, x40, x41, x42, x43, x44, x45, x46, x47, x48, x49, x50, x51, x52, x53, x54, x55, x56, x57, x58, x59, x60, x61, x62] ∧ PVar L (cutL L).length qvb ro rc w w') ⟨#[.slice ao n cc, .slice bo n2 c2, .slice pa np pc, x3, x4, x5, .bool false, .bool true, .pointer (some ⟨pvb, 0, none⟩), x9, x10, x11, x12, x13, x14, x15, x16, x17, x18, x19, x20, x21, x22, x23, x24, x25, x26, x27, x28, x29, x30, x31, x32, x33, x34, x35, x36, x37, x38, x39, x40, x41, x42, x43, x44, x45, x46, x47, x48, x49, x50, x51, x52, x53, x54, x55, x56, x57, x58, x59, x60, x61, x62], []⟩ w := by
  simp only [qNests, bodyNests, Try.f7, Option.getD_some]
  have HS := Lib.hid hs
  have HL := Lib.hid hL
  have HP := Lib.hid hp
  clear hs hL hp
  go_wp2_with (first | (go_at_call 10; go_must (refine (some_any bo n2 c2 L _ HL.out HS.out HP.out).mono ?_; rintro e w1 ⟨v, rfl, hown, hB⟩; obtain ⟨ro, rc, rfl, hpv⟩ := PVar.of HP.out hown hB rfl)))
  exact ⟨ro, rc, hpv⟩
set_option maxHeartbeats 2000000 in
theorem nests_k {ao bo pa : Option Addr} {n cc n2 c2 np pc : Nat} {pvb qvb : Nat} {x3 x4 x5 x10 x11 x12 x13 x14 x15 x16 x17 x18 x19 x20 x21 x22 x23 x24 x25 x26 x27 x28 x29 x30 x31 x32 x33 x34 x35 x36 x37 x38 x39 x40 x41 x42 x43 x44 x45 x46 x47 x48 x49 x50 x51 x52 x53 x54 x55 x56 x57 x58 x59 x60 x61 x62 : Value} {w : World} (hcap : np ≤ pc) (hnp : np ≤ 2000000) :
    kNests.wp Try.prog (fun e a' w' => e = .normal ∧ a'.defers = [] ∧ (∃ y24 y25 y26 y27 y28, a'.tmps = #[.slice ao n cc, .slice bo n2 c2, .slice pa np pc, x3, x4, x5, .bool false, .bool true, .pointer (some ⟨pvb, 0, none⟩), .pointer (some ⟨qvb, 0, none⟩), .pointer (some ⟨w.heap.size, 0, none⟩), x11, x12, x13, x14, x15, x16, x17, x18, x19, x20, x21, x22, x23, y24, y25, y26, y27, y28, x29, x30, x31, x32, x33, x34, x35, x36, x37, x38, x39, x40, x41, x42, x43, x44, x45, x46, x47, x48, x49, x50, x51, x52, x53, x54, x55, x56, x57, x58, x59, x60, x61, x62]) ∧ w'.heap = w.heap.push (.cells #[.slice pa (min np 40) pc] 23)) ⟨#[.slice ao n cc, .slice bo n2 c2, .slice pa np pc, x3, x4, x5, .bool false, .bool true, .pointer (some ⟨pvb, 0, none⟩), .pointer (some ⟨qvb, 0, none⟩), x10, x11, x12, x13, x14, x15, x16, x17, x18, x19, x20, x21, x22, x23, x24, x25, x26, x27, x28, x29, x30, x31, x32, x33, x34, x35, x36, x37, x38, x39, x40, x41, x42, x43, x44, x45, x46, x47, x48, x49, x50, x51, x52, x53, x54, x55, x56, x57, x58, x59, x60, x61, x62], []⟩ w := by
  simp only [kNests, bodyNests, Try.f7, Option.getD_some]
  obtain ⟨m, hm⟩ : ∃ m, m = min np 40 := ⟨_, rfl⟩
  rw [← hm]
  have hmin : (if (40 : Int) < (np : Int) then (40 : Int) else (np : Int)) = (m : Int) := by split <;> omega
  have hlo2 : (0 : Int) ≤ (m : Int) := by omega
  have hhi2 : (m : Int) ≤ (pc : Int) := by omega
  have hsl := fun W => (slice_head Try.underlying23 sizeI pa np pc m (by omega) W).1
  have hsl2 := fun W => (slice_head Try.underlying23 sizeI pa np pc m (by omega) W).2
  have HM := Lib.hid hm
  clear hm
  go_wp2
  all_goals rfl
/-- what a step is to come to, in variables of their own -/
structure WVar (m0 : Option Addr) (M0 c0 : Nat) (E0 : Int) (MS : List Mk) (wvb evb : Nat) (w w' : World) : Prop where
  cell : w'.cell? ⟨wvb, 0, none⟩ = some (.slice m0 M0 c0)
  sees : SeesM w' m0 MS
  err : w'.cell? ⟨evb, 0, none⟩ = some (.int .i64 E0)
  low : w.heap.size ≤ wvb ∧ w.heap.size ≤ evb
  size : w.heap.size ≤ w'.heap.size
  same : ∀ x, x < w.heap.size → w'.heap[x]? = w.heap[x]?
theorem WVar.of {m0 : Option Addr} {M0 c0 : Nat} {E0 : Int} {MS : List Mk} {w w1 w' : World} {t1 t2 : TypeId} (hs : SeesM w1 m0 MS) (hB : Below w.heap.size w w1) (h' : w' = (w1.alloc (.cells #[.slice m0 M0 c0] t1)).alloc (.cells #[.int .i64 E0] t2)) : WVar m0 M0 c0 E0 MS w1.heap.size (w1.heap.size + 1) w w' := by
  have hz := hB.size
  have same1 : ∀ x, x < w1.heap.size → w'.heap[x]? = w1.heap[x]? := fun x hx => by
    rw [h']
    exact (Below.heap_alloc _ _ _ (by simp; omega)).trans (Below.heap_alloc _ _ _ hx)
  have h1 : w'.heap[w1.heap.size]? = some (.cells #[.slice m0 M0 c0] t1) := by
    rw [h']
    exact (Below.heap_alloc _ _ _ (by simp)).trans (heap_new _ _ _ rfl)
  have h2 : w'.heap[w1.heap.size + 1]? = some (.cells #[.int .i64 E0] t2) := by
    rw [h']
    exact heap_new _ _ _ (by simp)
  refine ⟨by rw [cell_of_row _ _ _ _ _ _ h1]; rfl, ?_, by rw [cell_of_row _ _ _ _ _ _ h2]; rfl, ⟨hz, by omega⟩, by rw [h']; simp; omega, fun x hx => (same1 x (by omega)).trans (hB.block x hx)⟩
  obtain ⟨b, o, g1, g2⟩ := hs
  refine ⟨b, o, g1, fun j x hx => ?_⟩
  obtain ⟨k1, k2, k3⟩ := g2 j x hx
  have hb := same1 b (block_lt_of_cell k1)
  exact ⟨(World.cell?_of_block (a := ⟨b, o + j * 3, none⟩) hb).trans k1, (World.cell?_of_block (a := ⟨b, o + (j * 3 + 1), none⟩) hb).trans k2, (World.cell?_of_block (a := ⟨b, o + (j * 3 + 2), none⟩) hb).trans k3⟩
set_option maxHeartbeats 2000000 in
theorem nests_w {ao bo pa : Option Addr} {n cc n2 c2 np pc : Nat} {pvb qvb kvb qm qc kn M0 : Nat} {qo : Option Addr} {E0 : Int} {QS : List (List Int)} {KS : List Int} {MS : List Mk} {x3 x4 x5 x11 x12 x13 x14 x15 x16 x17 x18 x19 x20 x21 x22 x23 x24 x25 x26 x27 x28 x29 x30 x31 x32 x33 x34 x35 x36 x37 x38 x39 x40 x41 x42 x43 x44 x45 x46 x47 x48 x49 x50 x51 x52 x53 x54 x55 x56 x57 x58 x59 x60 x61 x62 : Value} {w : World} (hq : w.cell? ⟨qvb, 0, none⟩ = some (.slice qo qm qc)) (hqs : Plans (fun x => x < w.heap.size) w qo QS) (hql : QS.length = qm) (hk : w.cell? ⟨kvb, 0, none⟩ = some (.slice pa kn pc)) (hks : Sees w pa KS) (hkl : KS.length = kn) (hk4 : kn ≤ 40) (h64 : ∀ x ∈ KS, -9223372036854775808 ≤ x ∧ x ≤ 9223372036854775807) (hR : playR QS KS 5 = (MS, E0)) (hM : MS.length = M0) :
    wNests.wp Try.prog (fun e a' w' => e = .normal ∧ a'.defers = [] ∧ ∃ wvb evb m0 c0 y29 y30 y31 y32 y33 y34, a'.tmps = #[.slice ao n cc, .slice bo n2 c2, .slice pa np pc, x3, x4, x5, .bool false, .bool true, .pointer (some ⟨pvb, 0, none⟩), .pointer (some ⟨qvb, 0, none⟩), .pointer (some ⟨kvb, 0, none⟩), .pointer (some ⟨wvb, 0, none⟩), .pointer (some ⟨evb, 0, none⟩), x13, x14, x15, x16, x17, x18, x19, x20, x21, x22, x23, x24, x25, x26, x27, x28, y29, y30, y31, y32, y33, y34, x35, x36, x37, x38, x39, x40, x41, x42, x43, x44, x45, x46, x47, x48, x49, x50, x51, x52, x53, x54, x55, x56, x57, x58, x59, x60, x61, x62] ∧ WVar m0 M0 c0 E0 MS wvb evb w w') ⟨#[.slice ao n cc, .slice bo n2 c2, .slice pa np pc, x3, x4, x5, .bool false, .bool true, .pointer (some ⟨pvb, 0, none⟩), .pointer (some ⟨qvb, 0, none⟩), .pointer (some ⟨kvb, 0, none⟩), x11, x12, x13, x14, x15, x16, x17, x18, x19, x20, x21, x22, x23, x24, x25, x26, x27, x28, x29, x30, x31, x32, x33, x34, x35, x36, x37, x38, x39, x40, x41, x42, x43, x44, x45, x46, x47, x48, x49, x50, x51, x52, x53, x54, x55, x56, x57, x58, x59, x60, x61, x62], []⟩ w := by
  simp only [wNests, bodyNests, Try.f7, Option.getD_some]
  have HQS := Lib.hid hqs
  have HQL := Lib.hid hql
  have HKS := Lib.hid hks
  have HKL := Lib.hid hkl
  have H64 := Lib.hid h64
  have HR := Lib.hid hR
  have HM := Lib.hid hM
  clear hqs hql hks hkl h64 hR hM
  go_wp2_with (first | (go_at_call 13; go_must (refine (refPlay_any (qa := qo) (qc := qc) (pc := pc) HQS.out HQL.out HKL.out HKS.out (by unfold maxLen; omega) H64.out).mono ?_; rintro e w1 ⟨mv, rfl, hown, hB⟩; rw [HR.out] at hown ⊢; obtain ⟨m0, c0, hmv, hsee, _⟩ := hown.slice; rw [HM.out] at hmv; subst hmv; have hW := WVar.of (M0 := M0) (c0 := c0) (E0 := E0) (t1 := 27) (t2 := 28) hsee hB rfl)))
  exact ⟨_, _, ⟨rfl, rfl⟩, m0, c0, hW⟩
set_option maxHeartbeats 2000000 in
theorem nests_f {ao bo pa : Option Addr} {n cc n2 c2 np pc : Nat} {pvb qvb kvb wvb evb pm pc2 kn M : Nat} {ro : Option Addr} {E : Int} {PS : List (List Int)} {KS : List Int} {MS : List Mk} {x3 x4 x5 x13 x14 x15 x16 x17 x18 x19 x20 x21 x22 x23 x24 x25 x26 x27 x28 x29 x30 x31 x32 x33 x34 x35 x36 x37 x38 x39 x40 x41 x42 x43 x44 x45 x46 x47 x48 x49 x50 x51 x52 x53 x54 x55 x56 x57 x58 x59 x60 x61 x62 : Value} {w : World} (hq : w.cell? ⟨pvb, 0, none⟩ = some (.slice ro pm pc2)) (hqs : Plans (fun x => x < w.heap.size) w ro PS) (hql : PS.length = pm) (hk : w.cell? ⟨kvb, 0, none⟩ = some (.slice pa kn pc)) (hks : Sees w pa KS) (hkl : KS.length = kn) (hk4 : kn ≤ 40) (h64 : ∀ x ∈ KS, -9223372036854775808 ≤ x ∧ x ≤ 9223372036854775807) (hR : playR PS KS 9 = (MS, E)) (hM : MS.length = M) :
    fNests.wp Try.prog (fun e a' w' => e = .normal ∧ a'.defers = [] ∧ ∃ m1 c1 y35 y36 y37 y38 y39 y40, a'.tmps = #[.slice ao n cc, .slice bo n2 c2, .slice pa np pc, x3, x4, x5, .bool false, .bool true, .pointer (some ⟨pvb, 0, none⟩), .pointer (some ⟨qvb, 0, none⟩), .pointer (some ⟨kvb, 0, none⟩), .pointer (some ⟨wvb, 0, none⟩), .pointer (some ⟨evb, 0, none⟩), .slice m1 M c1, .int .i64 E, x15, x16, x17, x18, x19, x20, x21, x22, x23, x24, x25, x26, x27, x28, x29, x30, x31, x32, x33, x34, y35, y36, y37, y38, y39, y40, x41, x42, x43, x44, x45, x46, x47, x48, x49, x50, x51, x52, x53, x54, x55, x56, x57, x58, x59, x60, x61, x62] ∧ SeesM w' m1 MS ∧ Below w.heap.size w w') ⟨#[.slice ao n cc, .slice bo n2 c2, .slice pa np pc, x3, x4, x5, .bool false, .bool true, .pointer (some ⟨pvb, 0, none⟩), .pointer (some ⟨qvb, 0, none⟩), .pointer (some ⟨kvb, 0, none⟩), .pointer (some ⟨wvb, 0, none⟩), .pointer (some ⟨evb, 0, none⟩), x13, x14, x15, x16, x17, x18, x19, x20, x21, x22, x23, x24, x25, x26, x27, x28, x29, x30, x31, x32, x33, x34, x35, x36, x37, x38, x39, x40, x41, x42, x43, x44, x45, x46, x47, x48, x49, x50, x51, x52, x53, x54, x55, x56, x57, x58, x59, x60, x61, x62], []⟩ w := by
  simp only [fNests, bodyNests, Try.f7, Option.getD_some]
  have HQS := Lib.hid hqs
  have HQL := Lib.hid hql
  have HKS := Lib.hid hks
  have HKL := Lib.hid hkl
  have H64 := Lib.hid h64
  have HR := Lib.hid hR
  have HM := Lib.hid hM
  clear hqs hql hks hkl h64 hR hM
  go_wp2_with (first | (go_at_call 13; go_must (refine (refPlay_any (qa := ro) (qc := pc2) (pc := pc) HQS.out HQL.out HKL.out HKS.out (by unfold maxLen; omega) H64.out).mono ?_; rintro e w1 ⟨mv, rfl, hown, hB⟩; rw [HR.out] at hown ⊢; obtain ⟨m0, c0, hmv, hsee, _⟩ := hown.slice; rw [HM.out] at hmv; subst hmv)))
theorem nests_at {ao bo pa : Option Addr} {n cc n2 c2 np pc : Nat} {pvb qvb kvb wvb evb M c1 : Nat} {m1 : Option Addr} {E : Int} {x3 x4 x5 x15 x16 x17 x18 x19 x20 x21 x22 x23 x24 x25 x26 x27 x28 x29 x30 x31 x32 x33 x34 x35 x36 x37 x38 x39 x40 x41 x42 x43 x44 x45 x46 x47 x48 x49 x50 x51 x52 x53 x54 x55 x56 x57 x58 x59 x60 x61 x62 : Value} {w : World} :
    atNests.wp Try.prog (fun e a' w' => e = .normal ∧ a'.defers = [] ∧ a'.tmps = #[.slice ao n cc, .slice bo n2 c2, .slice pa np pc, x3, x4, x5, .bool false, .bool true, .pointer (some ⟨pvb, 0, none⟩), .pointer (some ⟨qvb, 0, none⟩), .pointer (some ⟨kvb, 0, none⟩), .pointer (some ⟨wvb, 0, none⟩), .pointer (some ⟨evb, 0, none⟩), .slice m1 M c1, .int .i64 E, .pointer (some ⟨w.heap.size, 0, none⟩), x16, x17, x18, x19, x20, x21, x22, x23, x24, x25, x26, x27, x28, x29, x30, x31, x32, x33, x34, x35, x36, x37, x38, x39, x40, x41, x42, x43, x44, x45, x46, x47, x48, x49, x50, x51, x52, x53, x54, x55, x56, x57, x58, x59, x60, x61, x62] ∧ w'.heap = w.heap.push (.cells zeros9 39)) ⟨#[.slice ao n cc, .slice bo n2 c2, .slice pa np pc, x3, x4, x5, .bool false, .bool true, .pointer (some ⟨pvb, 0, none⟩), .pointer (some ⟨qvb, 0, none⟩), .pointer (some ⟨kvb, 0, none⟩), .pointer (some ⟨wvb, 0, none⟩), .pointer (some ⟨evb, 0, none⟩), .slice m1 M c1, .int .i64 E, x15, x16, x17, x18, x19, x20, x21, x22, x23, x24, x25, x26, x27, x28, x29, x30, x31, x32, x33, x34, x35, x36, x37, x38, x39, x40, x41, x42, x43, x44, x45, x46, x47, x48, x49, x50, x51, x52, x53, x54, x55, x56, x57, x58, x59, x60, x61, x62], []⟩ w := by
  simp only [atNests, bodyNests, Try.f7, Option.getD_some]
  go_wp2
  all_goals rfl
theorem nests_fine {ao bo pa : Option Addr} {n cc n2 c2 np pc : Nat} {pvb qvb kvb wvb evb M c1 atb : Nat} {m1 : Option Addr} {E : Int} {x3 x4 x5 x16 x17 x18 x19 x20 x21 x22 x23 x24 x25 x26 x27 x28 x29 x30 x31 x32 x33 x34 x35 x36 x37 x38 x39 x40 x41 x42 x43 x44 x45 x46 x47 x48 x49 x50 x51 x52 x53 x54 x55 x56 x57 x58 x59 x60 x61 x62 : Value} {w : World} :
    fineNests.wp Try.prog (fun e a' w' => e = .normal ∧ a'.defers = [] ∧ a'.tmps = #[.slice ao n cc, .slice bo n2 c2, .slice pa np pc, x3, x4, x5, .bool false, .bool true, .pointer (some ⟨pvb, 0, none⟩), .pointer (some ⟨qvb, 0, none⟩), .pointer (some ⟨kvb, 0, none⟩), .pointer (some ⟨wvb, 0, none⟩), .pointer (some ⟨evb, 0, none⟩), .slice m1 M c1, .int .i64 E, .pointer (some ⟨atb, 0, none⟩), .pointer (some ⟨w.heap.size, 0, none⟩), x17, x18, x19, x20, x21, x22, x23, x24, x25, x26, x27, x28, x29, x30, x31, x32, x33, x34, x35, x36, x37, x38, x39, x40, x41, x42, x43, x44, x45, x46, x47, x48, x49, x50, x51, x52, x53, x54, x55, x56, x57, x58, x59, x60, x61, x62] ∧ w'.heap = w.heap.push (.cells #[.bool true] 4)) ⟨#[.slice ao n cc, .slice bo n2 c2, .slice pa np pc, x3, x4, x5, .bool false, .bool true, .pointer (some ⟨pvb, 0, none⟩), .pointer (some ⟨qvb, 0, none⟩), .pointer (some ⟨kvb, 0, none⟩), .pointer (some ⟨wvb, 0, none⟩), .pointer (some ⟨evb, 0, none⟩), .slice m1 M c1, .int .i64 E, .pointer (some ⟨atb, 0, none⟩), x16, x17, x18, x19, x20, x21, x22, x23, x24, x25, x26, x27, x28, x29, x30, x31, x32, x33, x34, x35, x36, x37, x38, x39, x40, x41, x42, x43, x44, x45, x46, x47, x48, x49, x50, x51, x52, x53, x54, x55, x56, x57, x58, x59, x60, x61, x62], []⟩ w := by
  simp only [fineNests, bodyNests, Try.f7, Option.getD_some]
  go_wp2
  all_goals rfl
end Go.Proofs.Ytaiinkeendejdaa
namespace Go.Proofs.Ytaiinkeendejdaa
open Go.RowKit
open Go.ConcN (upd upd_ne upd_same)
set_option maxRecDepth 100000
noncomputable def bodyNest1 : Code := (Try.f22).body.getD .skip
noncomputable def restNest1 : Code := match bodyNest1 with | .seq _ (.seq _ c) => c | _ => .skip
theorem restN1_lone : codeC (opW Try.prog (fun f => lones.contains f) (bare 0)) restNest1 = true := by kernel_rfl
/-- what a step leaves -/
structure NestStep (fb atb T st st' : Nat) (w w' : World) : Prop where
  fine : w'.cell? ⟨fb, 0, none⟩ = some (.bool true)
  step : w'.cell? ⟨atb, T, none⟩ = some (.int .i64 (st' : Nat))
  other : ∀ i, i ≠ T → w'.cell? ⟨atb, i, none⟩ = w.cell? ⟨atb, i, none⟩
  warm : ∀ x i, w'.frozen? ⟨x, i, none⟩ = w.frozen? ⟨x, i, none⟩
  size : w'.heap.size = w.heap.size
  same : ∀ x, x ≠ fb → x ≠ atb → w'.heap[x]? = w.heap[x]?
def nextAt (l : List Int) (st : Nat) : Nat := if st < l.length then st + 1 else st
set_option maxHeartbeats 4000000 in
theorem nest1_rest {N qvb kvb fb evb wvb pvb atb n qc t T st M0 c0 c1 : Nat} {ro m0 m1 : Option Addr} {E0 : Int} {x8 x12 x13 x14 x15 x16 x17 x18 x19 x20 x21 x22 x23 x24 x25 x26 x27 x28 x29 x30 x31 x32 x33 x34 x35 x36 x37 x38 x39 x40 x41 x42 x43 x44 x45 x46 x47 x48 x49 x50 x51 x52 x53 x54 x55 x56 x57 x58 x59 x60 x61 x62 x63 x64 : Value} {ps : List (List Int)} {l : List Int} {MS : List Mk} {w : World} (hT : T = t + 1) (hf : w.cell? ⟨fb, 0, none⟩ = some (.bool true)) (hff : w.frozen? ⟨fb, 0, none⟩ = false) (he : w.cell? ⟨evb, 0, none⟩ = some (.int .i64 E0)) (hw : w.cell? ⟨wvb, 0, none⟩ = some (.slice m0 M0 c0)) (hp : w.cell? ⟨pvb, 0, none⟩ = some (.slice ro n qc)) (hrows : Plans (fun x => x < N ∧ x ≠ fb ∧ x ≠ atb) w ro ps) (hl : ps[t]? = some l) (hn : ps.length = n) (h8 : n ≤ 8)
    (hst : w.cell? ⟨atb, T, none⟩ = some (.int .i64 (st : Nat))) (hfa : w.frozen? ⟨atb, T, none⟩ = false) (hst6 : st < 1000000) (hne : fb ≠ atb) (hpf : pvb ≠ fb) (hpa : pvb ≠ atb) (hs1 : SeesM w m1 MS) (hs0 : SeesM w m0 MS) (hM : MS.length = M0) (hMM : M0 < 1000000) :
    restNest1.wp Try.prog (fun e a' w' => e = .ret ∧ a'.tmps.getD 9 undef = .int .i64 (match l[st]? with | some x => x | none => 4) ∧ NestStep fb atb T st (nextAt l st) w w') ⟨#[.int .i64 (T : Int), .pointer (some ⟨qvb, 0, none⟩), .pointer (some ⟨kvb, 0, none⟩), .pointer (some ⟨fb, 0, none⟩), .pointer (some ⟨evb, 0, none⟩), .pointer (some ⟨wvb, 0, none⟩), .pointer (some ⟨pvb, 0, none⟩), .pointer (some ⟨atb, 0, none⟩), x8, .int .i64 0, .slice m1 M0 c1, .int .i64 E0, x12, x13, x14, x15, x16, x17, x18, x19, x20, x21, x22, x23, x24, x25, x26, x27, x28, x29, x30, x31, x32, x33, x34, x35, x36, x37, x38, x39, x40, x41, x42, x43, x44, x45, x46, x47, x48, x49, x50, x51, x52, x53, x54, x55, x56, x57, x58, x59, x60, x61, x62, x63, x64], []⟩ w := by
  simp only [restNest1, bodyNest1, Try.f22, Option.getD_some]
  have htn : t < n := by rw [← hn]; exact (List.getElem?_eq_some_iff.1 hl).1
  obtain ⟨p, u0, la, lc, rfl, hpK, hpc, hlm, hrow⟩ := hrows t l hl
  obtain ⟨AV, hAV⟩ : ∃ AV, AV = (match l[st]? with | some x => x | none => 4) := ⟨_, rfl⟩
  obtain ⟨SV, hSV⟩ : ∃ SV, SV = nextAt l st := ⟨_, rfl⟩
  rw [← hAV, ← hSV]
  obtain ⟨L, hL⟩ : ∃ L, L = l.length := ⟨_, rfl⟩
  rw [← hL] at hpc hlm
  unfold maxLen at hlm
  have ht1 : decide ((T : Int) < 1) = false := by rw [decide_eq_false_iff_not]; omega
  have ht1b : decide (T < 1) = false := by rw [decide_eq_false_iff_not]; omega
  have ht1c : decide (T = 0) = false := by rw [decide_eq_false_iff_not]; omega
  have ht2 : decide ((n : Int) < (T : Int)) = false := by rw [decide_eq_false_iff_not]; omega
  have ht2b : decide (n < T) = false := by rw [decide_eq_false_iff_not]; omega
  have hlo : (0 : Int) ≤ (T : Int) := by omega
  have hhi : (T : Int) < 9 := by omega
  have hlo3 : (0 : Int) ≤ (t : Int) := by omega
  have hhi3 : (t : Int) < (n : Int) := by omega
  have w1 : IntKind.i64.wrap ((st : Int) + 1) = (st : Int) + 1 := by rw [IntKind.wrap_i64]; omega
  have w3 : IntKind.i64.wrap ((T : Int) - 1) = (t : Int) := by rw [IntKind.wrap_i64]; omega
  have w4 : IntKind.i64.wrap ((st : Int) + 1 - 1) = (st : Int) := by rw [IntKind.wrap_i64]; omega
  have hM6 : M0 ≤ maxLen := by unfold maxLen; omega
  have HL := Lib.hid hL
  have HT := Lib.hid hT
  have HROW := Lib.hid hrow
  have HAV := Lib.hid hAV
  have HSV := Lib.hid hSV
  have HS1 := Lib.hid hs1
  have HS0 := Lib.hid hs0
  have HM := Lib.hid hM
  have HHL := Lib.hid hl
  have HHN := Lib.hid hn
  clear hL hT hrow hrows hAV hSV hs1 hs0 hM hl hn
  go_upto_region 3 with (first | (go_at_call 15; go_must (refine (Same_yes m1 m0 M0 c1 c0 MS _ HM.out HS1.out HS0.out hM6).mono ?_; rintro e w6 ⟨rfl, d6, rfl⟩)))
  obtain ⟨W2, hW2⟩ : ∃ W2, W2 = (w.drewN d6).setCell ⟨fb, 0, none⟩ (.bool true) := ⟨_, rfl⟩
  have hb2 : ∀ x, x ≠ fb → W2.heap[x]? = w.heap[x]? := fun x hx => by rw [hW2]; exact Below.heap_setCell _ _ _ _ hx
  have hf2 : W2.cell? ⟨fb, 0, none⟩ = some (.bool true) := by rw [hW2]; exact World.cell?_setCell_same _ _ _ (show (w.drewN d6).cell? ⟨fb, 0, none⟩ = _ from hf)
  have hz2 : W2.heap.size = w.heap.size := by rw [hW2]; exact World.size_setCell ..
  have hfr2 : ∀ x i, W2.frozen? ⟨x, i, none⟩ = w.frozen? ⟨x, i, none⟩ := fun x i => by rw [hW2]; exact frozen_setCell _ _ _ _
  rw [← hW2]
  have cp2 : W2.cell? ⟨pvb, 0, none⟩ = some (.slice (some ⟨p, u0, none⟩) n qc) := (World.cell?_of_block (a := ⟨pvb, 0, none⟩) (hb2 pvb hpf)).trans hp
  have cs2 : W2.cell? ⟨atb, T, none⟩ = some (.int .i64 (st : Nat)) := (World.cell?_of_block (a := ⟨atb, T, none⟩) (hb2 atb (Ne.symm hne))).trans hst
  have fs2 : W2.frozen? ⟨atb, T, none⟩ = false := (hfr2 atb T).trans hfa
  have cr2 : W2.cell? ⟨p, u0 + t, none⟩ = some (.slice la L lc) := (World.cell?_of_block (a := ⟨p, u0 + t, none⟩) (hb2 p hpK.2.1)).trans hpc
  have HB2 := Lib.hid hb2
  have HF2 := Lib.hid hf2
  have HFR := Lib.hid hfr2
  have HZ := Lib.hid hz2
  have HST := Lib.hid hst
  clear hW2 hb2 hf2 hz2 hfr2 hf hff he hw hp hst hfa hpc
  cases hx : l[st]? with
  | none =>
    have hge : L ≤ st := by rw [HL.out]; exact List.getElem?_eq_none_iff.1 hx
    have hA : AV = 4 := by rw [HAV.out, hx]
    have hS : SV = st := by rw [HSV.out]; unfold nextAt; rw [if_neg (by rw [← HL.out]; omega)]
    subst hA
    have hd : decide ((L : Int) ≤ (st : Int)) = true := by rw [decide_eq_true_eq]; omega
    have hd2 : decide (L ≤ st) = true := by rw [decide_eq_true_eq]; omega
    have HSS := Lib.hid hS
    clear hx hS
    go_quiet (fail)
    go_wp2
    exact ⟨HF2.out, by rw [HSS.out]; exact cs2, fun i hi => World.cell?_of_block (a := ⟨atb, i, none⟩) (HB2.out atb (Ne.symm hne)), HFR.out, HZ.out, fun x h1 _ => HB2.out x h1⟩
  | some x =>
    have hlt : st < L := by rw [HL.out]; exact (List.getElem?_eq_some_iff.1 hx).1
    have hA : AV = x := by rw [HAV.out, hx]
    have hS : SV = st + 1 := by rw [HSV.out]; unfold nextAt; rw [if_pos (by rw [← HL.out]; omega)]
    subst hA
    obtain ⟨q, u, rfl, hqK, hqc⟩ := HROW.out st AV hx
    have hd : decide ((L : Int) ≤ (st : Int)) = false := by rw [decide_eq_false_iff_not]; omega
    have hd2 : decide (L ≤ st) = false := by rw [decide_eq_false_iff_not]; omega
    have hlo5 : (0 : Int) ≤ (st : Int) := by omega
    have hhi5 : (st : Int) < (L : Int) := by omega
    have cq2 : W2.cell? ⟨q, u + st, none⟩ = some (.int .i64 AV) := (World.cell?_of_block (a := ⟨q, u + st, none⟩) (HB2.out q hqK.2.1)).trans hqc
    have HSS := Lib.hid hS
    clear hx hS hqc
    go_quiet (fail)
    rename Nat => nq0
    go_upto_region 6 with (fail)
    obtain ⟨W3, hW3⟩ : ∃ W3, W3 = (W2.drewN nq0).setCell ⟨atb, T, none⟩ (.int .i64 ((st : Int) + 1)) := ⟨_, rfl⟩
    have hb3 : ∀ x, x ≠ atb → W3.heap[x]? = W2.heap[x]? := fun x hx => by rw [hW3]; exact Below.heap_setCell _ _ _ _ hx
    have cs3 : W3.cell? ⟨atb, T, none⟩ = some (.int .i64 ((st : Int) + 1)) := by rw [hW3]; exact World.cell?_setCell_same _ _ _ (show (W2.drewN nq0).cell? ⟨atb, T, none⟩ = _ from cs2)
    have ho3 : ∀ i, i ≠ T → W3.cell? ⟨atb, i, none⟩ = W2.cell? ⟨atb, i, none⟩ := fun i hi => by rw [hW3]; exact World.cell?_setCell_other _ _ _ _ (fun e => hi (congrArg Addr.off e).symm)
    have hz3 : W3.heap.size = W2.heap.size := by rw [hW3]; exact World.size_setCell ..
    have hfr3 : ∀ x i, W3.frozen? ⟨x, i, none⟩ = W2.frozen? ⟨x, i, none⟩ := fun x i => by rw [hW3]; exact frozen_setCell _ _ _ _
    rw [← hW3]
    have cp3 : W3.cell? ⟨pvb, 0, none⟩ = some (.slice (some ⟨p, u0, none⟩) n qc) := (World.cell?_of_block (a := ⟨pvb, 0, none⟩) (hb3 pvb hpa)).trans cp2
    have cr3 : W3.cell? ⟨p, u0 + t, none⟩ = some (.slice (some ⟨q, u, none⟩) L lc) := (World.cell?_of_block (a := ⟨p, u0 + t, none⟩) (hb3 p hpK.2.2)).trans cr2
    have cq3 : W3.cell? ⟨q, u + st, none⟩ = some (.int .i64 AV) := (World.cell?_of_block (a := ⟨q, u + st, none⟩) (hb3 q hqK.2.2)).trans cq2
    have HB3 := Lib.hid hb3
    have HO3 := Lib.hid ho3
    have HZ3 := Lib.hid hz3
    have HF3 := Lib.hid hfr3
    clear hW3 hb3 ho3 hz3 hfr3 cp2 cs2 cr2 cq2 fs2
    go_quiet (fail)
    go_wp2
    refine ⟨(World.cell?_of_block (a := ⟨fb, 0, none⟩) (HB3.out fb hne)).trans HF2.out, by rw [HSS.out]; exact cs3, fun i hi => (HO3.out i hi).trans (World.cell?_of_block (a := ⟨atb, i, none⟩) (HB2.out atb (Ne.symm hne))), fun x i => (HF3.out x i).trans (HFR.out x i), HZ3.out.trans HZ.out, fun x h1 h2 => (HB3.out x h2).trans (HB2.out x h1)⟩
end Go.Proofs.Ytaiinkeendejdaa
namespace Go.Proofs.Ytaiinkeendejdaa
open Go.RowKit Go.Conc Go.ConcR.Gen Go.ConcN.Gen
open Go.ConcN (sumTo upd sumTo_upd upd_ne upd_same WgLive)
set_option maxRecDepth 100000
noncomputable def restNests : Code := match bodyNests with | .seq _ (.seq _ (.seq _ (.seq _ (.seq _ (.seq _ (.seq _ (.seq _ (.seq _ (.seq _ c))))))))) => c | _ => .skip
theorem restN_lone : codeC (opW Try.prog (fun f => lones.contains f) (bare 0)) restNests = true := by kernel_rfl
theorem nm_nest1 : ((Try.f22).name == "runtime.NumGoroutine") = false := by kernel_rfl
set_option maxHeartbeats 2000000 in
theorem nests_rest {ao bo pa : Option Addr} {n cc n2 c2' np pc pvb qvb kvb wvb evb M c1 c2 atb fb : Nat} {m1 m2 : Option Addr} {E : Int} {x3 x4 x5 x19 x20 x21 x22 x23 x24 x25 x26 x27 x28 x29 x30 x31 x32 x33 x34 x35 x36 x37 x38 x39 x40 x41 x42 x43 x44 x45 x46 x47 x48 x49 x50 x51 x52 x53 x54 x55 x56 x57 x58 x59 x60 x61 x62 : Value} {MS : List Mk} {w : World} (hf : w.cell? ⟨fb, 0, none⟩ = some (.bool true)) (h1 : SeesM w m1 MS) (h2 : SeesM w m2 MS) (hM : MS.length = M) (hMM : M < 1000000) :
    restNests.wp Try.prog (fun e a' w' => e = .ret ∧ a'.tmps.getD 6 undef = .bool true ∧ Below w.heap.size w w') ⟨#[.slice ao n cc, .slice bo n2 c2', .slice pa np pc, x3, x4, x5, .bool false, .bool true, .pointer (some ⟨pvb, 0, none⟩), .pointer (some ⟨qvb, 0, none⟩), .pointer (some ⟨kvb, 0, none⟩), .pointer (some ⟨wvb, 0, none⟩), .pointer (some ⟨evb, 0, none⟩), .slice m1 M c1, .int .i64 E, .pointer (some ⟨atb, 0, none⟩), .pointer (some ⟨fb, 0, none⟩), .slice m2 M c2, .int .i64 E, x19, x20, x21, x22, x23, x24, x25, x26, x27, x28, x29, x30, x31, x32, x33, x34, x35, x36, x37, x38, x39, x40, x41, x42, x43, x44, x45, x46, x47, x48, x49, x50, x51, x52, x53, x54, x55, x56, x57, x58, x59, x60, x61, x62], []⟩ w := by
  simp only [restNests, bodyNests, Try.f7, Option.getD_some]
  have hM6 : M ≤ maxLen := by unfold maxLen; omega
  have H1 := Lib.hid h1
  have H2 := Lib.hid h2
  have HM := Lib.hid hM
  clear h1 h2 hM
  go_wp2_with (first | (go_at_call 15; go_must (refine (Same_yes m2 m1 M c2 c1 MS _ HM.out H2.out H1.out hM6).mono ?_; rintro e w6 ⟨rfl, d6, rfl⟩)))
  exact Below.drewK (Below.refl _ _) d6
/-- what all steps read and none turns -/
structure NestFix (K : Nat → Prop) (qvb kvb evb wvb pvb : Nat) (qo pa m0 ro : Option Addr) (qc pc kn M0 c0 rc : Nat) (E0 : Int) (QS PS : List (List Int)) (KS : List Int) (MS : List Mk) (v : World) : Prop where
  low : K qvb ∧ K kvb ∧ K evb ∧ K wvb ∧ K pvb
  cq : v.cell? ⟨qvb, 0, none⟩ = some (.slice qo QS.length qc)
  ck : v.cell? ⟨kvb, 0, none⟩ = some (.slice pa kn pc)
  ce : v.cell? ⟨evb, 0, none⟩ = some (.int .i64 E0)
  cw : v.cell? ⟨wvb, 0, none⟩ = some (.slice m0 M0 c0)
  cp : v.cell? ⟨pvb, 0, none⟩ = some (.slice ro PS.length rc)
  rq : Plans K v qo QS
  rp : Plans K v ro PS
  rk : ∀ (i : Nat) x, KS[i]? = some x → ∃ p o, pa = some ⟨p, o, none⟩ ∧ K p ∧ v.cell? ⟨p, o + i, none⟩ = some (.int .i64 x)
  rm : SeesM v m0 MS
  km : ∀ p o, m0 = some ⟨p, o, none⟩ → MS ≠ [] → K p
theorem SeesM.heapAt {v v' : World} {m0 : Option Addr} {MS : List Mk} (h : SeesM v m0 MS) (hb : ∀ p o, m0 = some ⟨p, o, none⟩ → MS ≠ [] → v'.heap[p]? = v.heap[p]?) : SeesM v' m0 MS := by
  obtain ⟨b, o, h1, h2⟩ := h
  refine ⟨b, o, h1, fun j x hx => ?_⟩
  have hne : MS ≠ [] := fun e => by rw [e] at hx; simp at hx
  have hb := hb b o (h1 hne) hne
  obtain ⟨c1, c2, c3⟩ := h2 j x hx
  exact ⟨(World.cell?_of_block (a := ⟨b, o + j * 3, none⟩) hb).trans c1, (World.cell?_of_block (a := ⟨b, o + (j * 3 + 1), none⟩) hb).trans c2, (World.cell?_of_block (a := ⟨b, o + (j * 3 + 2), none⟩) hb).trans c3⟩
theorem NestFix.at {K : Nat → Prop} {qvb kvb evb wvb pvb : Nat} {qo pa m0 ro : Option Addr} {qc pc kn M0 c0 rc : Nat} {E0 : Int} {QS PS : List (List Int)} {KS : List Int} {MS : List Mk} {v v' : World} (H : NestFix K qvb kvb evb wvb pvb qo pa m0 ro qc pc kn M0 c0 rc E0 QS PS KS MS v) (h : ∀ x, K x → v'.heap[x]? = v.heap[x]?) : NestFix K qvb kvb evb wvb pvb qo pa m0 ro qc pc kn M0 c0 rc E0 QS PS KS MS v' := by
  obtain ⟨l1, l2, l3, l4, l5⟩ := H.low
  have ct : ∀ {x i : Nat} {u : Value}, K x → v.cell? ⟨x, i, none⟩ = some u → v'.cell? ⟨x, i, none⟩ = some u := fun {x i u} hx hu => (World.cell?_of_block (a := ⟨x, i, none⟩) (h x hx)).trans hu
  exact ⟨H.low, ct l1 H.cq, ct l2 H.ck, ct l3 H.ce, ct l4 H.cw, ct l5 H.cp, H.rq.at (fun _ h => h) h, H.rp.at (fun _ h => h) h, fun i x hx => by
    obtain ⟨p, o, g1, g2, g3⟩ := H.rk i x hx
    exact ⟨p, o, g1, g2, ct g2 g3⟩, H.rm.heapAt fun p o e hne => h p (H.km p o e hne), H.km⟩
theorem still_size {N₀ : Nat} {v v' : World} (hs : N₀ ≤ v.heap.size) (h : ∀ x, x < N₀ → v'.heap[x]? = v.heap[x]?) : N₀ ≤ v'.heap.size := by
  rcases Nat.lt_or_ge v'.heap.size N₀ with hlt | hge
  · exfalso
    have h1 := h v'.heap.size hlt
    have h2 : v'.heap[v'.heap.size]? = none := Array.getElem?_eq_none_iff.2 (Nat.le_refl _)
    rw [h2] at h1
    have := Array.getElem?_eq_none_iff.1 h1.symm
    omega
  · exact hge
structure NestSt (N₀ fb atb n : Nat) (F : World → Prop) (m : Nat) (s : Nat → Nat) (O : Nat → Prop) (v : World) : Prop where
  own : ∀ x, O x ↔ x = fb ∨ x = atb
  low : fb < N₀ ∧ atb < N₀ ∧ fb ≠ atb
  size : N₀ ≤ v.heap.size
  fix : F v
  cf : v.cell? ⟨fb, 0, none⟩ = some (.bool true)
  cells : ∀ t, t < n → t < 8 → v.cell? ⟨atb, t + 1, none⟩ = some (.int .i64 (s t : Nat)) ∧ s t ≤ m
  warm : ∀ i, v.frozen? ⟨fb, i, none⟩ = false ∧ v.frozen? ⟨atb, i, none⟩ = false
theorem NestSt.still (N₀ fb atb n : Nat) (F : World → Prop) (hF : ∀ v v', F v → (∀ x, x < N₀ ∧ x ≠ fb ∧ x ≠ atb → v'.heap[x]? = v.heap[x]?) → F v') : JStill N₀ (NestSt N₀ fb atb n F) := fun m s O v v' H h => by
  obtain ⟨l1, l2, l3⟩ := H.low
  have bo : v'.heap[fb]? = v.heap[fb]? := h fb (.inl l1)
  have bs : v'.heap[atb]? = v.heap[atb]? := h atb (.inl l2)
  exact ⟨H.own, H.low, still_size H.size fun x hx => h x (.inl hx), hF v v' H.fix fun x hx => h x (.inl hx.1), (World.cell?_of_block (a := ⟨fb, 0, none⟩) bo).trans H.cf, fun t ht h8 => ⟨(World.cell?_of_block (a := ⟨atb, t + 1, none⟩) bs).trans (H.cells t ht h8).1, (H.cells t ht h8).2⟩,
    fun i => ⟨(World.frozen?_of_block (a := ⟨fb, i, none⟩) bo).trans (H.warm i).1, (World.frozen?_of_block (a := ⟨atb, i, none⟩) bs).trans (H.warm i).2⟩⟩
section
variable {Post : Value → World → Prop}
set_option maxHeartbeats 4000000 in
theorem nest_step {N₀ fb atb qvb kvb evb wvb pvb : Nat} {qo pa m0 ro : Option Addr} {qc pc kn M0 c0 rc : Nat} {E0 : Int} {QS PS : List (List Int)} {KS : List Int} {MS : List Mk} (h8 : PS.length ≤ 8) (hq9 : QS.length ≤ 9) (hKL : KS.length = kn) (hk40 : kn ≤ 40) (h64 : ∀ x ∈ KS, -9223372036854775808 ≤ x ∧ x ≤ 9223372036854775807) (hR : playR QS KS 5 = (MS, E0)) (hM : MS.length = M0) (hMM : M0 < 1000000) :
    StepC Try.prog 64 Post 22 #[.pointer (some ⟨qvb, 0, none⟩), .pointer (some ⟨kvb, 0, none⟩), .pointer (some ⟨fb, 0, none⟩), .pointer (some ⟨evb, 0, none⟩), .pointer (some ⟨wvb, 0, none⟩), .pointer (some ⟨pvb, 0, none⟩), .pointer (some ⟨atb, 0, none⟩)] PS.length
      (NestSt N₀ fb atb PS.length (NestFix (fun x => x < N₀ ∧ x ≠ fb ∧ x ≠ atb) qvb kvb evb wvb pvb qo pa m0 ro qc pc kn M0 c0 rc E0 QS PS KS MS)) (planNext PS) := by
  intro b h c cs v w m s O k hear hwt hk1 hkn hm H hs he hO hcaps hty fin
  obtain ⟨t, rfl⟩ : ∃ t : Nat, k = (t : Int) + 1 := ⟨(k - 1).toNat, by omega⟩
  have ht : t < PS.length := by omega
  have etn : ((t : Int) + 1 - 1).toNat = t := by omega
  obtain ⟨l, hl⟩ : ∃ l, PS[t]? = some l := ⟨_, List.getElem?_eq_getElem ht⟩
  have hgl : PS.getD t [] = l := by rw [List.getD_eq_getElem?_getD, hl]; rfl
  obtain ⟨l1, l2, l3⟩ := H.low
  have X := H.fix
  obtain ⟨⟨a1, a2, a3⟩, ⟨b1, b2, b3⟩, ⟨d1, d2, d3⟩, ⟨e1, e2, e3⟩, ⟨f1, f2, f3⟩⟩ := X.low
  obtain ⟨c3, hle⟩ := H.cells t ht (by omega)
  have hnext : planNext PS s ((t : Int) + 1) = ((match l[s t]? with | some x => x | none => 4), upd s t (nextAt l (s t))) := by
    unfold planNext nextAt
    rw [etn, hgl]
    cases hx : l[s t]? with
    | none =>
      have : ¬ s t < l.length := by have := List.getElem?_eq_none_iff.1 hx; omega
      rw [if_neg this]
      have : upd s t (s t) = s := by funext i; by_cases e : i = t
                                     · subst e; exact upd_same _ _ _
                                     · exact upd_ne _ _ e
      rw [this]
    | some x =>
      rw [if_pos (List.getElem?_eq_some_iff.1 hx).1]
  rw [hnext] at fin
  obtain ⟨T, hT⟩ : ∃ T, T = t + 1 := ⟨_, rfl⟩
  have hTi : (t : Int) + 1 = (T : Int) := by omega
  rw [hTi]
  have hsq : b.shun qvb = false := hs.lively X.cq
  have hsk : b.shun kvb = false := hs.lively X.ck
  have hqw : w.cell? ⟨qvb, 0, none⟩ = some (.slice qo QS.length qc) := (hs.cell (a := ⟨qvb, 0, none⟩) hsq).symm.trans X.cq
  have hkw : w.cell? ⟨kvb, 0, none⟩ = some (.slice pa kn pc) := (hs.cell (a := ⟨kvb, 0, none⟩) hsk).symm.trans X.ck
  rw [enter_at _ Try.func22 rfl]
  walk_nrmf Try.f22
  have hF : Off b.shun w w := Off.refl _ _
  have HX := Lib.hid X
  have HH := Lib.hid H
  have HO := Lib.hid hO
  have HTY := Lib.hid hty
  have HSM := Lib.hid hs
  have HN0 := Lib.hid H.size
  have FIN := Lib.hid fin
  have HE := Lib.hid he
  have HR := Lib.hid hR
  have HL := Lib.hid hl
  have HC3 := Lib.hid c3
  have HLE := Lib.hid hle
  have HT := Lib.hid hT
  have HKL := Lib.hid hKL
  have HMM := Lib.hid hM
  have H64 := Lib.hid h64
  clear X H hO hty fin he hR hl c3 hle hT hKL hM h64 hcaps hnext hgl etn hTi hs
  refine At.goes0 (n := 20) ?_
  u_c stepG_seq ro_off2 hF
  u_reg ro_off2 hF
  u_op ro_off2 hF
  u_c stepG_region_end ro_off2 hF
  u_c stepG_seq ro_off2 hF
  u_reg ro_off2 hF
  refine Goes.stop (fun wE q => ?_)
  replace hF := ro_off2 hF q
  clear q
  refine At.ld rfl rfl (by decide) (ad := ⟨qvb, 0, none⟩) (x := .slice qo QS.length qc) (by rw [hF.cell hsq]; exact hqw) hsq (fun _ hv => ?_) ?_
  · exact ⟨by simp [go_sem, execOp, Act.eval, hv], by simp [go_sem, execOp, Act.eval, hv]⟩
  walk_nrm
  refine At.ld rfl rfl (by decide) (ad := ⟨kvb, 0, none⟩) (x := .slice pa kn pc) (by rw [hF.cell hsk]; exact hkw) hsk (fun _ hv => ?_) ?_
  · exact ⟨by simp [go_sem, execOp, Act.eval, hv], by simp [go_sem, execOp, Act.eval, hv]⟩
  walk_nrm
  refine At.list rfl (fun wD q => ⟨_, #[], stepG_call rfl rfl (by decide) rfl Try.func12 nm_play rfl, by simp, ?_⟩)
  replace hF := ro_off2 hF q
  clear q
  walk_nrm
  refine play_whole (v := v) (ps := QS) (l := KS) hear hwt (hF.sim HSM.out) HE.out HTY.out (HX.out.rq.at (fun x hx => ?_) fun _ _ => rfl) rfl (by omega) (.any _) (.any _) (fun i x hx => ?_) HKL.out (by unfold maxLen; omega) H64.out (fun b' v' w' mv D => ?_)
  · have := hx.1
    have := HN0.out
    omega
  · obtain ⟨p, o, g1, _, g3⟩ := HX.out.rk i x hx
    exact ⟨p, o, g1, g3⟩
  rw [HR.out] at D ⊢
  have D : Done b v b' v' w' mv MS := D
  obtain ⟨m1, c1, hmv, hsm1, _⟩ := D.row.slice
  rw [HMM.out] at hmv
  subst hmv
  dsimp only
  rw [Frame.finish_at]
  walk_nrm
  have hF : Off b'.shun w' w' := Off.refl _ _
  refine At.goes0 (n := 20) ?_
  u_op ro_off2 hF
  u_op ro_off2 hF
  u_op ro_off2 hF
  u_op ro_off2 hF
  u_op ro_off2 hF
  u_c stepG_region_end ro_off2 hF
  refine Goes.stop (fun wE q => ?_)
  replace hF := ro_off2 hF q
  clear q
  have hrest := @nest1_rest
  have lrest := restN1_lone
  simp only [restNest1, bodyNest1, Try.f22, Option.getD_some] at hrest
  simp only [restNest1, bodyNest1, Try.f22, Option.getD_some] at lrest
  have hN := HN0.out
  have ct : ∀ {x i : Nat} {u : Value}, x < N₀ → v.cell? ⟨x, i, none⟩ = some u → v'.cell? ⟨x, i, none⟩ = some u := fun {x i u} hx hu => (World.cell?_of_block (a := ⟨x, i, none⟩) (D.same x (by omega))).trans hu
  have cf : ∀ x i, x < N₀ → v'.frozen? ⟨x, i, none⟩ = v.frozen? ⟨x, i, none⟩ := fun x i hx => World.frozen?_of_block (a := ⟨x, i, none⟩) (D.same x (by omega))
  have hs0 : SeesM v' m0 MS := HX.out.rm.heapAt fun p o e hne => D.same p (by have := (HX.out.km p o e hne).1; omega)
  refine At.rest (M := bare) (R := fun a' w2 => a'.tmps.getD 9 undef = .int .i64 (match l[s t]? with | some x => x | none => 4) ∧ NestStep fb atb T (s t) (nextAt l (s t)) v' w2) lones_fun ⟨_, Try.func22⟩ lrest (slots_of fun x hx => .any _) D.even (hF.sim D.sim) (fun T0 => ?_) (fun t' v2 T0 d w2 todo _ he2 hR2 hs2 => ?_)
  · refine Code.wp_mono ?_ (hrest (w := onT v' T0 0) (N := N₀) (ps := PS) (l := l) (MS := MS) HT.out (ct l1 HH.out.cf) ((cf fb 0 l1).trans (HH.out.warm 0).1) (ct d1 HX.out.ce) (ct e1 HX.out.cw) (ct f1 HX.out.cp) (HX.out.rp.at (fun _ h => h) fun x hx => D.same x (by have := hx.1; omega)) HL.out rfl h8 (by rw [HT.out]; exact ct l2 HC3.out) ((cf atb T l2).trans (HH.out.warm T).2) (by have := HLE.out; omega) l3 f2 f3 hsm1 hs0 HMM.out hMM)
    rintro e a' w'' ⟨k1, k2, k3⟩
    exact ⟨k1, k2, ⟨k3.fine, k3.step, k3.other, k3.warm, k3.size, k3.same⟩⟩
  obtain ⟨k2, k3⟩ := hR2
  have k2 : t'.getD 9 undef = .int .i64 (match l[s t]? with | some x => x | none => 4) := k2
  have k3 : NestStep fb atb T (s t) (nextAt l (s t)) v' v2 := ⟨k3.fine, k3.step, k3.other, k3.warm, k3.size, k3.same⟩
  have hzz := D.size
  have hz2 := k3.size
  refine At.list rfl fun w₁ q => ⟨_, #[], stepG_leave rfl rfl Try.func22 (results_tmp rfl _ _ w₁) (events_results_tmp rfl _ _), by simp, ?_⟩
  show At _ _ _ _ _ (G (c.finish (t'.getD 9 undef)) cs) w₁
  rw [k2]
  have same2 : ∀ x, x < v.heap.size → x ≠ fb → x ≠ atb → v2.heap[x]? = v.heap[x]? := fun x hx h1 h2 => (k3.same x h1 h2).trans (D.same x hx)
  refine FIN.out b' v2 w₁ O D.grew ⟨fun x st s' h1 c' h2 => (by rw [hz2]; exact D.tidy.seat x st s' h1 c' h2), fun x hx => (by rw [hz2]; exact D.tidy.wg x hx), fun x hx => (by rw [hz2]; exact D.tidy.rung x hx)⟩
    ⟨HH.out.own, ⟨l1, l2, l3⟩, by omega, HX.out.at fun x hx => same2 x (by have := hx.1; omega) hx.2.1 hx.2.2, k3.fine, fun i hi hi8 => ?_, fun i => ⟨(k3.warm fb i).trans ((cf fb i l1).trans (HH.out.warm i).1), (k3.warm atb i).trans ((cf atb i l2).trans (HH.out.warm i).2)⟩⟩
    (fun x hx => ?_) (fun x hx => .inl hx) ((ro_off2 (Off.refl _ _) q).sim hs2) he2 (by omega) (fun x hx hnO => same2 x hx (fun e => hnO ((HH.out.own x).2 (.inl e))) fun e => hnO ((HH.out.own x).2 (.inr e)))
  · obtain ⟨g1, g2⟩ := HH.out.cells i hi hi8
    show v2.cell? ⟨atb, i + 1, none⟩ = some (.int .i64 (upd s t (nextAt l (s t)) i : Nat)) ∧ upd s t (nextAt l (s t)) i ≤ m + 1
    by_cases e : i = t
    · subst e
      rw [upd_same, ← HT.out]
      refine ⟨k3.step, ?_⟩
      unfold nextAt
      split <;> omega
    · rw [upd_ne _ _ e]
      exact ⟨(k3.other (i + 1) (by have := HT.out; omega)).trans (ct l2 g1), by omega⟩
  · obtain ⟨g1, g2, g3⟩ := HO.out x hx
    exact ⟨(D.grew.F x g3).trans g1, (D.grew.shun x g3).trans g2, by omega⟩
end
end Go.Proofs.Ytaiinkeendejdaa
namespace Go.Proofs.Ytaiinkeendejdaa
open Go.RowKit Go.Conc Go.ConcR.Gen Go.ConcN.Gen
open Go.ConcN (sumTo upd sumTo_upd upd_ne upd_same WgLive)
set_option maxRecDepth 100000
theorem inits_nests : Try.prog.inits.idxOf? 7 = none := by kernel_rfl
theorem Sees.takeK {w : World} {ao : Option Addr} {zs : List Int} (h : Sees w ao zs) (k : Nat) : Sees w ao (zs.take k) := by
  obtain ⟨b, o, h1, h2⟩ := h
  refine ⟨b, o, fun hne => h1 (fun e => hne (by rw [e]; simp)), fun j hj => ?_⟩
  rw [List.length_take] at hj
  have := h2 j (by omega)
  rw [List.getD_eq_getElem?_getD] at this ⊢
  rw [List.getElem?_take, if_pos (by omega)]
  exact this
section
variable {Post : Value → World → Prop}
set_option maxHeartbeats 8000000 in
theorem nests_ends {W : World} {ao bo pa : Option Addr} {n cc n2 c2 np pc : Nat} {L L2 : List PV} {picks : List Int} (hL : L.length = n) (hsees : SeesV W ao L) (hpv : PVs (fun x => x < W.heap.size) W L) (hL2 : L2.length = n2) (hsees2 : SeesV W bo L2) (hpv2 : PVs (fun x => x < W.heap.size) W L2) (hnp : picks.length = np) (hpk : Sees W pa picks) (hcap : np ≤ pc) (hnpm : np ≤ 2000000) (h64 : ∀ x ∈ picks, -9223372036854775808 ≤ x ∧ x ≤ 9223372036854775807)
    (fin : ∀ w, Kept W w → Post (.bool true) w) : Ends Try.prog Post (solo (G (Frame.enter Try.prog 7 #[.slice ao n cc, .slice bo n2 c2, .slice pa np pc] .normal) []) W) #[] := by
  refine ends_of_at (ty := 64) (Z := oddZ W) (fun _ => oddZ_low) even_odd ?_
  rw [enter_at _ Try.func7 rfl]
  walk_nrmf Try.f7
  have K0 := Ends0.start W
  have hear0 : (Bd.start (oddZ W) W).ear = true := rfl
  have hwt0 : (Bd.start (oddZ W) W).wait = none := rfl
  have hcell0 : ∀ a x, W.cell? a = some x → (startV W).cell? a = some x := fun a x h => by
    obtain ⟨cc, t, f, hc⟩ := cells_of_cell h
    exact (World.cell?_of_block (a := a) ((startV_cells hc).trans hc.symm)).trans h
  have hsz0 : (startV W).heap.size = W.heap.size := startV_size
  generalize hb0 : Bd.start (oddZ W) W = b0 at K0 hear0 hwt0
  obtain ⟨v0, hv0⟩ : ∃ v0, v0 = startV W := ⟨_, rfl⟩
  rw [← hv0] at K0 hcell0 hsz0
  have hF : Off b0.shun W W := Off.refl _ _
  refine At.goes0 (n := 10) ?_
  u_c stepG_seq ro_off2 hF
  u_reg ro_off2 hF
  u_op ro_off2 hF
  u_c stepG_region_end ro_off2 hF
  u_c stepG_seq ro_off2 hF
  u_reg ro_off2 hF
  refine Goes.stop (fun wA q => ?_)
  replace hF := ro_off2 hF q
  clear q
  refine At.list rfl (fun wB q => ⟨_, #[], stepG_call rfl rfl (by decide) rfl Try.func9 nm_awake rfl, by simp, ?_⟩)
  replace hF := ro_off2 hF q
  clear q
  walk_nrm
  refine awake_whole (v := v0) hear0 hwt0 (hF.sim K0.sim) K0.even K0.tidy (fun b1 v1 w1 S1 => ?_)
  have K1 := K0.still S1
  have hz1 := S1.size
  rw [Frame.finish_at]
  walk_nrm
  have hF : Off b1.shun w1 w1 := Off.refl _ _
  have hcell1 : ∀ a x, W.cell? a = some x → v1.cell? a = some x := fun a x h => (World.cell?_of_block (a := a) (S1.same a.block (block_lt_of_cell (hcell0 a x h)))).trans (hcell0 a x h)
  refine At.goes0 (n := 20) ?_
  u_op ro_off2 hF
  u_c stepG_region_end ro_off2 hF
  u_c stepG_seq ro_off2 hF
  refine Goes.stop (fun wE q => ?_)
  replace hF := ro_off2 hF q
  clear q
  refine At.piece (c := pNests) (M := bare) (R := fun a' w' => ∃ pvb ro rc y20 y21, a'.tmps = #[.slice ao n cc, .slice bo n2 c2, .slice pa np pc, undef, undef, undef, .bool false, .bool true, .pointer (some ⟨pvb, 0, none⟩), undef, undef, undef, undef, undef, undef, undef, undef, undef, undef, .bool true, y20, y21, undef, undef, undef, undef, undef, undef, undef, undef, undef, undef, undef, undef, undef, undef, undef, undef, undef, undef, undef, undef, undef, undef, undef, undef, undef, undef, undef, undef, undef, undef, undef, undef, undef, undef, undef, undef, undef, undef, undef, undef, undef] ∧ PVar L (cutL L).length pvb ro rc v1 w') lones_fun ⟨_, Try.func7⟩ pNests_lone (slots_of fun x hx => .any _) K1.even (hF.sim K1.sim) (fun T => ?_) (fun t2 v2 T d w2 _ he2 hR hs2 => ?_)
  · refine Code.wp_mono ?_ (nests_p (w := onT v1 T 0) hL (hsees.cells hcell1) (hpv.cells hcell1))
    rintro e a' w'' ⟨k1, _, pvb, ro, rc, y20, y21, k3, k4⟩
    exact ⟨k1, pvb, ro, rc, y20, y21, k3, ⟨k4.sees, k4.pvs, k4.row, k4.cell, k4.low, k4.size, k4.same⟩⟩
  obtain ⟨pvb, ro, rc, y20, y21, ht2, hP0⟩ := hR
  have hP : PVar L (cutL L).length pvb ro rc v1 v2 := ⟨hP0.sees, hP0.pvs, hP0.row, hP0.cell, hP0.low, hP0.size, hP0.same⟩
  clear hP0
  obtain rfl := ht2
  have K2 := K1.piece hP.size hP.same hs2 he2
  have hcell2 : ∀ a x, W.cell? a = some x → v2.cell? a = some x := fun a x h => (World.cell?_of_block (a := a) (hP.same a.block (block_lt_of_cell (hcell1 a x h)))).trans (hcell1 a x h)
  have hF : Off b1.shun w2 w2 := Off.refl _ _
  refine At.goes0 (n := 60) ?_
  u_c stepG_seq ro_off2 hF
  refine Goes.stop (fun wE q => ?_)
  replace hF := ro_off2 hF q
  clear q
  refine At.piece (c := qNests) (M := bare) (R := fun a' w' => ∃ qvb qo qc y22 y23, a'.tmps = #[.slice ao n cc, .slice bo n2 c2, .slice pa np pc, undef, undef, undef, .bool false, .bool true, .pointer (some ⟨pvb, 0, none⟩), .pointer (some ⟨qvb, 0, none⟩), undef, undef, undef, undef, undef, undef, undef, undef, undef, .bool true, y20, y21, y22, y23, undef, undef, undef, undef, undef, undef, undef, undef, undef, undef, undef, undef, undef, undef, undef, undef, undef, undef, undef, undef, undef, undef, undef, undef, undef, undef, undef, undef, undef, undef, undef, undef, undef, undef, undef, undef, undef, undef, undef] ∧ PVar L2 (cutL L2).length qvb qo qc v2 w') lones_fun ⟨_, Try.func7⟩ qNests_lone (slots_of fun x hx => .any _) K2.even (hF.sim K2.sim) (fun T => ?_) (fun t3 v3 T d w3 _ he3 hR hs3 => ?_)
  · refine Code.wp_mono ?_ (nests_q (w := onT v2 T 0) hL2 (hsees2.cells hcell2) (hpv2.cells hcell2))
    rintro e a' w'' ⟨k1, _, qvb, qo, qc, y22, y23, k3, k4⟩
    exact ⟨k1, qvb, qo, qc, y22, y23, k3, ⟨k4.sees, k4.pvs, k4.row, k4.cell, k4.low, k4.size, k4.same⟩⟩
  obtain ⟨qvb, qo, qc, y22, y23, ht3, hQ0⟩ := hR
  have hQ : PVar L2 (cutL L2).length qvb qo qc v2 v3 := ⟨hQ0.sees, hQ0.pvs, hQ0.row, hQ0.cell, hQ0.low, hQ0.size, hQ0.same⟩
  clear hQ0
  obtain rfl := ht3
  have K3 := K2.piece hQ.size hQ.same hs3 he3
  have hcell3 : ∀ a x, W.cell? a = some x → v3.cell? a = some x := fun a x h => (World.cell?_of_block (a := a) (hQ.same a.block (block_lt_of_cell (hcell2 a x h)))).trans (hcell2 a x h)
  have hF : Off b1.shun w3 w3 := Off.refl _ _
  refine At.goes0 (n := 60) ?_
  u_c stepG_seq ro_off2 hF
  refine Goes.stop (fun wE q => ?_)
  replace hF := ro_off2 hF q
  clear q
  refine At.piece (c := kNests) (M := bare) (R := fun a' w' => (∃ y24 y25 y26 y27 y28, a'.tmps = #[.slice ao n cc, .slice bo n2 c2, .slice pa np pc, undef, undef, undef, .bool false, .bool true, .pointer (some ⟨pvb, 0, none⟩), .pointer (some ⟨qvb, 0, none⟩), .pointer (some ⟨v3.heap.size, 0, none⟩), undef, undef, undef, undef, undef, undef, undef, undef, .bool true, y20, y21, y22, y23, y24, y25, y26, y27, y28, undef, undef, undef, undef, undef, undef, undef, undef, undef, undef, undef, undef, undef, undef, undef, undef, undef, undef, undef, undef, undef, undef, undef, undef, undef, undef, undef, undef, undef, undef, undef, undef, undef, undef]) ∧ w'.heap = v3.heap.push (.cells #[.slice pa (min np 40) pc] 23)) lones_fun ⟨_, Try.func7⟩ kNests_lone (slots_of fun x hx => .any _) K3.even (hF.sim K3.sim) (fun T => ?_) (fun t4 v4 T d w4 _ he4 hR hs4 => ?_)
  · refine Code.wp_mono ?_ (nests_k (w := onT v3 T 0) hcap hnpm)
    rintro e a' w'' ⟨k1, _, k3, k4⟩
    exact ⟨k1, k3, k4⟩
  obtain ⟨⟨y24, y25, y26, y27, y28, ht4⟩, hv4⟩ := hR
  have hv4 : v4.heap = v3.heap.push (.cells #[.slice pa (min np 40) pc] 23) := hv4
  obtain rfl := ht4
  have same4 : ∀ x, x < v3.heap.size → v4.heap[x]? = v3.heap[x]? := fun x hx => by rw [hv4, Array.getElem?_push, if_neg (by omega)]
  have hz4 : v4.heap.size = v3.heap.size + 1 := by rw [hv4, Array.size_push]
  have K4 := K3.piece (v' := v4) (w' := w4) (by omega) same4 hs4 he4
  obtain ⟨kvb, hkvb⟩ : ∃ kvb, kvb = v3.heap.size := ⟨_, rfl⟩
  rw [← hkvb]
  obtain ⟨kn, hkn⟩ : ∃ kn, kn = min np 40 := ⟨_, rfl⟩
  have hck4 : v4.cell? ⟨kvb, 0, none⟩ = some (.slice pa kn pc) := by
    have h : v4.heap[kvb]? = some (.cells #[.slice pa kn pc] 23) := by rw [hv4, Array.getElem?_push, if_pos hkvb, hkn]
    rw [cell_of_row _ _ _ _ _ _ h]; rfl
  clear hv4
  obtain ⟨KS, hKS⟩ : ∃ KS, KS = picks.take kn := ⟨_, rfl⟩
  have hKL : KS.length = kn := by rw [hKS, List.length_take]; omega
  have hk40 : kn ≤ 40 := by omega
  have hK64 : ∀ x ∈ KS, -9223372036854775808 ≤ x ∧ x ≤ 9223372036854775807 := fun x hx => h64 x (List.mem_of_mem_take (by rw [← hKS]; exact hx))
  have hks3 : Sees v3 pa KS := by rw [hKS]; exact (hpk.cellsOf hcell3).takeK kn
  have up4 : ∀ a x, v3.cell? a = some x → v4.cell? a = some x := fun a x h => (World.cell?_of_block (a := a) (same4 a.block (block_lt_of_cell h))).trans h
  have hks4 : Sees v4 pa KS := hks3.cellsOf up4
  obtain ⟨QS, hQS⟩ : ∃ QS, QS = (cutL L2).map (·.2.2) := ⟨_, rfl⟩
  have hQL : QS.length = (cutL L2).length := by rw [hQS, List.length_map]
  have hQ9 : QS.length ≤ 9 := by rw [hQL]; exact cutL_le L2
  have hpq3 : Plans (fun x => x < v3.heap.size) v3 qo QS := by rw [hQS]; exact plans_of hQ.sees hQ.row hQ.pvs
  have hpq4 : Plans (fun x => x < v4.heap.size) v4 qo QS := hpq3.at (fun x hx => by omega) same4
  obtain ⟨MS0, hMS0⟩ : ∃ MS0, MS0 = (playR QS KS 5).1 := ⟨_, rfl⟩
  obtain ⟨E0, hE0⟩ : ∃ E0, E0 = (playR QS KS 5).2 := ⟨_, rfl⟩
  have hR0 : playR QS KS 5 = (MS0, E0) := by rw [hMS0, hE0]
  have hMl0 : MS0.length < 1000000 := by rw [hMS0]; exact playR_len _ _ _
  clear hMS0 hE0
  obtain ⟨M0, hM0⟩ : ∃ M0, MS0.length = M0 := ⟨_, rfl⟩
  have hcq4 : v4.cell? ⟨qvb, 0, none⟩ = some (.slice qo QS.length qc) := by rw [hQL]; exact up4 _ _ hQ.cell
  have hF : Off b1.shun w4 w4 := Off.refl _ _
  refine At.goes0 (n := 60) ?_
  u_c stepG_seq ro_off2 hF
  refine Goes.stop (fun wE q => ?_)
  replace hF := ro_off2 hF q
  clear q
  refine At.piece (c := wNests) (M := bare) (R := fun a' w' => ∃ wvb evb m0 c0 y29 y30 y31 y32 y33 y34, a'.tmps = #[.slice ao n cc, .slice bo n2 c2, .slice pa np pc, undef, undef, undef, .bool false, .bool true, .pointer (some ⟨pvb, 0, none⟩), .pointer (some ⟨qvb, 0, none⟩), .pointer (some ⟨kvb, 0, none⟩), .pointer (some ⟨wvb, 0, none⟩), .pointer (some ⟨evb, 0, none⟩), undef, undef, undef, undef, undef, undef, .bool true, y20, y21, y22, y23, y24, y25, y26, y27, y28, y29, y30, y31, y32, y33, y34, undef, undef, undef, undef, undef, undef, undef, undef, undef, undef, undef, undef, undef, undef, undef, undef, undef, undef, undef, undef, undef, undef, undef, undef, undef, undef, undef, undef] ∧ WVar m0 M0 c0 E0 MS0 wvb evb v4 w') lones_fun ⟨_, Try.func7⟩ wNests_lone (slots_of fun x hx => .any _) K4.even (hF.sim K4.sim) (fun T => ?_) (fun t5 v5 T d w5 _ he5 hR hs5 => ?_)
  · refine Code.wp_mono ?_ (nests_w (w := onT v4 T 0) (QS := QS) (KS := KS) (MS := MS0) hcq4 hpq4 rfl hck4 hks4 hKL hk40 hK64 hR0 hM0)
    rintro e a' w'' ⟨k1, _, wvb, evb, m0, c0, y29, y30, y31, y32, y33, y34, k3, k4⟩
    exact ⟨k1, wvb, evb, m0, c0, y29, y30, y31, y32, y33, y34, k3, ⟨k4.cell, k4.sees, k4.err, k4.low, k4.size, k4.same⟩⟩
  obtain ⟨wvb, evb, m0, c0, y29, y30, y31, y32, y33, y34, ht5, hW0⟩ := hR
  have hW : WVar m0 M0 c0 E0 MS0 wvb evb v4 v5 := ⟨hW0.cell, hW0.sees, hW0.err, hW0.low, hW0.size, hW0.same⟩
  clear hW0
  obtain rfl := ht5
  have K5 := K4.piece hW.size hW.same hs5 he5
  have up5 : ∀ a x, v4.cell? a = some x → v5.cell? a = some x := fun a x h => (World.cell?_of_block (a := a) (hW.same a.block (block_lt_of_cell h))).trans h
  obtain ⟨PS, hPS⟩ : ∃ PS, PS = (cutL L).map (·.2.2) := ⟨_, rfl⟩
  have hPL : PS.length = (cutL L).length := by rw [hPS, List.length_map]
  have hP9 : PS.length ≤ 9 := by rw [hPL]; exact cutL_le L
  have hpp2 : Plans (fun x => x < v2.heap.size) v2 ro PS := by rw [hPS]; exact plans_of hP.sees hP.row hP.pvs
  have s25 : ∀ x, x < v2.heap.size → v5.heap[x]? = v2.heap[x]? := fun x hx => (hW.same x (by have := hQ.size; omega)).trans ((same4 x (by have := hQ.size; omega)).trans (hQ.same x hx))
  have hz25 : v2.heap.size ≤ v5.heap.size := by have := hQ.size; have := hW.size; omega
  have hpp5 : Plans (fun x => x < v5.heap.size) v5 ro PS := hpp2.at (fun x hx => by omega) s25
  have hcp5 : v5.cell? ⟨pvb, 0, none⟩ = some (.slice ro PS.length rc) := by rw [hPL]; exact (World.cell?_of_block (a := ⟨pvb, 0, none⟩) (s25 pvb (block_lt_of_cell hP.cell))).trans hP.cell
  have hck5 := up5 _ _ hck4
  have hks5 : Sees v5 pa KS := hks4.cellsOf up5
  obtain ⟨MS, hMS⟩ : ∃ MS, MS = (playR PS KS 9).1 := ⟨_, rfl⟩
  obtain ⟨E, hE⟩ : ∃ E, E = (playR PS KS 9).2 := ⟨_, rfl⟩
  have hRP : playR PS KS 9 = (MS, E) := by rw [hMS, hE]
  have hMl : MS.length < 1000000 := by rw [hMS]; exact playR_len _ _ _
  clear hMS hE
  obtain ⟨M, hM⟩ : ∃ M, MS.length = M := ⟨_, rfl⟩
  have hF : Off b1.shun w5 w5 := Off.refl _ _
  refine At.goes0 (n := 60) ?_
  u_c stepG_seq ro_off2 hF
  refine Goes.stop (fun wE q => ?_)
  replace hF := ro_off2 hF q
  clear q
  refine At.piece (c := fNests) (M := bare) (R := fun a' w' => ∃ m1 c1 y35 y36 y37 y38 y39 y40, a'.tmps = #[.slice ao n cc, .slice bo n2 c2, .slice pa np pc, undef, undef, undef, .bool false, .bool true, .pointer (some ⟨pvb, 0, none⟩), .pointer (some ⟨qvb, 0, none⟩), .pointer (some ⟨kvb, 0, none⟩), .pointer (some ⟨wvb, 0, none⟩), .pointer (some ⟨evb, 0, none⟩), .slice m1 M c1, .int .i64 E, undef, undef, undef, undef, .bool true, y20, y21, y22, y23, y24, y25, y26, y27, y28, y29, y30, y31, y32, y33, y34, y35, y36, y37, y38, y39, y40, undef, undef, undef, undef, undef, undef, undef, undef, undef, undef, undef, undef, undef, undef, undef, undef, undef, undef, undef, undef, undef, undef] ∧ SeesM w' m1 MS ∧ v5.heap.size ≤ w'.heap.size ∧ ∀ x, x < v5.heap.size → w'.heap[x]? = v5.heap[x]?) lones_fun ⟨_, Try.func7⟩ fNests_lone (slots_of fun x hx => .any _) K5.even (hF.sim K5.sim) (fun T => ?_) (fun t6 v6 T d w6 _ he6 hR hs6 => ?_)
  · refine Code.wp_mono ?_ (nests_f (w := onT v5 T 0) (PS := PS) (KS := KS) (MS := MS) hcp5 hpp5 rfl hck5 hks5 hKL hk40 hK64 hRP hM)
    rintro e a' w'' ⟨k1, _, m1, c1, y35, y36, y37, y38, y39, y40, k3, k4, k5⟩
    exact ⟨k1, m1, c1, y35, y36, y37, y38, y39, y40, k3, k4, k5.size, k5.block⟩
  obtain ⟨m1, c1, y35, y36, y37, y38, y39, y40, ht6, hsm6, hz6, same6⟩ := hR
  have hsm6 : SeesM v6 m1 MS := hsm6
  have hz6 : v5.heap.size ≤ v6.heap.size := hz6
  have same6 : ∀ x, x < v5.heap.size → v6.heap[x]? = v5.heap[x]? := same6
  obtain rfl := ht6
  have K6 := K5.piece hz6 same6 hs6 he6
  have hF : Off b1.shun w6 w6 := Off.refl _ _
  refine At.goes0 (n := 60) ?_
  u_c stepG_seq ro_off2 hF
  refine Goes.stop (fun wE q => ?_)
  replace hF := ro_off2 hF q
  clear q
  refine At.piece (c := atNests) (M := bare) (R := fun a' w' => a'.tmps = #[.slice ao n cc, .slice bo n2 c2, .slice pa np pc, undef, undef, undef, .bool false, .bool true, .pointer (some ⟨pvb, 0, none⟩), .pointer (some ⟨qvb, 0, none⟩), .pointer (some ⟨kvb, 0, none⟩), .pointer (some ⟨wvb, 0, none⟩), .pointer (some ⟨evb, 0, none⟩), .slice m1 M c1, .int .i64 E, .pointer (some ⟨v6.heap.size, 0, none⟩), undef, undef, undef, .bool true, y20, y21, y22, y23, y24, y25, y26, y27, y28, y29, y30, y31, y32, y33, y34, y35, y36, y37, y38, y39, y40, undef, undef, undef, undef, undef, undef, undef, undef, undef, undef, undef, undef, undef, undef, undef, undef, undef, undef, undef, undef, undef, undef] ∧ w'.heap = v6.heap.push (.cells zeros9 39)) lones_fun ⟨_, Try.func7⟩ atNests_lone (slots_of fun x hx => .any _) K6.even (hF.sim K6.sim) (fun T => ?_) (fun t7 v7 T d w7 _ he7 hR hs7 => ?_)
  · refine Code.wp_mono ?_ (nests_at (w := onT v6 T 0))
    rintro e a' w'' ⟨k1, _, k3, k4⟩
    exact ⟨k1, k3, k4⟩
  obtain ⟨ht7, hv7⟩ := hR
  have hv7 : v7.heap = v6.heap.push (.cells zeros9 39) := hv7
  obtain rfl := ht7
  obtain ⟨atb, hatb⟩ : ∃ atb, atb = v6.heap.size := ⟨_, rfl⟩
  have hz7 : v7.heap.size = atb + 1 := by rw [hv7, Array.size_push, hatb]
  have same7 : ∀ x, x < atb → v7.heap[x]? = v6.heap[x]? := fun x hx => by rw [hv7, Array.getElem?_push, if_neg (by omega)]
  have K7 := K6.piece (v' := v7) (w' := w7) (by omega) (fun x hx => same7 x (by omega)) hs7 he7
  rw [← hatb]
  have hF : Off b1.shun w7 w7 := Off.refl _ _
  refine At.goes0 (n := 60) ?_
  u_c stepG_seq ro_off2 hF
  refine Goes.stop (fun wE q => ?_)
  replace hF := ro_off2 hF q
  clear q
  refine At.piece (c := fineNests) (M := bare) (R := fun a' w' => a'.tmps = #[.slice ao n cc, .slice bo n2 c2, .slice pa np pc, undef, undef, undef, .bool false, .bool true, .pointer (some ⟨pvb, 0, none⟩), .pointer (some ⟨qvb, 0, none⟩), .pointer (some ⟨kvb, 0, none⟩), .pointer (some ⟨wvb, 0, none⟩), .pointer (some ⟨evb, 0, none⟩), .slice m1 M c1, .int .i64 E, .pointer (some ⟨atb, 0, none⟩), .pointer (some ⟨v7.heap.size, 0, none⟩), undef, undef, .bool true, y20, y21, y22, y23, y24, y25, y26, y27, y28, y29, y30, y31, y32, y33, y34, y35, y36, y37, y38, y39, y40, undef, undef, undef, undef, undef, undef, undef, undef, undef, undef, undef, undef, undef, undef, undef, undef, undef, undef, undef, undef, undef, undef] ∧ w'.heap = v7.heap.push (.cells #[.bool true] 4)) lones_fun ⟨_, Try.func7⟩ fineNests_lone (slots_of fun x hx => .any _) K7.even (hF.sim K7.sim) (fun T => ?_) (fun t8 v8 T d w8 _ he8 hR hs8 => ?_)
  · refine Code.wp_mono ?_ (nests_fine (w := onT v7 T 0))
    rintro e a' w'' ⟨k1, _, k3, k4⟩
    exact ⟨k1, k3, k4⟩
  obtain ⟨ht8, hv8⟩ := hR
  have hv8 : v8.heap = v7.heap.push (.cells #[.bool true] 4) := hv8
  obtain rfl := ht8
  have hz8 : v8.heap.size = atb + 2 := by rw [hv8, Array.size_push, hz7]
  have same8 : ∀ x, x < atb → v8.heap[x]? = v6.heap[x]? := fun x hx => by rw [hv8, Array.getElem?_push, if_neg (by omega)]; exact same7 x hx
  have K8 := K7.piece (v' := v8) (w' := w8) (by omega) (fun x hx => by rw [hv8, Array.getElem?_push, if_neg (by omega)]) hs8 he8
  rw [hz7]
  have hat8 : v8.heap[atb]? = some (.cells zeros9 39) := by rw [hv8, Array.getElem?_push, if_neg (by omega), hv7, Array.getElem?_push, if_pos hatb]
  have hfb8 : v8.heap[atb + 1]? = some (.cells #[.bool true] 4) := by rw [hv8, Array.getElem?_push, if_pos hz7.symm]
  have s58 : ∀ x, x < v5.heap.size → v8.heap[x]? = v5.heap[x]? := fun x hx => (same8 x (by omega)).trans (same6 x hx)
  have up8 : ∀ a x, v5.cell? a = some x → v8.cell? a = some x := fun a x h => (World.cell?_of_block (a := a) (s58 a.block (block_lt_of_cell h))).trans h
  have lt5 : ∀ {a : Addr} {x : Value}, v5.cell? a = some x → a.block < atb := fun {a x} h => by have := block_lt_of_cell h; omega
  have hcq5 := up5 _ _ hcq4
  have hKK : ∀ {x : Nat}, x < v5.heap.size → x < atb + 2 ∧ x ≠ atb + 1 ∧ x ≠ atb := fun {x} hx => ⟨by omega, by omega, by omega⟩
  have hfix : NestFix (fun x => x < atb + 2 ∧ x ≠ atb + 1 ∧ x ≠ atb) qvb kvb evb wvb pvb qo pa m0 ro qc pc kn M0 c0 rc E0 QS PS KS MS0 v8 := by
    refine ⟨⟨hKK (block_lt_of_cell hcq5), hKK (block_lt_of_cell hck5), hKK (block_lt_of_cell hW.err), hKK (block_lt_of_cell hW.cell), hKK (block_lt_of_cell hcp5)⟩, up8 _ _ hcq5, up8 _ _ hck5, up8 _ _ hW.err, up8 _ _ hW.cell, up8 _ _ hcp5, (hpq4.at (K' := fun x => x < v5.heap.size) (fun x hx => by have := hW.size; omega) hW.same).at (fun x hx => hKK hx) s58, hpp5.at (fun x hx => hKK hx) s58, fun i x hx => ?_, ?_, fun p o e hne => ?_⟩
    · obtain ⟨p, o, e, g⟩ := hks5.at2 hx
      exact ⟨p, o, e, hKK (block_lt_of_cell g), up8 _ _ g⟩
    · refine hW.sees.heapAt fun p o e hne => ?_
      obtain ⟨b, o', g1, g2⟩ := hW.sees
      have e' := g1 hne
      rw [e] at e'
      cases e'
      obtain ⟨x, hx⟩ : ∃ x, MS0[0]? = some x := ⟨_, List.getElem?_eq_getElem (List.length_pos_iff.2 hne)⟩
      exact s58 p (block_lt_of_cell (g2 0 x hx).1)
    · obtain ⟨b, o', g1, g2⟩ := hW.sees
      have e' := g1 hne
      rw [e] at e'
      cases e'
      obtain ⟨x, hx⟩ : ∃ x, MS0[0]? = some x := ⟨_, List.getElem?_eq_getElem (List.length_pos_iff.2 hne)⟩
      exact hKK (block_lt_of_cell (g2 0 x hx).1)
  have hm1 : ∀ p o, m1 = some ⟨p, o, none⟩ → MS ≠ [] → p < atb := fun p o e hne => by
    obtain ⟨b, o', g1, g2⟩ := hsm6
    have e' := g1 hne
    rw [e] at e'
    cases e'
    obtain ⟨x, hx⟩ : ∃ x, MS[0]? = some x := ⟨_, List.getElem?_eq_getElem (List.length_pos_iff.2 hne)⟩
    have := block_lt_of_cell (g2 0 x hx).1
    simp only at this
    omega
  have hsm8 : SeesM v8 m1 MS := hsm6.heapAt fun p o e hne => same8 p (hm1 p o e hne)
  have HM1 := Lib.hid hm1
  have hsp : b1.shun pvb = false := hs8.lively hfix.cp
  have hsk : b1.shun kvb = false := hs8.lively hfix.ck
  have hpw8 : w8.cell? ⟨pvb, 0, none⟩ = some (.slice ro PS.length rc) := (hs8.cell (a := ⟨pvb, 0, none⟩) hsp).symm.trans hfix.cp
  have hkw8 : w8.cell? ⟨kvb, 0, none⟩ = some (.slice pa kn pc) := (hs8.cell (a := ⟨kvb, 0, none⟩) hsk).symm.trans hfix.ck
  have hW8 : W.heap.size ≤ atb := by have := K6.size; omega
  have hv18 : v1.heap.size ≤ atb := by have := hP.size; omega
  have HFIX := Lib.hid hfix
  have HSM8 := Lib.hid hsm8
  have HAT := Lib.hid hat8
  have HFB := Lib.hid hfb8
  have HZ8 := Lib.hid hz8
  have HS8 := Lib.hid hs8
  have HE8 := Lib.hid he8
  have HKS8 := Lib.hid (hks5.cellsOf up8)
  have HR0 := Lib.hid hR0
  have HRP := Lib.hid hRP
  have HKLL := Lib.hid hKL
  have HM0 := Lib.hid hM0
  have HMM := Lib.hid hM
  have HK64 := Lib.hid hK64
  clear hfix hsm8 hm1 hat8 hfb8 hz8 hs8 he8 hks5 hR0 hRP hKL hM0 hM hK64 hv7 hv8 hz7 same7 same8 s58 up8 lt5 hcq5 hKK hsm6 same6 hz6 hatb hcp5 hck5 hpp5 s25 hpp2 hPS hQS hW up5 hcq4 hpq4 hpq3 hks4 hks3 up4 hKS hck4 hkvb hkn same4 hz4 hcell3 hcell2 hcell1 hcell0 hP hQ hL hsees hpv hL2 hsees2 hpv2 hpk h64 hs2 hs3 hs4 hs5 hs6 hs7 he2 he3 he4 he5 he6 he7 hPL hQL
  have hF : Off b1.shun w8 w8 := Off.refl _ _
  refine At.goes0 (n := 10) ?_
  u_c stepG_seq ro_off2 hF
  u_reg ro_off2 hF
  refine Goes.stop (fun wE q => ?_)
  replace hF := ro_off2 hF q
  clear q
  refine At.ld rfl rfl (by decide) (ad := ⟨pvb, 0, none⟩) (x := .slice ro PS.length rc) (by rw [hF.cell hsp]; exact hpw8) hsp (fun _ hv => ?_) ?_
  · exact ⟨by simp [go_sem, execOp, Act.eval, hv], by simp [go_sem, execOp, Act.eval, hv]⟩
  walk_nrm
  refine At.goes0 (n := 20) ?_
  u_op ro_off2 hF
  u_op ro_off2 hF
  refine Goes.stop (fun wE q => ?_)
  replace hF := ro_off2 hF q
  clear q
  refine At.ld rfl rfl (by decide) (ad := ⟨kvb, 0, none⟩) (x := .slice pa kn pc) (by rw [hF.cell hsk]; exact hkw8) hsk (fun _ hv => ?_) ?_
  · exact ⟨by simp [go_sem, execOp, Act.eval, hv], by simp [go_sem, execOp, Act.eval, hv]⟩
  walk_nrm
  refine At.list rfl (fun wD q => ⟨_, #[], stepG_call rfl rfl (by decide) rfl Try.func19 nm_run rfl, by simp, ?_⟩)
  replace hF := ro_off2 hF q
  clear q
  walk_nrm
  have hz8 := HZ8.out
  have hfb8 := HFB.out
  have hat8 := HAT.out
  refine run_whole (J := NestSt (atb + 2) (atb + 1) atb PS.length (NestFix (fun x => x < atb + 2 ∧ x ≠ atb + 1 ∧ x ≠ atb) qvb kvb evb wvb pvb qo pa m0 ro qc pc kn M0 c0 rc E0 QS PS KS MS0)) (next := planNext PS) (s0 := fun _ => 0) (O := fun x => x = atb + 1 ∨ x = atb) (v := v8) (l := KS) (fun h8 => nest_step h8 hQ9 HKLL.out hk40 HK64.out HR0.out HM0.out (by rw [← HM0.out]; exact hMl0)) Try.func22 nm_nest1 rfl (by rw [hz8]; exact NestSt.still _ _ _ _ _ fun _ _ X h => X.at h) (by rw [K8.grew.ear]; rfl) (by rw [K8.grew.wait]; rfl) ?_ (fun x hx => ?_) (fun a ha => .any _) (hF.sim K8.sim) K8.even K8.tidy (fun i x hx => ?_) HKLL.out (.any _) (by unfold maxLen; omega) HK64.out (fun b9 v9 w9 O9 mv EE => ?_)
  · refine ⟨fun x => Iff.rfl, ⟨by omega, by omega, by omega⟩, by omega, HFIX.out, by rw [cell_of_row _ _ _ _ _ _ hfb8]; rfl, fun t ht ht8 => ⟨?_, Nat.zero_le _⟩, fun i => ⟨by simp [World.frozen?, hfb8], by simp [World.frozen?, hat8]⟩⟩
    rw [cell_of_row _ _ _ _ _ _ hat8]
    have nine : t = 0 ∨ t = 1 ∨ t = 2 ∨ t = 3 ∨ t = 4 ∨ t = 5 ∨ t = 6 ∨ t = 7 := by omega
    rcases nine with rfl | rfl | rfl | rfl | rfl | rfl | rfl | rfl <;> rfl
  · have h1 : v1.heap.size ≤ x := by rcases hx with rfl | rfl <;> omega
    obtain ⟨g1, g2⟩ := Sim.over K1.sim h1
    exact ⟨g2, g1, by rcases hx with rfl | rfl <;> omega⟩
  · obtain ⟨p, o, e, kp, g⟩ := HFIX.out.rk i x hx
    exact ⟨p, o, e, g, fun h => by rcases h with h | h; exact kp.2.1 h; exact kp.2.2 h, HS8.out.lively g⟩
  have q1 : (runR (planNext PS) PS.length KS 9 fun _ => 0).2 = (MS, E) := HRP.out
  rw [q1] at EE ⊢
  have K9 := K8.ended EE fun x hx => by rcases hx with rfl | rfl <;> omega
  obtain ⟨mm, _, hJ⟩ := EE.J
  have hrow : OwnM v9 v8.heap.size mv MS := EE.row
  obtain ⟨m2, cc2, hmv, hsm2, _⟩ := hrow.slice
  rw [HMM.out] at hmv
  subst hmv
  have hcf := hJ.cf
  have hsm9 : SeesM v9 m1 MS := HSM8.out.heapAt fun p o e hne => by
    have := HM1.out p o e hne
    exact EE.same p (by omega) fun h => by rcases h with h | h <;> omega
  dsimp only
  rw [Frame.finish_at]
  walk_nrm
  have hF : Off b9.shun w9 w9 := Off.refl _ _
  refine At.goes0 (n := 60) ?_
  u_op ro_off2 hF
  u_op ro_off2 hF
  u_op ro_off2 hF
  u_op ro_off2 hF
  u_op ro_off2 hF
  u_c stepG_region_end ro_off2 hF
  refine Goes.stop (fun wE q => ?_)
  replace hF := ro_off2 hF q
  clear q
  have hrest := @nests_rest
  have lrest := restN_lone
  simp only [restNests, bodyNests, Try.f7, Option.getD_some] at hrest
  simp only [restNests, bodyNests, Try.f7, Option.getD_some] at lrest
  refine At.rest (M := bare) (R := fun a' w' => a'.tmps.getD 6 undef = .bool true ∧ v9.heap.size ≤ w'.heap.size ∧ ∀ x, x < v9.heap.size → w'.heap[x]? = v9.heap[x]?) lones_fun ⟨_, Try.func7⟩ lrest (slots_of fun x hx => .any _) K9.even (hF.sim K9.sim) (fun T => ?_) (fun t' vA T d wA todo _ heA hR hsA => ?_)
  · refine Code.wp_mono ?_ (hrest (w := onT v9 T 0) (MS := MS) hcf hsm9 hsm2 HMM.out (by rw [← HMM.out]; exact hMl))
    rintro e a' w'' ⟨k1, k2, k3⟩
    exact ⟨k1, k2, k3.size, k3.block⟩
  obtain ⟨k2, k3, k4⟩ := hR
  have k2 : t'.getD 6 undef = .bool true := k2
  have KA := K9.piece (v' := vA) (w' := wA) k3 k4 hsA heA
  refine At.finish (r := 6) (KA.grew.ear) (fun i => ?_) inits_nests rfl rfl Try.func7 rfl fun w₁ o k => ?_
  · rw [KA.grew.role]; rfl
  · show Post (t'.getD 6 undef) w₁
    rw [k2]
    exact fin w₁ (KA.kept o k)
end
end Go.Proofs.Ytaiinkeendejdaa
