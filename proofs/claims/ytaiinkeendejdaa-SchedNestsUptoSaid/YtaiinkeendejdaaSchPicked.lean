/-
  SCHED: pick in company: its last statement, and back to its caller. No condition.
-/
import Derived.Test.YtaiinkeendejdaaSchLast
namespace Go.Proofs.Ytaiinkeendejdaa
open Go.RowKit Go.Conc Go.ConcR.Gen Go.ConcN.Gen
set_option maxRecDepth 100000
section
variable {Post : Value → World → Prop} {b : Bd} {h : Nat}
theorem last_lone : codeC (opW Try.prog (fun f => lones.contains f) fun _ => false) lastPick = true := by kernel_rfl
theorem OwnM.onT {v : World} {B : Nat} {mv : Value} {ms : List Mk} (h : OwnM v B mv ms) (T : Tp) (d : Nat) : OwnM (Go.Proofs.Ytaiinkeendejdaa.onT v T d) B mv ms := h.at fun _ _ => rfl
theorem Marked.onT {v w' : World} {rb B : Nat} {mv : Value} {ms' : List Mk} {T : Tp} {d : Nat} (h : Marked v (Go.Proofs.Ytaiinkeendejdaa.onT w' T d) rb B mv ms') : Marked v w' rb B mv ms' := by
  obtain ⟨⟨mv', h1, h2, h3⟩, h4, h5, h6, h7⟩ := h
  exact ⟨⟨mv', h1, h2.at fun _ _ => rfl, h3⟩, h4, h5, h6, h7⟩
theorem Marked.from {v w' : World} {rb B : Nat} {mv : Value} {ms' : List Mk} {T : Tp} {d : Nat} (h : Marked (Go.Proofs.Ytaiinkeendejdaa.onT v T d) w' rb B mv ms') : Marked v w' rb B mv ms' := by
  obtain ⟨h1, h4, h5, h6, h7⟩ := h
  exact ⟨h1, h4, h5, h6, h7⟩
theorem pick_last {rb k B : Nat} {a : Int} {x2 x3 x4 x6 x7 x8 x9 x10 x11 x12 x13 x14 x15 x16 x17 x18 x19 x20 x21 x22 x23 x24 x25 x26 x27 x28 x29 x30 x31 x32 x33 x34 x35 x36 x37 x38 x39 x40 x41 x42 x43 x44 x45 x46 x47 x48 x49 x50 x51 x52 : Value} {mv : Value} {ms : List Mk} {c : Frame} {cs : List Frame} {v w : World}
    (hz : ∀ x ∈ #[.pointer (some ⟨rb, 0, none⟩), .int .i64 (k : Nat), x2, x3, x4, .int .i64 a, x6, x7, x8, x9, x10, x11, x12, x13, x14, x15, x16, x17, x18, x19, x20, x21, x22, x23, x24, x25, x26, x27, x28, x29, x30, x31, x32, x33, x34, x35, x36, x37, x38, x39, x40, x41, x42, x43, x44, x45, x46, x47, x48, x49, x50, x51, x52], NoZ (ZT b.shun v.heap.size) x)
    (hm : v.cell? ⟨rb, 1, none⟩ = some mv) (hfz : v.frozen? ⟨rb, 1, none⟩ = false) (hown : OwnM v B mv ms) (hB : B ≤ v.heap.size) (hrbB : rb < B) (hlen : ms.length < 1000000) (hk : k < 1000000) (hs : Sim b.shun b.F v w) (he : Even (ZT b.shun v.heap.size) v)
    (fin : ∀ v' w', Marked v v' rb B mv (ms ++ [((ms.length : Int) + 1, (k : Int) + 1, a)]) → Even (ZT b.shun v'.heap.size) v' → Sim b.shun b.F v' w' → At Try.prog 64 Post b h (G (c.finish (.tuple #[])) cs) w') :
    At Try.prog 64 Post b h (pickAt #[.pointer (some ⟨rb, 0, none⟩), .int .i64 (k : Nat), x2, x3, x4, .int .i64 a, x6, x7, x8, x9, x10, x11, x12, x13, x14, x15, x16, x17, x18, x19, x20, x21, x22, x23, x24, x25, x26, x27, x28, x29, x30, x31, x32, x33, x34, x35, x36, x37, x38, x39, x40, x41, x42, x43, x44, x45, x46, x47, x48, x49, x50, x51, x52] [.code lastPick] (c :: cs)) w := by
  refine At.piece (f := 33) (tl := []) (c := lastPick) (R := fun _ w' => Marked v w' rb B mv (ms ++ [((ms.length : Int) + 1, (k : Int) + 1, a)])) lones_fun ⟨_, Try.func33⟩ last_lone (slots_of hz) he hs (fun T => ?_) (fun t' v' T d w' _ he' hR hs' => ?_)
  · refine Code.wp_mono ?_ (last_wp (v := onT v T 0) hm hfz (hown.onT T 0) hB hrbB hlen hk)
    rintro e a' w' ⟨h1, _, h3⟩
    exact ⟨h1, h3.from⟩
  · have hR := hR.onT
    have hF : Off b.shun w' w' := Off.refl _ _
    refine At.goes0 (n := 5) ?_
    u_c stepG_end ro_off2 hF
    refine Goes.stop (fun _ r => ?_)
    replace hF := ro_off2 hF r
    clear r
    refine At.list rfl fun w₁ r => ⟨_, #[], stepG_leave (b := baseF 33) (a := ⟨t', []⟩) (todo := []) rfl rfl Try.func33 (results_none rfl _ _ w₁) (events_results_none rfl _ _), by simp, ?_⟩
    exact fin v' w₁ hR he' ((ro_off2 hF r).sim hs')
end
end Go.Proofs.Ytaiinkeendejdaa
