/-
  DictReads: from the reading of the arguments to the walk. Condition: the library's variables (Env).
-/
import Derived.Test.YtochpdailleilaaGreatDoorDictReadsWalk
import Derived.Test.YtochpdailleilaaGreatDoorOpen
import Derived.Test.YtochpdailleilaaGreatDoorOpenE
namespace Go.Proofs.YtochpdailleilaaGreatDoor
open Go.ChangeShapes Go.WideShapes Go.ChangeAt Go.RowKit
set_option maxRecDepth 100000
section
variable {H : Type} {enc : TypeId × Value → H} {P : Program} {w : World} {base : Nat} {spare : Nat → Bool} {held : Bool}
theorem trodAll_seven {t0 t1 t2 t3 t4 t5 t6 : TypeId} {args : Array Value} {ds : List (DataW H)} {ps : List MemPlace} (h : DataW.TrodAll enc P w base spare held [t0, t1, t2, t3, t4, t5, t6] args.toList ds ps) :
    ∃ v0 v1 v2 v3 v4 v5 v6 d0 d1 d2 d3 d4 d5 d6 p0 p1 p2 p3 p4 p5 p6, args = #[v0, v1, v2, v3, v4, v5, v6] ∧ ds = [d0, d1, d2, d3, d4, d5, d6] ∧ DataW.Trod enc P w base spare held t0 v0 d0 p0 ∧ DataW.Trod enc P w base spare held t1 v1 d1 p1 ∧ DataW.Trod enc P w base spare held t2 v2 d2 p2 ∧ DataW.Trod enc P w base spare held t3 v3 d3 p3 ∧ DataW.Trod enc P w base spare held t4 v4 d4 p4 ∧ DataW.Trod enc P w base spare held t5 v5 d5 p5 ∧ DataW.Trod enc P w base spare held t6 v6 d6 p6 := by
  obtain ⟨v0, _, d0, _, p0, _, hargs, rfl, rfl, h0, hr⟩ := trodAll_cons h
  obtain ⟨v1, _, d1, _, p1, _, rfl, rfl, rfl, h1, hr⟩ := trodAll_cons hr
  obtain ⟨v2, _, d2, _, p2, _, rfl, rfl, rfl, h2, hr⟩ := trodAll_cons hr
  obtain ⟨v3, _, d3, _, p3, _, rfl, rfl, rfl, h3, hr⟩ := trodAll_cons hr
  obtain ⟨v4, _, d4, _, p4, _, rfl, rfl, rfl, h4, hr⟩ := trodAll_cons hr
  obtain ⟨v5, _, d5, _, p5, _, rfl, rfl, rfl, h5, hr⟩ := trodAll_cons hr
  obtain ⟨v6, _, d6, _, p6, _, rfl, rfl, rfl, h6, hr⟩ := trodAll_cons hr
  obtain ⟨rfl, rfl, rfl⟩ := trodAll_nil hr
  exact ⟨v0, v1, v2, v3, v4, v5, v6, d0, d1, d2, d3, d4, d5, d6, p0, p1, p2, p3, p4, p5, p6, by cases args; simp_all, rfl, h0, h1, h2, h3, h4, h5, h6⟩
end
theorem dictReads_law {H : Type} (enc : TypeId × Value → H) {W : World} {base : Nat} {args : Array Value} {ds gs : List (DataW H)} {before : List MemPlace}
    (hval : ∀ (j : Nat) t v, Tryz.f4.params[j]? = some t → args[j]? = some v → Value.okWide Tryz.prog W .any base t v)
    (hW : DataW.Whole enc Tryz.prog Tryz.f4.params.toList Rows.dictReadsSpec.vars false W args.toList ds gs before)
    (hreach : (DataW.weightsEach Tryz.prog (Tryz.f4.params.toList ++ (OpenSpec.ofChange Rows.dictReadsSpec).bare.plain.varTypes Tryz.prog) (ds ++ gs)).all (· ≤ reachBytes) = true) (he : Env W) :
    Calls Tryz.prog 4 args W fun e W' => ∃ v, e = .returned v ∧ Rows.dictReadsSpec.post enc Tryz.prog Tryz.f4 false true false false W args v W' := by
  have hW' := hW
  obtain ⟨p, q, hA0, hV, rfl, hfz, hnd⟩ := hW
  have hA : DataW.TrodAll enc Tryz.prog W 0 (fun _ => true) true Tryz.f4.params.toList args.toList ds p := hA0
  rw [Tryz.params4] at hA hval
  obtain ⟨v0, v1, v2, v3, v4, v5, v6, d0, d1, d2, d3, d4, d5, d6, p0, p1, p2, p3, p4, p5, p6, rfl, rfl, h0, h1, h2, h3, h4, h5, h6⟩ := trodAll_seven hA
  obtain ⟨base', rfl, rfl, rfl, _⟩ := open_int Tryz.underlying3 (hval 1 _ _ rfl rfl) h1
  obtain ⟨n, rfl, rfl, rfl, _⟩ := open_int Tryz.underlying3 (hval 2 _ _ rfl rfl) h2
  obtain ⟨seed, rfl, rfl, rfl, hsd⟩ := open_int Tryz.underlying3 (hval 4 _ _ rfl rfl) h4
  obtain ⟨at', rfl, rfl, rfl, hat⟩ := open_int Tryz.underlying3 (hval 5 _ _ rfl rfl) h5
  obtain ⟨x, rfl, rfl, rfl, hxw⟩ := open_int Tryz.underlying2 (hval 6 _ _ rfl rfl) h6
  have rng : ∀ z : Int, (Lit.int .i64 z).wf = true → -9223372036854775808 ≤ z ∧ z ≤ 9223372036854775807 := fun z h => by
    simp [Lit.wf, IntKind.min, IntKind.max, IntKind.signed, IntKind.bits] at h
    exact ⟨by omega, by omega⟩
  have fin : ∀ v0' v3', v0' = v0 → v3' = v3 → Calls Tryz.prog 4 #[v0', .int .i64 base', .int .i64 n, v3', .int .i64 seed, .int .i64 at', .int .i64 x] W (fun e w' => e = .returned (.bool true) ∧ Below W.heap.size W w') →
      Calls Tryz.prog 4 #[v0, .int .i64 base', .int .i64 n, v3, .int .i64 seed, .int .i64 at', .int .i64 x] W fun e W' => ∃ v, e = .returned v ∧ Rows.dictReadsSpec.post enc Tryz.prog Tryz.f4 false true false false W #[v0, .int .i64 base', .int .i64 n, v3, .int .i64 seed, .int .i64 at', .int .i64 x] v W' := by
    intro v0' v3' e0 e3 hc
    subst e0; subst e3
    exact hc.mono fun e w' ⟨h1, h2⟩ => ⟨_, h1, law_post laidOut hW' rfl rfl rfl Tryz.underlying4 (by kernel_rfl) h2⟩
  have hb : (Tryz.prog.bytesOf 2) = 8 := by kernel_rfl
  have h3' := entries_open (hval 3 _ _ rfl rfl) h3
  have wfz : ∀ zs : List Int, (∀ z ∈ zs, -9223372036854775808 ≤ z ∧ z ≤ 9223372036854775807) → Wf64 zs := fun zs h z hz => by
    have := h z hz
    simp [Lit.wf, IntKind.min, IntKind.max, IntKind.signed, IntKind.bits]
    omega
  rcases ints_open (hval 0 _ _ rfl rfl) h0 with ⟨rfl, rfl⟩ | ⟨ad, c, zs, ys, rfl, hs, hzc, hcm, hzw, hyl, rfl⟩
  · rcases h3' with ⟨rfl, rfl⟩ | ⟨bd, d, vs, es, sp, rfl, hvs, hvc, hvm, hvi, rfl, _⟩
    · exact fin _ _ rfl rfl (DictReads_any none 0 [] base' n none 0 [] seed at' x W he (Sees.nil _ _) (Nat.le_refl _) (by decide) (by decide) (SeesP.nil _ _) (fun z h => by simp at h) (fun z h => by simp at h) hxw (by decide) (rng _ hsd) (rng _ hat))
    · exact fin _ _ rfl rfl (DictReads_any none 0 [] base' n (some bd) d vs seed at' x W he (Sees.nil _ _) (Nat.le_refl _) (by decide) (by decide) hvs (fun z h => by simp at h) hvi hxw (by omega) (rng _ hsd) (rng _ hat))
  · have hr := sized_slice hreach (j := 0) (t := 23) (e := 2) rfl rfl Tryz.underlying23
    rw [hb] at hr
    simp only [lits, List.length_map, List.length_drop, reachBytes] at hr
    have hlen : zs.length * 8 ≤ 140737488351232 := by omega
    rcases h3' with ⟨rfl, rfl⟩ | ⟨bd, d, vs, es, sp, rfl, hvs, hvc, hvm, hvi, rfl, _⟩
    · exact fin _ _ rfl rfl (DictReads_any (some ad) c zs base' n none 0 [] seed at' x W he hs hzc hcm hlen (SeesP.nil _ _) (wfz zs hzw) (fun z h => by simp at h) hxw (by decide) (rng _ hsd) (rng _ hat))
    · exact fin _ _ rfl rfl (DictReads_any (some ad) c zs base' n (some bd) d vs seed at' x W he hs hzc hcm hlen hvs (wfz zs hzw) hvi hxw (by omega) (rng _ hsd) (rng _ hat))
end Go.Proofs.YtochpdailleilaaGreatDoor
