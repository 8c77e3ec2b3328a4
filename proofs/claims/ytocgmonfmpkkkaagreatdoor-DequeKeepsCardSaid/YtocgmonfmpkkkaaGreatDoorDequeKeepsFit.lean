/-
  DequeKeeps: from the reading of the arguments to the walk. Condition: the library's variables (Env).
-/
import Derived.Test.YtocgmonfmpkkkaaGreatDoorDequeKeepsWalk
import Derived.Test.YtocgmonfmpkkkaaGreatDoorOpen
namespace Go.Proofs.YtocgmonfmpkkkaaGreatDoor
open Go.ChangeShapes Go.WideShapes Go.ChangeAt Go.RowKit
set_option maxRecDepth 100000
theorem dequeKeeps_law {H : Type} (enc : TypeId × Value → H) {W : World} {base : Nat} {args : Array Value} {ds gs : List (DataW H)} {before : List MemPlace}
    (hval : ∀ (j : Nat) t v, Tryz.f6.params[j]? = some t → args[j]? = some v → Value.okWide Tryz.prog W .any base t v)
    (hW : DataW.Whole enc Tryz.prog Tryz.f6.params.toList Rows.dequeKeepsSpec.vars false W args.toList ds gs before)
    (hreach : (DataW.weightsEach Tryz.prog (Tryz.f6.params.toList ++ (OpenSpec.ofChange Rows.dequeKeepsSpec).bare.plain.varTypes Tryz.prog) (ds ++ gs)).all (· ≤ reachBytes) = true) (he : Env W) :
    Calls Tryz.prog 6 args W fun e W' => ∃ v, e = .returned v ∧ Rows.dequeKeepsSpec.post enc Tryz.prog Tryz.f6 false true false false W args v W' := by
  have hW' := hW
  obtain ⟨p, q, hA0, hV, rfl, hfz, hnd⟩ := hW
  have hA : DataW.TrodAll enc Tryz.prog W 0 (fun _ => true) true Tryz.f6.params.toList args.toList ds p := hA0
  rw [Tryz.params6] at hA hval
  obtain ⟨v0, v1, v2, v3, d0, d1, d2, d3, p0, p1, p2, p3, rfl, rfl, rfl, h0, h1, h2, h3⟩ := trodAll_four hA
  obtain ⟨n, rfl, rfl, rfl, _⟩ := open_int Tryz.underlying3 (hval 1 _ _ rfl rfl) h1
  obtain ⟨pops, rfl, rfl, rfl⟩ := open_bool Tryz.underlying4 (hval 3 _ _ rfl rfl) h3
  have fin : ∀ v0' v2', v0' = v0 → v2' = v2 → Calls Tryz.prog 6 #[v0', .int .i64 n, v2', .bool pops] W (fun e w' => e = .returned (.bool true) ∧ Below W.heap.size W w') →
      Calls Tryz.prog 6 #[v0, .int .i64 n, v2, .bool pops] W fun e W' => ∃ v, e = .returned v ∧ Rows.dequeKeepsSpec.post enc Tryz.prog Tryz.f6 false true false false W #[v0, .int .i64 n, v2, .bool pops] v W' := by
    intro v0' v2' e0 e2 hc
    subst e0; subst e2
    exact hc.mono fun e w' ⟨h1, h2⟩ => ⟨_, h1, law_post laidOut hW' rfl rfl rfl Tryz.underlying4 (by kernel_rfl) h2⟩
  have hb : (Tryz.prog.bytesOf 2) = 8 := by kernel_rfl
  rcases ints_open (hval 0 _ _ rfl rfl) h0 with ⟨rfl, rfl⟩ | ⟨ad, c, zs, ys, rfl, hs, hzc, hcm, _, hyl, rfl⟩
  · rcases ints_open (hval 2 _ _ rfl rfl) h2 with ⟨rfl, rfl⟩ | ⟨bd, d, vs, us, rfl, hvs, hvc, hvm, _, hul, rfl⟩
    · exact fin _ _ rfl rfl (DequeKeeps_any none 0 [] n none 0 [] pops W he (Sees.nil _ _) (fun _ => rfl) (by decide) (Sees.nil _ _) (by decide))
    · exact fin _ _ rfl rfl (DequeKeeps_any none 0 [] n (some bd) d vs pops W he (Sees.nil _ _) (fun _ => rfl) (by decide) hvs (by omega))
  · have hr := sized_slice hreach (j := 0) (t := 23) (e := 2) rfl rfl Tryz.underlying23
    rw [hb] at hr
    simp only [lits, List.length_map, List.length_drop, reachBytes] at hr
    have hlen : zs.length * 8 ≤ 140737488351232 := by omega
    rcases ints_open (hval 2 _ _ rfl rfl) h2 with ⟨rfl, rfl⟩ | ⟨bd, d, vs, us, rfl, hvs, hvc, hvm, _, hul, rfl⟩
    · exact fin _ _ rfl rfl (DequeKeeps_any (some ad) c zs n none 0 [] pops W he hs (fun h => by cases h) hlen (Sees.nil _ _) (by decide))
    · exact fin _ _ rfl rfl (DequeKeeps_any (some ad) c zs n (some bd) d vs pops W he hs (fun h => by cases h) hlen hvs (by omega))
end Go.Proofs.YtocgmonfmpkkkaaGreatDoor
