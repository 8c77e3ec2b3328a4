/-
  BankSums: from the reading of the arguments to the walk. Condition: the library's variables (Env).
-/
import Derived.Test.YtcobmefgefkdmaaGreatDoorBankSumsWalk
import Derived.Test.YtcobmefgefkdmaaGreatDoorOpen
namespace Go.Proofs.YtcobmefgefkdmaaGreatDoor
open Go.ChangeShapes Go.WideShapes Go.ChangeAt Go.RowKit
set_option maxRecDepth 100000
section
variable {H : Type} {enc : TypeId × Value → H} {W : World}
theorem cellsDeed : Tryz.prog.cellsOf 25 = 5 := by kernel_rfl
/-- what the five cells of a deed hold -/
theorem deed_cells {n : Nat} {cs : List Value} {y : DataW H × List MemPlace} (hf : DataW.trod enc Tryz.prog W 0 (fun _ => true) true n 25 cs = some y) :
    ∃ op a b x z : Int, cs = [.int .i64 op, .int .i64 a, .int .i64 b, .int .i64 x, .int .i64 z] := by
  obtain ⟨xs, m, _, _, h5, hlen, hg⟩ := DataW.trod_struct Tryz.underlying25 hf
  rw [cellsDeed] at h5
  have hx5 : xs.length = 5 := hlen
  match cs, h5, xs, hx5 with
  | [v0, v1, v2, v3, v4], _, [x0, x1, x2, x3, x4], _ =>
    have e0 : DataW.trod enc Tryz.prog W 0 (fun _ => true) true m 3 [v0] = some x0 := by simpa [cellsInt] using hg 0 _ rfl
    have e1 : DataW.trod enc Tryz.prog W 0 (fun _ => true) true m 3 [v1] = some x1 := by simpa [cellsInt] using hg 1 _ rfl
    have e2 : DataW.trod enc Tryz.prog W 0 (fun _ => true) true m 3 [v2] = some x2 := by simpa [cellsInt] using hg 2 _ rfl
    have e3 : DataW.trod enc Tryz.prog W 0 (fun _ => true) true m 2 [v3] = some x3 := by simpa [cells64] using hg 3 _ rfl
    have e4 : DataW.trod enc Tryz.prog W 0 (fun _ => true) true m 2 [v4] = some x4 := by simpa [cells64] using hg 4 _ rfl
    obtain ⟨n0, h0, _⟩ := DataW.trod_int Tryz.underlying3 e0
    obtain ⟨n1, h1, _⟩ := DataW.trod_int Tryz.underlying3 e1
    obtain ⟨n2, h2, _⟩ := DataW.trod_int Tryz.underlying3 e2
    obtain ⟨n3, h3, _⟩ := DataW.trod_int Tryz.underlying2 e3
    obtain ⟨n4, h4, _⟩ := DataW.trod_int Tryz.underlying2 e4
    injection h0 with h0; injection h1 with h1; injection h2 with h2; injection h3 with h3; injection h4 with h4
    subst h0 h1 h2 h3 h4
    exact ⟨_, _, _, _, _, rfl⟩
theorem choose_list {α : Type} {P : Nat → α → Prop} : ∀ n : Nat, (∀ i, i < n → ∃ a, P i a) → ∃ l : List α, l.length = n ∧ ∀ (i : Nat) (a : α), l[i]? = some a → P i a
  | 0, _ => ⟨[], rfl, fun i a h => by simp at h⟩
  | n + 1, h => by
    obtain ⟨l, hl, hp⟩ := choose_list n (fun i hi => h i (by omega))
    obtain ⟨a, ha⟩ := h n (by omega)
    refine ⟨l ++ [a], by simp [hl], fun i b hb => ?_⟩
    rcases Nat.lt_or_ge i l.length with h1 | h1
    · rw [List.getElem?_append_left h1] at hb
      exact hp i b hb
    · have h2 := (List.getElem?_eq_some_iff.1 hb).1
      rw [List.length_append, List.length_singleton] at h2
      obtain rfl : i = l.length := by omega
      rw [List.getElem?_append_right (Nat.le_refl _), Nat.sub_self] at hb
      simp at hb
      subst hb
      rw [hl]
      exact ha
/-- a slice of deeds that came in -/
theorem deeds_open {b0 : Nat} {v : Value} {d : DataW H} {p : List MemPlace} (hv : Value.okWide Tryz.prog W .any b0 34 v) (h : DataW.Trod enc Tryz.prog W 0 (fun _ => true) true 34 v d p) :
    ∃ (ao : Option Addr) (c : Nat) (ds : List (Int × Int × Int × Int × Int)), v = .slice ao ds.length c ∧ Deeds W ao ds ∧ ds.length ≤ maxLen := by
  obtain ⟨a, len, cap, rfl⟩ := okWide_slice Tryz.underlying34 hv
  obtain ⟨n, hf⟩ := h
  rcases DataW.trod_slice Tryz.underlying34 hf with ⟨hcs, hx⟩ | ⟨a', len', cap', elems, rest, m, _, hcs, hx, _, hl, hm, hel, he, _⟩
  · simp [Value.cells] at hcs
    obtain ⟨rfl, rfl, rfl⟩ := hcs
    exact ⟨none, 0, [], rfl, ⟨0, 0, fun h => absurd rfl h, fun j d hd => by simp at hd⟩, Nat.zero_le _⟩
  · simp [Value.cells] at hcs
    obtain ⟨rfl, rfl, rfl⟩ := hcs
    have each : ∀ i, i < len → ∃ d : Int × Int × Int × Int × Int, ∀ j z, [d.1, d.2.1, d.2.2.1, d.2.2.2.1, d.2.2.2.2][j]? = some z → W.cell? ((a'.add (i * 5)).add j) = some (.int .i64 z) := fun i hi => by
      have hE := he i hi
      have hy : elems[i]? = some elems[i] := List.getElem?_eq_getElem (by omega)
      rw [hy, cellsDeed] at hE
      obtain ⟨cs, hcs, hty⟩ := Option.bind_eq_some_iff.1 hE
      obtain ⟨op, x1, x2, x3, x4, rfl⟩ := deed_cells hty
      obtain ⟨_, _, hc⟩ := World.cells?_some hcs
      refine ⟨(op, x1, x2, x3, x4), fun j z hj => ?_⟩
      have hj5 : j < 5 := (List.getElem?_eq_some_iff.1 hj).1
      rw [hc j hj5]
      match j, hj with
      | 0, hj => simpa using hj
      | 1, hj => simpa using hj
      | 2, hj => simpa using hj
      | 3, hj => simpa using hj
      | 4, hj => simpa using hj
      | j + 5, hj => exact absurd hj5 (by omega)
    obtain ⟨ds, hdl, hds⟩ := choose_list len each
    refine ⟨some a', cap, ds, by rw [hdl], ?_, by rw [hdl]; omega⟩
    by_cases h0 : len = 0
    · have : ds = [] := List.eq_nil_of_length_eq_zero (by omega)
      subst this
      exact ⟨0, 0, fun h => absurd rfl h, fun j d hd => by simp at hd⟩
    · obtain ⟨d0, hd0⟩ : ∃ d, ds[0]? = some d := ⟨_, List.getElem?_eq_getElem (by omega)⟩
      obtain ⟨b, off, spot⟩ := a'
      have hspot : spot = none := by simpa [Addr.add] using World.cell?_spot (hds 0 d0 hd0 0 _ rfl)
      subst hspot
      refine ⟨b, off, fun _ => rfl, fun j d hd => ?_⟩
      have k := hds j d hd
      simp only [Addr.add_lit] at k
      exact ⟨k 0 _ rfl, k 1 _ rfl, k 2 _ rfl, k 3 _ rfl, k 4 _ rfl⟩
end
theorem bankSums_law {H : Type} (enc : TypeId × Value → H) {W : World} {base : Nat} {args : Array Value} {ds gs : List (DataW H)} {before : List MemPlace}
    (hval : ∀ (j : Nat) t v, Tryz.f5.params[j]? = some t → args[j]? = some v → Value.okWide Tryz.prog W .any base t v)
    (hW : DataW.Whole enc Tryz.prog Tryz.f5.params.toList Rows.bankSumsSpec.vars false W args.toList ds gs before)
    (_hreach : (DataW.weightsEach Tryz.prog (Tryz.f5.params.toList ++ (OpenSpec.ofChange Rows.bankSumsSpec).bare.plain.varTypes Tryz.prog) (ds ++ gs)).all (· ≤ reachBytes) = true) (he : Env W) :
    Calls Tryz.prog 5 args W fun e W' => ∃ v, e = .returned v ∧ Rows.bankSumsSpec.post enc Tryz.prog Tryz.f5 false true false false W args v W' := by
  have hW' := hW
  obtain ⟨p, q, hA0, hV, rfl, hfz, hnd⟩ := hW
  have hA : DataW.TrodAll enc Tryz.prog W 0 (fun _ => true) true Tryz.f5.params.toList args.toList ds p := hA0
  rw [Tryz.params5] at hA hval
  obtain ⟨v0, v1, d0, d1, p0, p1, rfl, rfl, rfl, h0, h1⟩ := trodAll_two hA
  obtain ⟨do', dc, dl, rfl, hdl, hdm⟩ := deeds_open (hval 1 _ _ rfl rfl) h1
  rcases ints_open (hval 0 _ _ rfl rfl) h0 with ⟨rfl, rfl⟩ | ⟨ad, c, zs, ys, rfl, hs, hzc, hcm, _, hyl, rfl⟩
  · exact (BankSums_none _ _ none 0 0 W rfl (by decide) he (Nat.zero_le _)).mono fun e w' ⟨h1, h2⟩ => ⟨_, h1, law_post laidOut hW' rfl rfl rfl Tryz.underlying4 (by kernel_rfl) h2⟩
  · by_cases hr : roomI zs.length = 0
    · exact (BankSums_none _ _ (some ad) zs.length c W rfl hr he (by omega)).mono fun e w' ⟨h1, h2⟩ => ⟨_, h1, law_post laidOut hW' rfl rfl rfl Tryz.underlying4 (by kernel_rfl) h2⟩
    · have hn : 1 ≤ (zs.length : Int) ∧ (zs.length : Int) ≤ 64 := by unfold roomI at hr; split at hr <;> simp_all
      exact (BankSums_some ad c zs do' dc dl W he hs hzc hdl (by omega) (by omega) hdm).mono fun e w' ⟨h1, h2⟩ => ⟨_, h1, law_post laidOut hW' rfl rfl rfl Tryz.underlying4 (by kernel_rfl) h2⟩
end Go.Proofs.YtcobmefgefkdmaaGreatDoor
