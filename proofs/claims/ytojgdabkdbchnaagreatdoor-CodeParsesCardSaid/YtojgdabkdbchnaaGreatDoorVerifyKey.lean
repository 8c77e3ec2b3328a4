/-
  THE KEYS OF Verify's MAP: a state at a place, as a key. No condition.
-/
import Derived.Test.YtojgdabkdbchnaaGreatDoorVerifyS
import Derived.Maps.OwnOps
import Derived.Maps.Views
import Derived.DeepKeys5
namespace Go.Proofs.YtojgdabkdbchnaaGreatDoor
open Go.RowKit Go.Maps Go.WideMaps
set_option maxRecDepth 100000

theorem laidOutV : laidOutB Tryz.prog = true := by kernel_rfl
theorem foundLaw : Keyed Tryz.prog 53 := Keyed.of_law (deep_law_gate laidOutV (by decide +kernel) (by decide +kernel) (by kernel_rfl) (by rw [Tryz.underlying53]))
def foundV (p : VP) : Value := .agg #[.int .i64 p.1, .int .i64 p.2.1, .int .i64 p.2.2]
def keyP (p : VP) : Lit := .string (keyBytes [.int .i64 p.1, .int .i64 p.2.1, .int .i64 p.2.2])
theorem wf_small {a : Int} (h1 : -1000 ≤ a) (h2 : a ≤ 1000) : (Lit.int .i64 a).wf = true := by
  simp [Lit.wf, IntKind.min, IntKind.max, IntKind.signed, IntKind.bits]
  omega
theorem keyLits_int {a : Int} (h : (Lit.int .i64 a).wf = true) (d : Nat) : Tryz.prog.keyLits (d + 1) 3 [.int .i64 a] = some [.int .i64 a] := by
  simp only [Program.keyLits, Tryz.underlying3, h]
  rfl
theorem keyLits_state {a b : Int} (h1 : (Lit.int .i64 a).wf = true) (h2 : (Lit.int .i64 b).wf = true) (d : Nat) : Tryz.prog.keyLits (d + 2) 51 [.int .i64 a, .int .i64 b] = some [.int .i64 a, .int .i64 b] := by
  have c : Tryz.prog.cellsOf 51 = 2 := by kernel_rfl
  have ci : Tryz.prog.cellsOf 3 = 1 := by kernel_rfl
  have k1 := keyLits_int h1 d
  have k2 := keyLits_int h2 d
  unfold Program.keyLits
  rw [Tryz.underlying51]
  simp [c, ci, k1, k2]
theorem keyOf_found {n : Nat} (hn : n ≤ 400) {p : VP} (hp : okP n p) : keyOf Tryz.prog 53 (foundV p) = some (keyP p) := by
  obtain ⟨a, d, b⟩ := p
  obtain ⟨h1, h2, h3, h4, h5, h6⟩ := hp
  simp only at h1 h2 h3 h4 h5 h6
  have w1 := wf_small (a := a) (by omega) (by omega)
  have w2 := wf_small (a := d) (by omega) (by omega)
  have w3 := wf_small (a := b) (by omega) (by omega)
  have c : Tryz.prog.cellsOf 53 = 3 := by kernel_rfl
  have cs : Tryz.prog.cellsOf 51 = 2 := by kernel_rfl
  have ci : Tryz.prog.cellsOf 3 = 1 := by kernel_rfl
  have kt : Tryz.prog.keyType 53 = true := by kernel_rfl
  have hfm : (foundV (a, d, b)).formed Tryz.prog 53 = true := by
    simp [foundV, Value.formed, Tryz.underlying53, c]
  have hl : Tryz.prog.keyLits (Tryz.prog.types.size + 1) 53 [.int .i64 a, .int .i64 d, .int .i64 b] = some [.int .i64 a, .int .i64 d, .int .i64 b] := by
    have hz : 2 ≤ Tryz.prog.types.size := by decide +kernel
    obtain ⟨m, hm⟩ : ∃ m, Tryz.prog.types.size + 1 = m + 3 := ⟨Tryz.prog.types.size - 2, by omega⟩
    have k1 := keyLits_int w1 (m + 1)
    have k2 := keyLits_state w2 w3 m
    rw [hm]
    unfold Program.keyLits
    rw [Tryz.underlying53]
    simp [c, ci, cs, k1, k2]
  unfold keyOf
  rw [Tryz.underlying53]
  simp only [kt, hfm, Bool.and_self, if_true]
  have e : (foundV (a, d, b)).cells.toList = [.int .i64 a, .int .i64 d, .int .i64 b] := rfl
  rw [e, hl]
  rfl
theorem keyP_inj {n : Nat} (hn : n ≤ 400) {p q : VP} (hp : okP n p) (hq : okP n q) (h : keyP p = keyP q) : p = q := by
  have e := foundLaw.inj (keyOf_found hn hp) (h ▸ keyOf_found hn hq)
  obtain ⟨a, d, b⟩ := p
  obtain ⟨a', d', b'⟩ := q
  simp only [foundV, Value.agg.injEq] at e
  injection e with e
  injection e with e1 e
  injection e with e2 e
  injection e with e3 e
  injection e1 with _ e1
  injection e2 with _ e2
  injection e3 with _ e3
  subst e1; subst e2; subst e3
  rfl
/-- the map holds just the states seen -/
structure SeenMap (n : Nat) (seen : List VP) (D : DataW Unit) : Prop where
  isMap : IsMap D
  at_ : ∀ p, okP n p → D.atKey (keyP p) (.lit (.int .i64 0)) = .lit (.int .i64 (if seen.contains p then 1 else 0))
theorem SeenMap.nil (n : Nat) : SeenMap n [] (.map []) := ⟨isMap_empty, fun _p _ => rfl⟩
theorem SeenMap.put {n : Nat} (hn : n ≤ 400) {seen : List VP} {D : DataW Unit} (h : SeenMap n seen D) {p : VP} (hp : okP n p) : SeenMap n (p :: seen) (D.put (keyP p) (.lit (.int .i64 1))) := by
  refine ⟨?_, fun q hq => ?_⟩
  · exact h.isMap.put _ _
  · by_cases e : q = p
    · subst e
      rw [atKey_put_same (k := keyP q) h.isMap (show WideAt.IsKeyLit (keyP q) from trivial)]
      simp
    · rw [atKey_put_other (fun e' => e (keyP_inj hn hq hp e')), h.at_ q hq]
      simp [e]
end Go.Proofs.YtojgdabkdbchnaaGreatDoor
