/-
  SCHED's LAWS with plans: the call of some, in company; what the readings of the start are later. No condition.
-/
import Derived.Test.YtaiinkeendejdaaSchOpen
import Derived.Test.YtaiinkeendejdaaSchLawT2
namespace Go.Proofs.Ytaiinkeendejdaa
open Go.RowKit Go.Conc Go.ConcR.Gen Go.ConcN.Gen
set_option maxRecDepth 100000
theorem nm_some : ((Try.f10).name == "runtime.NumGoroutine") = false := by kernel_rfl
theorem cutL_le (L : List PV) : (cutL L).length ≤ 9 := by unfold cutL; rw [List.length_map, List.length_take]; omega
theorem SeesV.cells {W v : World} {ao : Option Addr} {L : List PV} (h : SeesV W ao L) (hc : ∀ a x, W.cell? a = some x → v.cell? a = some x) : SeesV v ao L := by
  obtain ⟨b, o, h1, h2⟩ := h
  exact ⟨b, o, h1, fun j x hx => hc _ _ (h2 j x hx)⟩
theorem PVs.cells {K : Nat → Prop} {W v : World} {L : List PV} (h : PVs K W L) (hc : ∀ a x, W.cell? a = some x → v.cell? a = some x) : PVs (fun x => x < v.heap.size) v L := fun x hx => by
  obtain ⟨h1, h2, h3, h4⟩ := h x hx
  refine ⟨h1, h2, h3, fun j z hj => ?_⟩
  obtain ⟨q, u, g1, _, g3⟩ := h4 j z hj
  exact ⟨q, u, g1, block_lt_of_cell (hc _ _ g3), hc _ _ g3⟩
theorem Sees.cellsOf {W v : World} {ao : Option Addr} {l : List Int} (h : Sees W ao l) (hc : ∀ a x, W.cell? a = some x → v.cell? a = some x) : Sees v ao l := by
  obtain ⟨b, o, h1, h2⟩ := h
  exact ⟨b, o, h1, fun j hj => hc _ _ (h2 j hj)⟩
theorem sees_pv {W : World} {y : PV} (h : ∀ (j : Nat) z, y.2.2[j]? = some z → ∃ q u, y.1 = some ⟨q, u, none⟩ ∧ q < W.heap.size ∧ W.cell? ⟨q, u + j, none⟩ = some (.int .i64 z)) : Sees W y.1 y.2.2 := by
  by_cases h0 : y.2.2 = []
  · rw [h0]; exact Sees.nil _ _
  · obtain ⟨z, hz⟩ : ∃ z, y.2.2[0]? = some z := ⟨_, List.getElem?_eq_getElem (List.length_pos_iff.2 h0)⟩
    obtain ⟨q, u, e, _, _⟩ := h 0 z hz
    refine ⟨q, u, fun _ => e, fun j hj => ?_⟩
    obtain ⟨z', hz'⟩ : ∃ z, y.2.2[j]? = some z := ⟨_, List.getElem?_eq_getElem hj⟩
    obtain ⟨q', u', e', _, g⟩ := h j z' hz'
    rw [e] at e'
    cases e'
    rw [List.getD_eq_getElem?_getD, hz', Option.getD_some]
    exact g
theorem Ends0.done {W : World} {b b' : Bd} {v v' w w' : World} {mv : Value} {ms : List Mk} (h : Ends0 W b v w) (D : Done b v b' v' w' mv ms) : Ends0 W b' v' w' :=
  h.still ⟨D.grew, D.tidy, D.same, D.sim, D.even, D.size⟩
section
variable {Post : Value → World → Prop} {b : Bd} {h : Nat}
/-- the call of some -/
theorem At.someC {v w : World} {c : Frame} {cs : List Frame} {ao : Option Addr} {n cc : Nat} {L : List PV} (he : Even (ZT b.shun v.heap.size) v) (hs : Sim b.shun b.F v w) (hL : L.length = n) (hsees : SeesV v ao L) (hp : PVs (fun x => x < v.heap.size) v L)
    (fin : ∀ ro rc v' w', SeesV v' ro (cutL L) → PVs (fun x => x < v'.heap.size) v' (cutL L) → (∀ p o, ro = some ⟨p, o, none⟩ → p < v'.heap.size) → v.heap.size ≤ v'.heap.size → (∀ x, x < v.heap.size → v'.heap[x]? = v.heap[x]?) → Even (ZT b.shun v'.heap.size) v' → Sim b.shun b.F v' w' → At Try.prog 64 Post b h (G (c.finish (.slice ro (cutL L).length rc)) cs) w') :
    At Try.prog 64 Post b h (G (Frame.enter Try.prog 10 #[.slice ao n cc] .normal) (c :: cs)) w := by
  refine At.callee (R := fun a v' => ∃ ro rc, a = .slice ro (cutL L).length rc ∧ SeesV v' ro (cutL L) ∧ (∀ p o, ro = some ⟨p, o, none⟩ → p < v'.heap.size) ∧ v.heap.size ≤ v'.heap.size ∧ ∀ x, x < v.heap.size → v'.heap[x]? = v.heap[x]?) lones_fun (by kernel_rfl) Try.func10 rfl rfl rfl (fun x _ => .any _) he hs (fun T => ?_) (fun a v' T d w' _ he' hR hs' => ?_)
  · refine (some_any (w := onT v T 0) ao n cc L hL hsees hp).mono ?_
    rintro e w' ⟨x, rfl, h2, h3⟩
    refine ⟨x, rfl, ?_⟩
    rcases h2.form with ⟨rfl, h4⟩ | ⟨g, cap, rfl, _⟩
    · exact ⟨none, 0, by rw [h4]; rfl, by rw [h4]; exact ⟨0, 0, fun h => absurd rfl h, fun j x hj => by simp at hj⟩, fun p o e => (by cases e), h3.size, h3.block⟩
    · exact ⟨_, _, rfl, ⟨g, 0, fun _ => rfl, fun k x hx => by rw [Nat.zero_add]; exact h2.cell hx⟩, fun p o e => (by cases e; exact (h2.block rfl).2), h3.size, h3.block⟩
  · obtain ⟨ro, rc, rfl, h1, h2, h3, h4⟩ := hR
    have h4 : ∀ x, x < v.heap.size → v'.heap[x]? = v.heap[x]? := h4
    have h3 : v.heap.size ≤ v'.heap.size := h3
    exact fin ro rc v' w' h1 (hp.cut.at (fun x hx => Nat.lt_of_lt_of_le hx h3) h4) h2 h3 h4 he' hs'
end
end Go.Proofs.Ytaiinkeendejdaa
