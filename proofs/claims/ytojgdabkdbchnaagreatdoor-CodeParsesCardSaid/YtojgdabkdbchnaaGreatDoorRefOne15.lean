/-
  quash/quashref15.one: for every line without a semicolon. No condition but sizes.
-/
import Derived.Test.YtojgdabkdbchnaaGreatDoorRefNum15
import Derived.Test.YtojgdabkdbchnaaGreatDoorRefFind15
namespace Go.Proofs.YtojgdabkdbchnaaGreatDoor
open Go.RowKit
set_option maxRecDepth 100000

/-- what an instruction's line says: its op, its operand, its label; none: it is none -/
def oneR (wd rest : List UInt8) : Option (Int × Int × List UInt8) :=
  let op := opOfL wd
  if op = 0 then none
  else if takes op = 0 then (if rest.isEmpty then some (op, 0, []) else none)
  else if takes op = 3 ∧ isNameB rest = true then some (op, 0, rest)
  else if (numberB rest).2 = false ∨ (takes op = 2 ∧ ((numberB rest).1 < 0 ∨ 8 ≤ (numberB rest).1)) ∨ (takes op = 3 ∧ (numberB rest).1 < 0) then none
  else some (op, (numberB rest).1, [])
/-- where the first blank is; the length where there is none -/
def blankAt (l : List UInt8) : Nat := if Lib.indexAny l [32, 9] < 0 then l.length else (Lib.indexAny l [32, 9]).toNat
def oneS (l : List UInt8) : Option (Int × Int × List UInt8) := oneR (l.take (blankAt l)) (Lib.trimS (l.drop (blankAt l)) [32, 9])
theorem blankAt_eq {l : List UInt8} {k : Nat} (hk : k ≤ l.length) (h1 : ∀ (j : Nat) x, j < k → l[j]? = some x → ([32, 9] : List UInt8).contains x = false) (h2 : k = l.length ∨ ∃ x, l[k]? = some x ∧ ([32, 9] : List UInt8).contains x = true) : blankAt l = k := by
  unfold blankAt
  rcases h2 with rfl | ⟨x, hx, hb⟩
  · rw [Lib.indexAny_none (s := l) (chars := [32, 9]) h1, if_pos (by decide)]
  · rw [Lib.indexAny_hit (s := l) (chars := [32, 9]) h1 hx hb, if_neg (by omega)]
    simp
def OneDoes (l : List UInt8) (line : Int) (w : World) (e : Ending) (w' : World) : Prop :=
  ∃ (op a ln : Int) (nm : List UInt8), e = .returned (.tuple #[.agg #[.int .i64 op, .int .i64 a, .int .i64 ln, .string (S nm)], .bool (oneS l).isSome]) ∧ (∀ x, oneS l = some x → x = (op, a, nm) ∧ ln = line) ∧ Below w.heap.size w w'
theorem cut_drop {l : List UInt8} (h : ∀ b ∈ l, b ≠ 59) (k : Nat) : (Lib.cut (l.drop k) [59]).1 = l.drop k := cut_absent fun b hb => h b (List.mem_of_mem_drop hb)
theorem OneDoes.no {l : List UInt8} {line : Int} {w w' : World} (op a ln : Int) (nm : List UInt8) (h : oneS l = none) (hb : Below w.heap.size w w') : OneDoes l line w (.returned (.tuple #[.agg #[.int .i64 op, .int .i64 a, .int .i64 ln, .string (S nm)], .bool false])) w' :=
  ⟨op, a, ln, nm, by rw [h]; rfl, (fun x hx => by rw [h] at hx; cases hx), hb⟩
theorem OneDoes.yes {l : List UInt8} {line : Int} {w w' : World} {op a : Int} {nm : List UInt8} (h : oneS l = some (op, a, nm)) (hb : Below w.heap.size w w') : OneDoes l line w (.returned (.tuple #[.agg #[.int .i64 op, .int .i64 a, .int .i64 line, .string (S nm)], .bool true])) w' :=
  ⟨op, a, line, nm, by rw [h]; rfl, (fun x hx => by rw [h] at hx; injection hx with hx; exact ⟨hx.symm, rfl⟩), hb⟩
theorem four_set {w : World} {p B : Nat} {x0 x1 x2 x3 : Value} (y0 y1 y2 y3 : Value) {t : TypeId} (h : w.heap[p]? = some (.cells #[x0, x1, x2, x3] t)) (hB : B ≤ p) :
    ((((w.setCell ⟨p, 0, none⟩ y0).setCell ⟨p, 1, none⟩ y1).setCell ⟨p, 2, none⟩ y2).setCell ⟨p, 3, none⟩ y3).heap[p]? = some (.cells #[y0, y1, y2, y3] t) ∧ Below B w ((((w.setCell ⟨p, 0, none⟩ y0).setCell ⟨p, 1, none⟩ y1).setCell ⟨p, 2, none⟩ y2).setCell ⟨p, 3, none⟩ y3) := by
  have k0 := heap_setCell_same w p 0 _ _ y0 h
  have k1 := heap_setCell_same _ p 1 _ _ y1 k0
  have k2 := heap_setCell_same _ p 2 _ _ y2 k1
  have k3 := heap_setCell_same _ p 3 _ _ y3 k2
  exact ⟨k3, (((((Below.refl B w).setCell (p := ⟨p, 0, none⟩) hB _).setCell (p := ⟨p, 1, none⟩) hB _).setCell (p := ⟨p, 2, none⟩) hB _).setCell (p := ⟨p, 3, none⟩) hB _)⟩
theorem four_set_alloc {w : World} {p B : Nat} {x0 x1 x2 x3 : Value} (y0 y1 y2 y3 : Value) {t : TypeId} (O : Obj) (h : w.heap[p]? = some (.cells #[x0, x1, x2, x3] t)) (hB : B ≤ p) :
    (((((w.setCell ⟨p, 0, none⟩ y0).setCell ⟨p, 1, none⟩ y1).setCell ⟨p, 2, none⟩ y2).setCell ⟨p, 3, none⟩ y3).alloc O).heap[p]? = some (.cells #[y0, y1, y2, y3] t) ∧ Below B w (((((w.setCell ⟨p, 0, none⟩ y0).setCell ⟨p, 1, none⟩ y1).setCell ⟨p, 2, none⟩ y2).setCell ⟨p, 3, none⟩ y3).alloc O) := by
  obtain ⟨h1, h2⟩ := four_set (B := B) y0 y1 y2 y3 h hB
  have hl := lt_of_block h1
  exact ⟨(Below.heap_alloc _ _ _ hl).trans h1, h2.alloc (by omega) _⟩
theorem one_leave {a : Act} {W : World} {p : Nat} {y0 y1 y2 y3 : Value} {v : Bool} (h : W.heap[p]? = some (.cells #[y0, y1, y2, y3] 94)) (h4 : a.tmps[4]? = some (.pointer (some ⟨p, 0, none⟩))) (h5 : a.tmps[5]? = some (.bool v)) :
    (results Tryz.f37 a.tmps).run Tryz.prog W = .ok (.tuple #[.agg #[y0, y1, y2, y3], .bool v]) W := by
  have c0 : W.cell? ⟨p, 0, none⟩ = some y0 := cell_of_row _ _ 0 _ _ _ h
  have c1 : W.cell? ⟨p, 1, none⟩ = some y1 := cell_of_row _ _ 1 _ _ _ h
  have c2 : W.cell? ⟨p, 2, none⟩ = some y2 := cell_of_row _ _ 2 _ _ _ h
  have c3 : W.cell? ⟨p, 3, none⟩ = some y3 := cell_of_row _ _ 3 _ _ _ h
  simp [results, Tryz.results37, go_sem, h4, h5, c0, c1, c2, c3]
set_option maxHeartbeats 4000000 in
theorem one_any (l : List UInt8) (line : Int) (w : World) (hs : l.length ≤ 65536) (hno : ∀ b ∈ l, b ≠ 59) :
    Calls Tryz.prog 37 #[.string (S l), .int .i64 line] w (OneDoes l line w) := by
  obtain ⟨s, hsS⟩ : ∃ s, s = S l := ⟨_, rfl⟩
  have hdat : s.data.toList = l := by rw [hsS]; rfl
  have hsz : s.size = l.length := by rw [Lib.size_eq, hdat]
  rw [← hsS]
  have HD := Lib.hid hdat
  have HZ := Lib.hid hsz
  have HNO := Lib.hid hno
  have hs' : s.size ≤ 65536 := by omega
  clear hdat hsz hsS hs hno
  go_enter Tryz.func37, Tryz.ntmps37
  go_wp2
  go_loop [6] (fun v => ∃ k : Nat, k ≤ s.size ∧ v = .int .i64 k ∧ ∀ (j : Nat) x, j < k → l[j]? = some x → ([32, 9] : List UInt8).contains x = false) (fun v => s.size - (intOf v).toNat)
  case atStart => exact ⟨0, Nat.zero_le _, rfl, fun j x h => absurd h (by omega)⟩
  case round =>
    obtain ⟨k, hk, rfl, hbl⟩ := hrel
    have HBL := Lib.hid hbl
    clear hbl
    by_cases hgo : ∃ hlt : k < s.size, blankB s[k] = false
    · obtain ⟨hlt, hne⟩ := hgo
      have hx := Lib.data_getElem? s k hlt
      rw [HD.out] at hx
      have HX := Lib.hid hx
      have HNE := Lib.hid hne
      clear hx hne
      go_wp2_with (go_at_call 51; refine (blank_any _ _).mono ?_; rintro e w1 ⟨rfl, rfl⟩; rw [HNE.out])
      go_round
      case rel => exact ⟨k + 1, by omega, by go_num, fun j x hj hx => by
        by_cases e : j = k
        · subst e; rw [HX.out] at hx; injection hx with hx; subst hx; exact HNE.out
        · exact HBL.out j x (by omega) hx⟩
      case measure => simp [intOf]; omega
    · have hk2 : blankAt l = k := blankAt_eq (by have := HZ.out; omega) HBL.out (by
        by_cases hlt : k < s.size
        · right
          refine ⟨s[k], by rw [← HD.out]; exact Lib.data_getElem? s k hlt, ?_⟩
          cases hb : ([32, 9] : List UInt8).contains s[k] with
          | true => rfl
          | false => exact absurd ⟨hlt, hb⟩ hgo
        · left; have := HZ.out; omega)
      obtain ⟨wd, hwd⟩ : ∃ wd, wd = l.take k := ⟨_, rfl⟩
      obtain ⟨rest, hrest⟩ : ∃ rest, rest = Lib.trimS (l.drop k) [32, 9] := ⟨_, rfl⟩
      have hone : oneS l = oneR wd rest := by unfold oneS; rw [hk2, hwd, hrest]
      have hex1 : s.extract 0 k = S wd := S_of_data (by rw [Lib.extract_from_zero, HD.out, hwd])
      have hex2 : s.extract k s.size = S (l.drop k) := S_of_data (by rw [Lib.extract_to_end, HD.out])
      have hb0 := fun W => Bare_any (S (l.drop k)) W (by rw [S_size]; unfold maxLen; simp; have := HZ.out; omega)
      rw [S_data, cut_drop HNO.out, ← hrest] at hb0
      have hrz : (S rest).size ≤ 65536 := by rw [S_size, hrest]; exact Nat.le_trans (trimS_length _ _) (by simp; have := HZ.out; omega)
      have HBARE := Lib.hid hb0
      have HEX1 := Lib.hid hex1
      have HEX2 := Lib.hid hex2
      have hki : (k : Int) ≤ (s.size : Int) := by omega
      have hopc := fun W => refOpOf_any (S wd) W
      rw [S_data] at hopc
      obtain ⟨op, hop⟩ : ∃ op, op = opOfL wd := ⟨_, rfl⟩
      rw [← hop] at hopc
      have HOP := Lib.hid hopc
      unfold oneR at hone
      simp only [← hop] at hone
      have hnumc := fun W => refNumber_any (S rest) W (by unfold maxLen; omega)
      rw [S_data] at hnumc
      have HNUM := Lib.hid hnumc
      have hnamc := fun W => refName_any (S rest) W (by unfold maxLen; omega)
      rw [S_data] at hnamc
      have HNAM := Lib.hid hnamc
      clear hex1 hex2 hb0 hopc hnumc hnamc hk2 hop hwd hrest HD HNO hs'
      by_cases hlt : k < s.size
      all_goals
        first
          | (have hnb : blankB s[k] = true := by
               cases hb : blankB s[k] with
               | true => rfl
               | false => exact absurd ⟨hlt, hb⟩ hgo
             have HNB := Lib.hid hnb
             clear hnb)
          | have HNB := Lib.hid (show True from trivial)
        clear hgo
        go_upto_region 6 with (first
          | (go_at_call 51; refine (blank_any _ _).mono ?_; rintro e w1 ⟨rfl, rfl⟩; rw [HNB.out])
          | (go_at_call 52; rw [HEX1.out]; refine (HOP.out _).mono ?_; rintro e w2 ⟨rfl, hb2⟩)
          | (go_at_call 34; rw [HEX2.out]; refine (HBARE.out _).mono ?_; rintro e w3 ⟨rfl, rfl⟩))
        refine wp_gen (fun W => W.heap[w.heap.size]? = some (.cells #[.int .i64 0, .int .i64 0, .int .i64 0, .string .empty] 94) ∧ Below w.heap.size w W) ⟨(hb2.block _ (by simp)).trans (heap_new _ _ _ rfl), ((Below.refl _ _).alloc (Nat.le_refl _) _).trans (hb2.mono (by simp))⟩ ?_
        rintro W ⟨hblk, hB⟩
        clear hb2
        have hW := hB.size
        have hwl := lt_of_block hblk
        have c0 := cell_of_row _ _ 0 _ _ _ hblk
        have c1 := cell_of_row _ _ 1 _ _ _ hblk
        have c2 := cell_of_row _ _ 2 _ _ _ hblk
        have c3 := cell_of_row _ _ 3 _ _ _ hblk
        have f0 := frozen_of_row _ _ 0 _ _ hblk
        have f1 := frozen_of_row _ _ 1 _ _ hblk
        have f2 := frozen_of_row _ _ 2 _ _ hblk
        have f3 := frozen_of_row _ _ 3 _ _ hblk
        have HBLK := Lib.hid hblk
        have HB := Lib.hid hB
        clear hblk hB
        by_cases o0 : op = 0
        · rw [if_pos o0] at hone
          have o1 : (op == 0) = true := by simpa using o0
          have HONE := Lib.hid hone
          clear hone o0
          go_wp2
          refine bodyPost_ret_by (one_leave (p := w.heap.size) (v := false) (four_set (B := w.heap.size) (.int .i64 0) (.int .i64 0) (.int .i64 0) (.string (S [])) HBLK.out (Nat.le_refl _)).1 rfl rfl) rfl ?_
          exact OneDoes.no _ _ _ [] HONE.out (HB.out.trans (four_set (B := w.heap.size) _ _ _ _ HBLK.out (Nat.le_refl _)).2)
        · rw [if_neg o0] at hone
          have o1 : (op == 0) = false := by simpa using o0
          obtain ⟨tk, htk⟩ : ∃ tk, takes op = tk := ⟨_, rfl⟩
          rw [htk] at hone
          have HTK := Lib.hid htk
          have htv := takes_vals op
          rw [htk] at htv
          obtain ⟨nv, hnv⟩ : ∃ nv, isNameB rest = nv := ⟨_, rfl⟩
          obtain ⟨ok, hok⟩ : ∃ ok, (numberB rest).2 = ok := ⟨_, rfl⟩
          rw [hnv, hok] at hone
          have HNV := Lib.hid hnv
          have HOK := Lib.hid hok
          clear htk hnv hok o0
          by_cases t0 : tk = 0
          · rw [if_pos t0] at hone
            subst t0
            clear htv
            cases hre : rest.isEmpty with
            | true =>
              have hre2 : (S rest).toList.isEmpty = true := by rw [S_toList]; exact hre
              rw [hre] at hone
              have HONE := Lib.hid (show oneS l = some (op, 0, []) from hone)
              clear hone hre
              go_wp2_with (first
                | (go_at_call 31; refine (refTakes_any op _).mono ?_; rintro e w4 ⟨rfl, rfl⟩; rw [HTK.out])
                | (go_at_call 35; refine (HNAM.out _).mono ?_; rintro e w5 ⟨rfl, rfl⟩; rw [HNV.out])
                | (go_at_call 53; refine (HNUM.out _).mono ?_; rintro e w6 ⟨v, rfl, hv, rfl⟩; rw [HOK.out]))
              refine bodyPost_ret_by (one_leave (p := w.heap.size) (v := true) (four_set_alloc (B := w.heap.size) (.int .i64 op) (.int .i64 0) (.int .i64 line) (.string (S [])) _ HBLK.out (Nat.le_refl _)).1 rfl rfl) rfl ?_
              exact OneDoes.yes HONE.out (HB.out.trans (four_set_alloc (B := w.heap.size) _ _ _ _ _ HBLK.out (Nat.le_refl _)).2)
            | false =>
              have hre2 : (S rest).toList.isEmpty = false := by rw [S_toList]; exact hre
              rw [hre] at hone
              have HONE := Lib.hid (show oneS l = none from hone)
              clear hone hre
              go_wp2_with (first
                | (go_at_call 31; refine (refTakes_any op _).mono ?_; rintro e w4 ⟨rfl, rfl⟩; rw [HTK.out])
                | (go_at_call 35; refine (HNAM.out _).mono ?_; rintro e w5 ⟨rfl, rfl⟩; rw [HNV.out])
                | (go_at_call 53; refine (HNUM.out _).mono ?_; rintro e w6 ⟨v, rfl, hv, rfl⟩; rw [HOK.out]))
              refine bodyPost_ret_by (one_leave (p := w.heap.size) (v := false) (four_set_alloc (B := w.heap.size) (.int .i64 op) (.int .i64 0) (.int .i64 line) (.string (S [])) _ HBLK.out (Nat.le_refl _)).1 rfl rfl) rfl ?_
              exact OneDoes.no _ _ _ [] HONE.out (HB.out.trans (four_set_alloc (B := w.heap.size) _ _ _ _ _ HBLK.out (Nat.le_refl _)).2)
          · rw [if_neg t0] at hone
            have t1 : (tk == 0) = false := by simpa using t0
            by_cases hn : tk = 3 ∧ nv = true
            · rw [if_pos hn] at hone
              obtain ⟨rfl, rfl⟩ := hn
              have HONE := Lib.hid hone
              clear hone t0 htv
              go_wp2_with (first
                | (go_at_call 31; refine (refTakes_any op _).mono ?_; rintro e w4 ⟨rfl, rfl⟩; rw [HTK.out])
                | (go_at_call 35; refine (HNAM.out _).mono ?_; rintro e w5 ⟨rfl, rfl⟩; rw [HNV.out])
                | (go_at_call 53; refine (HNUM.out _).mono ?_; rintro e w6 ⟨v, rfl, hv, rfl⟩; rw [HOK.out]))
              refine bodyPost_ret_by (one_leave (p := w.heap.size) (v := true) (four_set_alloc (B := w.heap.size) (.int .i64 op) (.int .i64 0) (.int .i64 line) (.string (S rest)) _ HBLK.out (Nat.le_refl _)).1 rfl rfl) rfl ?_
              exact OneDoes.yes HONE.out (HB.out.trans (four_set_alloc (B := w.heap.size) _ _ _ _ _ HBLK.out (Nat.le_refl _)).2)
            · rw [if_neg hn] at hone
              have hnf : tk = 3 → nv = false := fun h => by
                cases nv with
                | false => rfl
                | true => exact absurd ⟨h, rfl⟩ hn
              have HNF := Lib.hid hnf
              obtain ⟨n0, hn0⟩ : ∃ n0, (numberB rest).1 = n0 := ⟨_, rfl⟩
              rw [hn0] at hone
              have HN0 := Lib.hid hn0
              clear hn hnf hn0
              obtain rfl | rfl | rfl : tk = 1 ∨ tk = 2 ∨ tk = 3 := by omega
              · clear t0 htv HNF
                cases ok with
                | false =>
                  have HONE := Lib.hid (show oneS l = none by rw [hone]; simp)
                  clear hone
                  go_wp2_with (first
                    | (go_at_call 31; refine (refTakes_any op _).mono ?_; rintro e w4 ⟨rfl, rfl⟩; rw [HTK.out])
                    | (go_at_call 35; refine (HNAM.out _).mono ?_; rintro e w5 ⟨rfl, rfl⟩; rw [HNV.out])
                    | (go_at_call 53; refine (HNUM.out _).mono ?_; rintro e w6 ⟨v, rfl, hv, rfl⟩; rw [HOK.out]))
                  refine bodyPost_ret_by (one_leave (p := w.heap.size) (v := false) (four_set_alloc (B := w.heap.size) (.int .i64 op) (.int .i64 0) (.int .i64 line) (.string (S [])) _ HBLK.out (Nat.le_refl _)).1 rfl rfl) rfl ?_
                  exact OneDoes.no _ _ _ [] HONE.out (HB.out.trans (four_set_alloc (B := w.heap.size) _ _ _ _ _ HBLK.out (Nat.le_refl _)).2)
                | true =>
                  have HONE := Lib.hid (show oneS l = some (op, n0, []) by rw [hone]; simp)
                  clear hone
                  go_wp2_with (first
                    | (go_at_call 31; refine (refTakes_any op _).mono ?_; rintro e w4 ⟨rfl, rfl⟩; rw [HTK.out])
                    | (go_at_call 35; refine (HNAM.out _).mono ?_; rintro e w5 ⟨rfl, rfl⟩; rw [HNV.out])
                    | (go_at_call 53; refine (HNUM.out _).mono ?_; rintro e w6 ⟨v, rfl, hv, rfl⟩; rw [HOK.out]))
                  have hvn : v = n0 := (hv HOK.out).trans HN0.out
                  subst hvn
                  refine bodyPost_ret_by (one_leave (p := w.heap.size) (v := true) (four_set_alloc (B := w.heap.size) (.int .i64 op) (.int .i64 v) (.int .i64 line) (.string (S [])) _ HBLK.out (Nat.le_refl _)).1 rfl rfl) rfl ?_
                  exact OneDoes.yes HONE.out (HB.out.trans (four_set_alloc (B := w.heap.size) _ _ _ _ _ HBLK.out (Nat.le_refl _)).2)
              · clear t0 htv HNF
                cases ok with
                | false =>
                  have HONE := Lib.hid (show oneS l = none by rw [hone]; simp)
                  clear hone
                  go_wp2_with (first
                    | (go_at_call 31; refine (refTakes_any op _).mono ?_; rintro e w4 ⟨rfl, rfl⟩; rw [HTK.out])
                    | (go_at_call 35; refine (HNAM.out _).mono ?_; rintro e w5 ⟨rfl, rfl⟩; rw [HNV.out])
                    | (go_at_call 53; refine (HNUM.out _).mono ?_; rintro e w6 ⟨v, rfl, hv, rfl⟩; rw [HOK.out]))
                  refine bodyPost_ret_by (one_leave (p := w.heap.size) (v := false) (four_set_alloc (B := w.heap.size) (.int .i64 op) (.int .i64 0) (.int .i64 line) (.string (S [])) _ HBLK.out (Nat.le_refl _)).1 rfl rfl) rfl ?_
                  exact OneDoes.no _ _ _ [] HONE.out (HB.out.trans (four_set_alloc (B := w.heap.size) _ _ _ _ _ HBLK.out (Nat.le_refl _)).2)
                | true =>
                  by_cases hlo : n0 < 0
                  · have HONE := Lib.hid (show oneS l = none by rw [hone]; simp [hlo])
                    clear hone
                    go_wp2_with (first
                      | (go_at_call 31; refine (refTakes_any op _).mono ?_; rintro e w4 ⟨rfl, rfl⟩; rw [HTK.out])
                      | (go_at_call 35; refine (HNAM.out _).mono ?_; rintro e w5 ⟨rfl, rfl⟩; rw [HNV.out])
                      | (go_at_call 53; refine (HNUM.out _).mono ?_; rintro e w6 ⟨v, rfl, hv, rfl⟩; rw [HOK.out]; obtain rfl : v = n0 := (hv HOK.out).trans HN0.out; clear hv))
                    refine bodyPost_ret_by (one_leave (p := w.heap.size) (v := false) (four_set_alloc (B := w.heap.size) (.int .i64 op) (.int .i64 0) (.int .i64 line) (.string (S [])) _ HBLK.out (Nat.le_refl _)).1 rfl rfl) rfl ?_
                    exact OneDoes.no _ _ _ [] HONE.out (HB.out.trans (four_set_alloc (B := w.heap.size) _ _ _ _ _ HBLK.out (Nat.le_refl _)).2)
                  · by_cases hhi : 8 ≤ n0
                    · have HONE := Lib.hid (show oneS l = none by rw [hone]; simp [hhi])
                      clear hone
                      go_wp2_with (first
                        | (go_at_call 31; refine (refTakes_any op _).mono ?_; rintro e w4 ⟨rfl, rfl⟩; rw [HTK.out])
                        | (go_at_call 35; refine (HNAM.out _).mono ?_; rintro e w5 ⟨rfl, rfl⟩; rw [HNV.out])
                        | (go_at_call 53; refine (HNUM.out _).mono ?_; rintro e w6 ⟨v, rfl, hv, rfl⟩; rw [HOK.out]; obtain rfl : v = n0 := (hv HOK.out).trans HN0.out; clear hv))
                      refine bodyPost_ret_by (one_leave (p := w.heap.size) (v := false) (four_set_alloc (B := w.heap.size) (.int .i64 op) (.int .i64 0) (.int .i64 line) (.string (S [])) _ HBLK.out (Nat.le_refl _)).1 rfl rfl) rfl ?_
                      exact OneDoes.no _ _ _ [] HONE.out (HB.out.trans (four_set_alloc (B := w.heap.size) _ _ _ _ _ HBLK.out (Nat.le_refl _)).2)
                    · have HONE := Lib.hid (show oneS l = some (op, n0, []) by rw [hone]; rw [if_neg]; simp; omega)
                      clear hone
                      go_wp2_with (first
                        | (go_at_call 31; refine (refTakes_any op _).mono ?_; rintro e w4 ⟨rfl, rfl⟩; rw [HTK.out])
                        | (go_at_call 35; refine (HNAM.out _).mono ?_; rintro e w5 ⟨rfl, rfl⟩; rw [HNV.out])
                        | (go_at_call 53; refine (HNUM.out _).mono ?_; rintro e w6 ⟨v, rfl, hv, rfl⟩; rw [HOK.out]; obtain rfl : v = n0 := (hv HOK.out).trans HN0.out; clear hv))
                      refine bodyPost_ret_by (one_leave (p := w.heap.size) (v := true) (four_set_alloc (B := w.heap.size) (.int .i64 op) (.int .i64 v) (.int .i64 line) (.string (S [])) _ HBLK.out (Nat.le_refl _)).1 rfl rfl) rfl ?_
                      exact OneDoes.yes HONE.out (HB.out.trans (four_set_alloc (B := w.heap.size) _ _ _ _ _ HBLK.out (Nat.le_refl _)).2)
              · have hnf := HNF.out rfl
                subst hnf
                clear t0 htv HNF
                cases ok with
                | false =>
                  have HONE := Lib.hid (show oneS l = none by rw [hone]; simp)
                  clear hone
                  go_wp2_with (first
                    | (go_at_call 31; refine (refTakes_any op _).mono ?_; rintro e w4 ⟨rfl, rfl⟩; rw [HTK.out])
                    | (go_at_call 35; refine (HNAM.out _).mono ?_; rintro e w5 ⟨rfl, rfl⟩; rw [HNV.out])
                    | (go_at_call 53; refine (HNUM.out _).mono ?_; rintro e w6 ⟨v, rfl, hv, rfl⟩; rw [HOK.out]))
                  refine bodyPost_ret_by (one_leave (p := w.heap.size) (v := false) (four_set_alloc (B := w.heap.size) (.int .i64 op) (.int .i64 0) (.int .i64 line) (.string (S [])) _ HBLK.out (Nat.le_refl _)).1 rfl rfl) rfl ?_
                  exact OneDoes.no _ _ _ [] HONE.out (HB.out.trans (four_set_alloc (B := w.heap.size) _ _ _ _ _ HBLK.out (Nat.le_refl _)).2)
                | true =>
                  by_cases hlo : n0 < 0
                  · have HONE := Lib.hid (show oneS l = none by rw [hone]; simp [hlo])
                    clear hone
                    go_wp2_with (first
                      | (go_at_call 31; refine (refTakes_any op _).mono ?_; rintro e w4 ⟨rfl, rfl⟩; rw [HTK.out])
                      | (go_at_call 35; refine (HNAM.out _).mono ?_; rintro e w5 ⟨rfl, rfl⟩; rw [HNV.out])
                      | (go_at_call 53; refine (HNUM.out _).mono ?_; rintro e w6 ⟨v, rfl, hv, rfl⟩; rw [HOK.out]; obtain rfl : v = n0 := (hv HOK.out).trans HN0.out; clear hv))
                    refine bodyPost_ret_by (one_leave (p := w.heap.size) (v := false) (four_set_alloc (B := w.heap.size) (.int .i64 op) (.int .i64 0) (.int .i64 line) (.string (S [])) _ HBLK.out (Nat.le_refl _)).1 rfl rfl) rfl ?_
                    exact OneDoes.no _ _ _ [] HONE.out (HB.out.trans (four_set_alloc (B := w.heap.size) _ _ _ _ _ HBLK.out (Nat.le_refl _)).2)
                  · have HONE := Lib.hid (show oneS l = some (op, n0, []) by rw [hone]; rw [if_neg]; simp; omega)
                    clear hone
                    go_wp2_with (first
                      | (go_at_call 31; refine (refTakes_any op _).mono ?_; rintro e w4 ⟨rfl, rfl⟩; rw [HTK.out])
                      | (go_at_call 35; refine (HNAM.out _).mono ?_; rintro e w5 ⟨rfl, rfl⟩; rw [HNV.out])
                      | (go_at_call 53; refine (HNUM.out _).mono ?_; rintro e w6 ⟨v, rfl, hv, rfl⟩; rw [HOK.out]; obtain rfl : v = n0 := (hv HOK.out).trans HN0.out; clear hv))
                    refine bodyPost_ret_by (one_leave (p := w.heap.size) (v := true) (four_set_alloc (B := w.heap.size) (.int .i64 op) (.int .i64 v) (.int .i64 line) (.string (S [])) _ HBLK.out (Nat.le_refl _)).1 rfl rfl) rfl ?_
                    exact OneDoes.yes HONE.out (HB.out.trans (four_set_alloc (B := w.heap.size) _ _ _ _ _ HBLK.out (Nat.le_refl _)).2)
end Go.Proofs.YtojgdabkdbchnaaGreatDoor
