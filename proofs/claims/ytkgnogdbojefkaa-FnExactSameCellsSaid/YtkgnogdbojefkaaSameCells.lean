/- SameCells, both. -/
import Derived.Test.YtkgnogdbojefkaaEqStruct2
namespace Go.Proofs.Ytkgnogdbojefkaa
open Go.RowKit

theorem cell_eq (x y : CellD) : pB (x = y) = (decide (x.Key = y.Key) && pB (x.Vers = y.Vers)) := by
  refine pB_eq ?_
  obtain ⟨K, V⟩ := x
  obtain ⟨K', V'⟩ := y
  simp only [CellD.mk.injEq, Bool.and_eq_true, decide_eq_true_eq, pB_iff]

/-- the closure of impl.SameCells -/
theorem cellsEq_closure (x y : CellD) (hx : x.Vers.length ≤ 1048576) (hy : y.Vers.length ≤ 1048576) (w : World) (u v : Value) (ru : Rd Cod.ver w u x.Vers) (rv : Rd Cod.ver w v y.Vers) :
    Calls Try.prog 110 #[.agg #[.string x.Key, u], .agg #[.string y.Key, v]] w fun e w' => e = .returned (.bool (pB (x = y))) ∧ Below w.heap.size w w' := by
  have Hc := Lib.hid (fun (W : World) (r1 : Rd Cod.ver W u x.Vers) (r2 : Rd Cod.ver W v y.Vers) => equalVer_any u v x.Vers y.Vers hx hy W r1 r2)
  have Hr1 := Lib.hid ru
  have Hr2 := Lib.hid rv
  clear ru rv hx hy
  have Hq := Lib.hid (cell_eq x y)
  generalize pB (x = y) = q at *
  obtain ⟨K, V⟩ := x
  obtain ⟨K', V'⟩ := y
  simp only at *
  generalize pB (V = V') = qv at *
  by_cases h : K = K'
  · have Hf : Hid (q = qv) := Lib.hid (by rw [Hq.out]; simp [h])
    clear Hq
    subst h
    go_enter Try.func110, Try.ntmps110
    go_wp2_with fail
    refine (Hc.out _ (Hr1.out.below (by (repeat (first | (with_reducible exact Below.refl _ _) | (with_reducible refine below_setCell ?_ (by first | (simp; done) | (simp; omega) | omega)) | (with_reducible refine below_alloc _ ?_) | (with_reducible refine below_drewN ?_ _) | (with_reducible assumption) | (with_reducible refine below_after (by assumption) ?_))))) (Hr2.out.below (by (repeat (first | (with_reducible exact Below.refl _ _) | (with_reducible refine below_setCell ?_ (by first | (simp; done) | (simp; omega) | omega)) | (with_reducible refine below_alloc _ ?_) | (with_reducible refine below_drewN ?_ _) | (with_reducible assumption) | (with_reducible refine below_after (by assumption) ?_)))))).mono ?_
    rintro e w1 ⟨rfl, k1⟩
    go_wp2
    go_ret
    exact ⟨ret_bool (by rw [Hf.out]), by (repeat (first | (with_reducible exact Below.refl _ _) | (with_reducible refine below_setCell ?_ (by first | (simp; done) | (simp; omega) | omega)) | (with_reducible refine below_alloc _ ?_) | (with_reducible refine below_drewN ?_ _) | (with_reducible assumption) | (with_reducible refine below_after (by assumption) ?_)))⟩
  · have Hf : Hid (q = false) := Lib.hid (by rw [Hq.out]; simp [h])
    have hn := str_ne h
    clear Hq h
    go_enter Try.func110, Try.ntmps110
    go_wp2
    go_ret
    exact ⟨ret_bool (by rw [Hf.out]), by (repeat (first | (with_reducible exact Below.refl _ _) | (with_reducible refine below_setCell ?_ (by first | (simp; done) | (simp; omega) | omega)) | (with_reducible refine below_alloc _ ?_) | (with_reducible refine below_drewN ?_ _) | (with_reducible assumption) | (with_reducible refine below_after (by assumption) ?_)))⟩

theorem vers_short {l : List CellD} (hl : costCellS l ≤ 1048576) {k : Nat} (hk : k < l.length) : l[k].Vers.length ≤ 1048576 := by
  have h2 := sumC_get costCell l k hk
  unfold costCellS at hl
  have h3 : l[k].Vers.length ≤ costCell l[k] := by unfold costCell costVerS; omega
  omega

set_option maxRecDepth 100000 in
set_option maxHeartbeats 1600000 in
/-- slices.EqualFunc at the closure -/
theorem equalFuncCell_any (v1 v2 : Value) (l1 l2 : List CellD) (hl1 : costCellS l1 ≤ 1048576) (hl2 : costCellS l2 ≤ 1048576) (w : World) (h1 : Rd Cod.cell w v1 l1) (h2 : Rd Cod.cell w v2 l2) :
    Calls Try.prog 109 #[v1, v2, .func (.func 110) #[] #[]] w fun e w' => e = .returned (.bool (pB (l1 = l2))) ∧ Below w.heap.size w w' := by
  obtain ⟨p1, c1, rfl, _, _, r1⟩ := h1.form
  obtain ⟨p2, c2, rfl, _, _, r2⟩ := h2.form
  have R1 := Lib.hid r1
  have R2 := Lib.hid r2
  have Hs1 := Lib.hid hl1
  have Hs2 := Lib.hid hl2
  clear r1 r2 h1 h2
  by_cases hlen : l1.length = l2.length
  rotate_left
  · have Hq : Hid (pB (l1 = l2) = false) := Lib.hid (pB_false fun e => hlen (by rw [e]))
    clear R1 R2
    have hne : ¬ ((l1.length : Int) = (l2.length : Int)) := by omega
    clear hl1 hl2 Hs1 Hs2
    generalize l1.length = n1 at *
    generalize l2.length = n2 at *
    go_enter Try.func109, Try.ntmps109
    go_wp2
    go_ret
    exact ⟨ret_bool (by rw [Hq.out]), Below.refl _ _⟩
  obtain ⟨n, hn⟩ : ∃ n : Nat, l1.length = n := ⟨_, rfl⟩
  have Hn1 := Lib.hid hn
  have Hn2 : Hid (l2.length = n) := Lib.hid (by omega)
  have hnb : (n : Int) ≤ 1048576 := by unfold costCellS at hl1; omega
  rw [← hlen, hn]
  clear hn hl1 hl2 hlen
  go_enter Try.func109, Try.ntmps109
  go_wp2
  go_loopw [17] (fun i wr => ∃ k : Nat, i = .int .i64 (k : Int) ∧ k ≤ n ∧ Hid (∀ j (a : j < l1.length) (b : j < l2.length), j < k → l1[j] = l2[j]) ∧ Below w.heap.size w wr) (fun i _ => n - (intOf i).toNat)
  case atStart => exact ⟨0, rfl, Nat.zero_le _, Lib.hid (fun j _ _ h => by omega), Below.refl _ _⟩
  case round =>
    obtain ⟨k, rfl, hk, Hall, hb⟩ := hrel
    by_cases hlt : k < n
    · have hlt2 : (k : Int) < (n : Int) := by omega
      have hk1 : k < l1.length := by have := Hn1.out; omega
      have hk2 : k < l2.length := by have := Hn2.out; omega
      obtain ⟨g1, o1, rfl, hg1, hc1⟩ := R1.out (by have := Hn1.out; omega)
      obtain ⟨g2, o2, rfl, hg2, hc2⟩ := R2.out (by have := Hn2.out; omega)
      have at1 := (hc1 k hk1).below hg1 hb
      have at2 := (hc2 k hk2).below hg2 hb
      have hg1' : g1 < wr.heap.size := by have := hb.size; omega
      have hg2' : g2 < wr.heap.size := by have := hb.size; omega
      have hv1 := vers_short Hs1.out hk1
      have hv2 := vers_short Hs2.out hk2
      have Hne : Hid (pB (l1[k] = l2[k]) = false → pB (l1 = l2) = false) := Lib.hid fun h => pB_false fun e => by
        have : pB (l1[k] = l2[k]) = true := pB_true (by subst e; rfl)
        rw [h] at this
        cases this
      have Hnx : Hid (pB (l1[k] = l2[k]) = true → ∀ j (a : j < l1.length) (b : j < l2.length), j < k + 1 → l1[j] = l2[j]) := Lib.hid fun h j a b hj => by
        by_cases e : j = k
        · subst e; exact pB_iff.1 h
        · exact Hall.out j a b (by omega)
      obtain ⟨x, es⟩ : ∃ x, l1[k] = x := ⟨_, rfl⟩
      obtain ⟨y, et⟩ : ∃ y, l2[k] = y := ⟨_, rfl⟩
      rw [es] at at1 Hne Hnx hv1
      rw [et] at at2 Hne Hnx hv2
      clear hc1 hc2 es et hk1 hk2
      obtain ⟨d0, ⟨u, d1, ru⟩, _⟩ := at_cell at1
      obtain ⟨e0, ⟨v, e1, rv⟩, _⟩ := at_cell at2
      rw [show o1 + k * Cod.cell.size = o1 + k * 2 from rfl, show o2 + k * Cod.cell.size = o2 + k * 2 from rfl] at *
      obtain ⟨pu, cu, rfl, _⟩ := ru.form
      obtain ⟨pv, cv, rfl, _⟩ := rv.form
      clear at1 at2
      have Hc := Lib.hid (fun (W : World) (r1 : Rd Cod.ver W (.slice pu x.Vers.length cu) x.Vers) (r2 : Rd Cod.ver W (.slice pv y.Vers.length cv) y.Vers) => cellsEq_closure x y hv1 hv2 W _ _ r1 r2)
      clear hv1 hv2
      generalize pB (x = y) = q at *
      cases q
      · have Hq := Lib.hid (Hne.out (by first | rfl | trivial))
        clear Hne Hnx
        go_wp2_with fail
        refine (Hc.out _ (ru.below (by (repeat (first | (with_reducible exact Below.refl _ _) | (with_reducible refine below_setCell ?_ (by first | (simp; done) | (simp; omega) | omega)) | (with_reducible refine below_alloc _ ?_) | (with_reducible refine below_drewN ?_ _) | (with_reducible assumption) | (with_reducible refine below_after (by assumption) ?_))))) (rv.below (by (repeat (first | (with_reducible exact Below.refl _ _) | (with_reducible refine below_setCell ?_ (by first | (simp; done) | (simp; omega) | omega)) | (with_reducible refine below_alloc _ ?_) | (with_reducible refine below_drewN ?_ _) | (with_reducible assumption) | (with_reducible refine below_after (by assumption) ?_)))))).mono ?_
        rintro e w1 ⟨rfl, kk⟩
        have b1 : Below w.heap.size w w1 := below_after kk (by (repeat (first | (with_reducible exact Below.refl _ _) | (with_reducible refine below_setCell ?_ (by first | (simp; done) | (simp; omega) | omega)) | (with_reducible refine below_alloc _ ?_) | (with_reducible refine below_drewN ?_ _) | (with_reducible assumption) | (with_reducible refine below_after (by assumption) ?_))))
        go_wp2
        go_ret
        exact ⟨ret_bool (by rw [Hq.out]), b1⟩
      · have Hq := Lib.hid (Hnx.out (by first | rfl | trivial))
        clear Hne Hnx
        go_wp2_with fail
        refine (Hc.out _ (ru.below (by (repeat (first | (with_reducible exact Below.refl _ _) | (with_reducible refine below_setCell ?_ (by first | (simp; done) | (simp; omega) | omega)) | (with_reducible refine below_alloc _ ?_) | (with_reducible refine below_drewN ?_ _) | (with_reducible assumption) | (with_reducible refine below_after (by assumption) ?_))))) (rv.below (by (repeat (first | (with_reducible exact Below.refl _ _) | (with_reducible refine below_setCell ?_ (by first | (simp; done) | (simp; omega) | omega)) | (with_reducible refine below_alloc _ ?_) | (with_reducible refine below_drewN ?_ _) | (with_reducible assumption) | (with_reducible refine below_after (by assumption) ?_)))))).mono ?_
        rintro e w1 ⟨rfl, kk⟩
        have b1 : Below w.heap.size w w1 := below_after kk (by (repeat (first | (with_reducible exact Below.refl _ _) | (with_reducible refine below_setCell ?_ (by first | (simp; done) | (simp; omega) | omega)) | (with_reducible refine below_alloc _ ?_) | (with_reducible refine below_drewN ?_ _) | (with_reducible assumption) | (with_reducible refine below_after (by assumption) ?_))))
        go_wp2
        go_roundw
        case rel => exact ⟨k + 1, by go_num, by omega, Hq, b1⟩
        case measure => simp [intOf]; omega
    · have hlt2 : (n : Int) ≤ (k : Int) := by omega
      obtain rfl : k = n := by omega
      have Hq : Hid (pB (l1 = l2) = true) := Lib.hid (pB_true (List.ext_getElem (by rw [Hn1.out, Hn2.out]) fun j a b => Hall.out j a b (by have := Hn1.out; omega)))
      go_wp2
      go_ret
      exact ⟨ret_bool (by rw [Hq.out]), hb⟩

/-- impl.SameCells -/
theorem sameCells_any (v1 v2 : Value) (l1 l2 : List CellD) (hl1 : costCellS l1 ≤ 1048576) (hl2 : costCellS l2 ≤ 1048576) (w : World) (h1 : Rd Cod.cell w v1 l1) (h2 : Rd Cod.cell w v2 l2) :
    Calls Try.prog 45 #[v1, v2] w fun e w' => e = .returned (.bool (pB (l1 = l2))) ∧ Below w.heap.size w w' := by
  have Hc := Lib.hid (equalFuncCell_any v1 v2 l1 l2 hl1 hl2 w h1 h2)
  go_enter Try.func45, Try.ntmps45
  go_wp2_with fail
  refine Hc.out.mono ?_
  rintro e w1 ⟨rfl, k1⟩
  go_wp2
  go_ret
  exact ⟨rfl, k1⟩

set_option maxRecDepth 100000 in
set_option maxHeartbeats 3200000 in
/-- spec.SameCells -/
theorem sameCellsS_any (v1 v2 : Value) (l1 l2 : List CellD) (hl1 : costCellS l1 ≤ 1048576) (hl2 : costCellS l2 ≤ 1048576) (w : World) (h1 : Rd Cod.cell w v1 l1) (h2 : Rd Cod.cell w v2 l2) :
    Calls Try.prog 43 #[v1, v2] w fun e w' => e = .returned (.bool (pB (l1 = l2))) ∧ Below w.heap.size w w' := by
  obtain ⟨p1, c1, rfl, _, _, r1⟩ := h1.form
  obtain ⟨p2, c2, rfl, _, _, r2⟩ := h2.form
  have R1 := Lib.hid r1
  have R2 := Lib.hid r2
  have Hs1 := Lib.hid hl1
  have Hs2 := Lib.hid hl2
  clear r1 r2 h1 h2
  by_cases hlen : l1.length = l2.length
  rotate_left
  · have Hq : Hid (pB (l1 = l2) = false) := Lib.hid (pB_false fun e => hlen (by rw [e]))
    clear R1 R2
    have hne : ¬ ((l1.length : Int) = (l2.length : Int)) := by omega
    clear hl1 hl2 Hs1 Hs2
    generalize l1.length = n1 at *
    generalize l2.length = n2 at *
    go_enter Try.func43, Try.ntmps43
    go_wp2
    go_ret
    exact ⟨ret_bool (by rw [Hq.out]), Below.refl _ _⟩
  obtain ⟨n, hn⟩ : ∃ n : Nat, l1.length = n := ⟨_, rfl⟩
  have Hn1 := Lib.hid hn
  have Hn2 : Hid (l2.length = n) := Lib.hid (by omega)
  have hnb : (n : Int) ≤ 1048576 := by unfold costCellS at hl1; omega
  rw [← hlen, hn]
  clear hn hl1 hl2 hlen
  go_enter Try.func43, Try.ntmps43
  go_wp2
  go_loopw [16] (fun i wr => ∃ k : Nat, i = .int .i64 (k : Int) ∧ k ≤ n ∧ Hid (∀ j (a : j < l1.length) (b : j < l2.length), j < k → l1[j] = l2[j]) ∧ Below w.heap.size w wr) (fun i _ => n - (intOf i).toNat)
  case atStart => exact ⟨0, rfl, Nat.zero_le _, Lib.hid (fun j _ _ h => by omega), Below.refl _ _⟩
  case round =>
    obtain ⟨k, rfl, hk, Hall, hb⟩ := hrel
    by_cases hlt : k < n
    rotate_left
    · have hlt2 : (n : Int) ≤ (k : Int) := by omega
      obtain rfl : k = n := by omega
      have Hq : Hid (pB (l1 = l2) = true) := Lib.hid (pB_true (List.ext_getElem (by rw [Hn1.out, Hn2.out]) fun j a b => Hall.out j a b (by have := Hn1.out; omega)))
      go_wp2
      go_ret
      exact ⟨ret_bool (by rw [Hq.out]), hb⟩
    have hlt2 : (k : Int) < (n : Int) := by omega
    have hk1 : k < l1.length := by have := Hn1.out; omega
    have hk2 : k < l2.length := by have := Hn2.out; omega
    obtain ⟨g1, o1, rfl, hg1, hc1⟩ := R1.out (by have := Hn1.out; omega)
    obtain ⟨g2, o2, rfl, hg2, hc2⟩ := R2.out (by have := Hn2.out; omega)
    have at1 := (hc1 k hk1).below hg1 hb
    have at2 := (hc2 k hk2).below hg2 hb
    have hg1' : g1 < wr.heap.size := by have := hb.size; omega
    have hg2' : g2 < wr.heap.size := by have := hb.size; omega
    have hv1 := vers_short Hs1.out hk1
    have Hne : Hid (¬ l1[k] = l2[k] → pB (l1 = l2) = false) := Lib.hid fun h => pB_false fun e => h (by subst e; rfl)
    have Hnx : Hid (l1[k] = l2[k] → ∀ j (a : j < l1.length) (b : j < l2.length), j < k + 1 → l1[j] = l2[j]) := Lib.hid fun h j a b hj => by
      by_cases e : j = k
      · subst e; exact h
      · exact Hall.out j a b (by omega)
    obtain ⟨x, es⟩ : ∃ x, l1[k] = x := ⟨_, rfl⟩
    obtain ⟨y, et⟩ : ∃ y, l2[k] = y := ⟨_, rfl⟩
    rw [es] at at1 Hne Hnx hv1
    rw [et] at at2 Hne Hnx
    clear hc1 hc2 es et hk1 hk2
    obtain ⟨d0, ⟨u, d1, ru⟩, _⟩ := at_cell at1
    obtain ⟨e0, ⟨v, e1, rv⟩, _⟩ := at_cell at2
    rw [show o1 + k * Cod.cell.size = o1 + k * 2 from rfl, show o2 + k * Cod.cell.size = o2 + k * 2 from rfl] at *
    obtain ⟨pu, cu, rfl, _, _, fu⟩ := ru.form
    obtain ⟨pv, cv, rfl, _, _, fv⟩ := rv.form
    have Fu := Lib.hid fu
    have Fv := Lib.hid fv
    clear at1 at2 fu fv ru rv
    obtain ⟨K, V⟩ := x
    obtain ⟨K', V'⟩ := y
    simp only at *
    by_cases hkey : K = K'
    rotate_left
    · have Hq := Lib.hid (Hne.out (fun e => hkey (by injection e)))
      have hks := str_ne hkey
      clear Hne Hnx hkey
      go_wp2
      go_ret
      exact ⟨ret_bool (by rw [Hq.out]), by (repeat (first | (with_reducible exact Below.refl _ _) | (with_reducible refine below_setCell ?_ (by first | (simp; done) | (simp; omega) | omega)) | (with_reducible refine below_alloc _ ?_) | (with_reducible refine below_drewN ?_ _) | (with_reducible assumption) | (with_reducible refine below_after (by assumption) ?_)))⟩
    subst hkey
    by_cases hvl : V.length = V'.length
    rotate_left
    · have Hq := Lib.hid (Hne.out (fun e => hvl (by injection e with _ e; rw [e])))
      clear Hne Hnx Fu Fv
      have hvl2 : ¬ ((V.length : Int) = (V'.length : Int)) := by omega
      generalize V.length = m1 at *
      generalize V'.length = m2 at *
      go_wp2
      go_ret
      exact ⟨ret_bool (by rw [Hq.out]), by (repeat (first | (with_reducible exact Below.refl _ _) | (with_reducible refine below_setCell ?_ (by first | (simp; done) | (simp; omega) | omega)) | (with_reducible refine below_alloc _ ?_) | (with_reducible refine below_drewN ?_ _) | (with_reducible assumption) | (with_reducible refine below_after (by assumption) ?_)))⟩
    obtain ⟨m, hm⟩ : ∃ m : Nat, V.length = m := ⟨_, rfl⟩
    have Hm1 := Lib.hid hm
    have Hm2 : Hid (V'.length = m) := Lib.hid (by omega)
    have hmb : (m : Int) ≤ 1048576 := by omega
    rw [← hvl, hm] at e1
    rw [hm] at d1
    clear hm hvl hv1
    obtain ⟨wo, rfl⟩ : ∃ wo : World, wo = wr := ⟨_, rfl⟩
    go_wp2
    go_loopw [42] (fun i wi => ∃ j : Nat, i = .int .i64 (j : Int) ∧ j ≤ m ∧ Hid (∀ t (a : t < V.length) (b : t < V'.length), t < j → V[t] = V'[t]) ∧ wi.cell? ⟨wo.heap.size, 1, none⟩ = some (.slice pu m cu) ∧ wi.cell? ⟨wo.heap.size + 1, 1, none⟩ = some (.slice pv m cv) ∧ Below wo.heap.size wo wi) (fun i _ => m - (intOf i).toNat)
    case atStart => exact ⟨0, rfl, Nat.zero_le _, Lib.hid (fun t _ _ h => by omega), by simp [go_sem], by simp [go_sem], by (repeat (first | (with_reducible exact Below.refl _ _) | (with_reducible refine below_setCell ?_ (by first | (simp; done) | (simp; omega) | omega)) | (with_reducible refine below_alloc _ ?_) | (with_reducible refine below_drewN ?_ _) | (with_reducible assumption) | (with_reducible refine below_after (by assumption) ?_)))⟩
    case round =>
      obtain ⟨j, rfl, hj, Hin, a0, a1, hbi⟩ := hrel
      by_cases hjm : j < m
      · have hjm2 : (j : Int) < (m : Int) := by omega
        have hj1 : j < V.length := by have := Hm1.out; omega
        have hj2 : j < V'.length := by have := Hm2.out; omega
        obtain ⟨ga, oa, rfl, hga, hca⟩ := Fu.out (by have := Hm1.out; omega)
        obtain ⟨gb, ob, rfl, hgb, hcb⟩ := Fv.out (by have := Hm2.out; omega)
        have at1 := (hca j hj1).below hga hbi
        have at2 := (hcb j hj2).below hgb hbi
        have Hne2 : Hid (¬ V[j] = V'[j] → pB (l1 = l2) = false) := Lib.hid fun h => Hne.out fun e => h (by injection e with _ e; subst e; rfl)
        have Hnx2 : Hid (V[j] = V'[j] → ∀ t (a : t < V.length) (b : t < V'.length), t < j + 1 → V[t] = V'[t]) := Lib.hid fun h t a b ht => by
          by_cases e : t = j
          · subst e; exact h
          · exact Hin.out t a b (by omega)
        obtain ⟨x, es⟩ : ∃ x, V[j] = x := ⟨_, rfl⟩
        obtain ⟨y, et⟩ : ∃ y, V'[j] = y := ⟨_, rfl⟩
        rw [es] at at1 Hne2 Hnx2
        rw [et] at at2 Hne2 Hnx2
        clear hca hcb es et hj1 hj2 d0 d1 e0 e1
        obtain ⟨d0, d1, d2, _, _⟩ := at_ver at1
        obtain ⟨e0, e1, e2, _, _⟩ := at_ver at2
        rw [show oa + j * Cod.ver.size = oa + j * 3 from rfl, show ob + j * Cod.ver.size = ob + j * 3 from rfl] at *
        clear at1 at2
        have hne := neq_ver x y
        have hgd := fun (W : World) (a b : Operand) (xs ys : Array Value) => run_eqGuard_agg (P := Try.prog) W .neq 139 a b xs ys (by kernel_rfl)
        by_cases hxy : x = y
        · rw [pB_true hxy] at hne
          have Hq := Lib.hid (Hnx2.out hxy)
          clear Hne2 Hnx2 hxy
          go_wp2
          go_quiet (fail)
          clear hne hgd
          go_wp2
          go_roundw
          case rel => exact ⟨j + 1, by go_num, by omega, Hq, a0, a1, below_drewN hbi _⟩
          case measure => simp [intOf]; omega
        · rw [pB_false hxy] at hne
          have Hq := Lib.hid (Hne2.out hxy)
          clear Hne2 Hnx2 hxy
          go_wp2
          go_quiet (fail)
          clear hne hgd
          go_wp2
          go_ret
          exact ⟨ret_bool (by rw [Hq.out]), (below_drewN (hb.trans (hbi.mono hb.size)) _)⟩
      · have hjm2 : (m : Int) ≤ (j : Int) := by omega
        obtain rfl : j = m := by omega
        have Hq := Lib.hid (Hnx.out (by rw [show V = V' from List.ext_getElem (by rw [Hm1.out, Hm2.out]) fun t a b => Hin.out t a b (by have := Hm1.out; omega)]))
        clear Hne Hnx
        go_wp2
        go_roundw
        case rel => exact ⟨k + 1, by go_num, by omega, Hq, hb.trans (hbi.mono hb.size)⟩
        case measure => simp [intOf]; omega

end Go.Proofs.Ytkgnogdbojefkaa
