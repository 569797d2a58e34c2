/- lastTime and l3Last where the cells rise and hold versions. Printed out of XLastT. -/
import Derived.Test.YtkcidneefdaaiaaPutCL
namespace Go.Proofs.Ytkcidneefdaaiaa
open Go.RowKit

/-- Where the last version of cell k lies. -/
theorem last_cellsW {l : List CellD} (hl : costCellS l ≤ 1048576) (hg : WeakC l) {w : World} {v : Value} (h : Rd Cod.cell w v l) {k : Nat} (hk : k < l.length) :
    ∃ p c g o gv ov cu m, v = .slice p l.length c ∧ p = some ⟨g, o, none⟩ ∧ g < w.heap.size ∧ w.cell? ⟨g, o + k * 2 + 1, none⟩ = some (.slice (some ⟨gv, ov, none⟩) (m + 1) cu) ∧ m ≤ 1048576 ∧ gv < w.heap.size ∧ w.cell? ⟨gv, ov + m * 3, none⟩ = some (.int .i64 (lastV l[k].Vers)) := by
  obtain ⟨p, c, rfl, _, _, r⟩ := h.form
  obtain ⟨g, o, rfl, hg1, hc⟩ := r (by omega)
  obtain ⟨_, ⟨u, d1, ru⟩, _⟩ := at_cell (hc k hk)
  have h1 := hg.some k hk
  have h2 : l[k].Vers.length ≤ 1048576 := by
    have q1 := sumC_get costCell l k hk
    have q2 : costCell l[k] = l[k].Key.size + costVerS l[k].Vers := rfl
    unfold costCellS at hl
    unfold costVerS at q2
    omega
  obtain ⟨pu, cu, rfl, _, _, fu⟩ := ru.form
  obtain ⟨m, hm⟩ : ∃ m, m + 1 = l[k].Vers.length := ⟨l[k].Vers.length - 1, by omega⟩
  obtain ⟨gv, ov, rfl, hgv, hcv⟩ := fu (by omega)
  have at1 := (at_ver (hcv m (by omega))).1
  refine ⟨_, c, g, o, gv, ov, cu, m, rfl, rfl, hg1, ?_, by omega, hgv, ?_⟩
  · rw [hm]; exact d1
  · rw [lastV_get hm]; exact at1

set_option maxRecDepth 100000 in
set_option maxHeartbeats 800000 in
/-- spec.l3Last -/
theorem l3LastW_any (v : Value) (l : List CellD) (key : ByteArray) (hl : costCellS l ≤ 1048576) (hg : WeakC l) (w : World) (h : Rd Cod.cell w v l) :
    Calls Try.prog 56 #[v, .string key] w fun e w' => e = .returned (.int .i64 (lastT l key)) ∧ Below w.heap.size w w' := by
  have Hc := Lib.hid (l3At_any v l key hl w h)
  have hnb : (l.length : Int) ≤ 1048576 := by unfold costCellS at hl; omega
  have Hk : Hid (∀ k, HasAt l key k → k < l.length ∧ lastT l key = lastV (l[k]?.getD ⟨⟨#[]⟩, []⟩).Vers) := Lib.hid fun k ⟨h1, h2⟩ => ⟨h1, by
    unfold lastT
    rw [cellK_some (hg.rise) h1 h2, List.getElem?_eq_getElem h1]
    rfl⟩
  have Hno : Hid (HasNo l key → lastT l key = 0) := Lib.hid fun h => by unfold lastT; rw [cellK_none h]
  have Hl := Lib.hid (fun (k : Nat) (hk : k < l.length) => last_cellsW hl hg h hk)
  obtain ⟨p, c, rfl, _, _, r⟩ := h.form
  clear r h hg hl
  go_enter Try.func56, Try.ntmps56
  go_wp2_with fail
  refine Hc.out.mono ?_
  rintro e w1 ⟨r, rfl, hr, k1⟩
  rcases hr with ⟨k, rfl, hk⟩ | ⟨rfl, hno⟩
  · obtain ⟨hkl, hT⟩ := Hk.out k hk
    obtain ⟨p', c', g, o, gv, ov, cu, m, hv, rfl, hgl, d1, hm, hgv, d2⟩ := Hl.out k hkl
    injection hv with hv1 _ hv2
    subst hv1 hv2
    rw [show l[k] = l[k]?.getD ⟨⟨#[]⟩, []⟩ from by rw [List.getElem?_eq_getElem hkl]; rfl, ← hT] at d2
    have HT := Lib.hid hT
    have hkI : (k : Int) < (l.length : Int) := by omega
    replace d1 := cell_step k1 d1
    replace d2 := cell_step k1 d2
    have hkm : IntKind.i64.wrap ((m : Int) + 1 - 1) = (m : Int) := by rw [IntWalk.i64_in _ (by omega)]; omega
    have hm0 : (0 : Int) ≤ (m : Int) := by omega
    clear hT hk hkl Hl Hk Hno
    obtain ⟨t, ht⟩ : ∃ t, lastT l key = t := ⟨_, rfl⟩
    rw [ht] at d2
    have Ht := Lib.hid ht
    clear ht
    generalize l.length = n at *
    go_wp2
    go_quiet (fail)
    clear hkm
    go_wp2
    go_ret
    exact ⟨ret_int (by rw [Ht.out]), below_drewN k1 _⟩
  · have Hq := Lib.hid (Hno.out hno)
    clear Hk Hno Hl hno
    go_wp2
    go_ret
    exact ⟨ret_int (by rw [Hq.out]), k1⟩

set_option maxRecDepth 100000 in
set_option maxHeartbeats 800000 in
/-- impl.lastTime -/
theorem lastTimeW_any (v : Value) (l : List CellD) (key : ByteArray) (hl : costCellS l ≤ 1048576) (hg : WeakC l) (w : World) (h : Rd Cod.cell w v l) :
    Calls Try.prog 61 #[v, .string key] w fun e w' => e = .returned (.int .i64 (lastT l key)) ∧ Below w.heap.size w w' := by
  have Hc := Lib.hid (findCell_any v l key hl (hg.rise) w h)
  have hnb : (l.length : Int) ≤ 1048576 := by unfold costCellS at hl; omega
  have Hk : Hid (∀ k, HasAt l key k → k < l.length ∧ lastT l key = lastV (l[k]?.getD ⟨⟨#[]⟩, []⟩).Vers) := Lib.hid fun k ⟨h1, h2⟩ => ⟨h1, by
    unfold lastT
    rw [cellK_some (hg.rise) h1 h2, List.getElem?_eq_getElem h1]
    rfl⟩
  have Hno : Hid (HasNo l key → lastT l key = 0) := Lib.hid fun h => by unfold lastT; rw [cellK_none h]
  have Hl := Lib.hid (fun (k : Nat) (hk : k < l.length) => last_cellsW hl hg h hk)
  have Hfp : Hid (∀ i f, FindP l key i f → (f = true ∧ HasAt l key i) ∨ (f = false ∧ HasNo l key)) := Lib.hid fun i f ⟨h1, h2, h3, h4⟩ => by
    cases f
    · refine Or.inr ⟨rfl, fun k hk e => ?_⟩
      by_cases hki : k < i
      · have := h2 k hk hki
        rw [e, ltB_irrefl] at this
        cases this
      · by_cases hie : k = i
        · subst hie
          rw [pB_true ⟨hk, e⟩] at h4
          cases h4
        · have h5 := h3 i (by omega) (Nat.le_refl _)
          have h6 := hg.rise i k (by omega) hk
          rw [e, h5] at h6
          cases h6
    · exact Or.inl ⟨rfl, pB_iff.1 h4.symm⟩
  obtain ⟨p, c, rfl, _, _, r⟩ := h.form
  clear r h hg hl
  go_enter Try.func61, Try.ntmps61
  go_wp2_with fail
  refine Hc.out.mono ?_
  rintro e w1 ⟨i, f, rfl, hp, k1⟩
  rcases Hfp.out i f hp with ⟨rfl, hk⟩ | ⟨rfl, hno⟩
  · obtain ⟨hkl, hT⟩ := Hk.out i hk
    obtain ⟨p', c', g, o, gv, ov, cu, m, hv, rfl, hgl, d1, hm, hgv, d2⟩ := Hl.out i hkl
    injection hv with hv1 _ hv2
    subst hv1 hv2
    rw [show l[i] = l[i]?.getD ⟨⟨#[]⟩, []⟩ from by rw [List.getElem?_eq_getElem hkl]; rfl, ← hT] at d2
    have hkI : (i : Int) < (l.length : Int) := by omega
    replace d1 := cell_step k1 d1
    replace d2 := cell_step k1 d2
    have hkm : IntKind.i64.wrap ((m : Int) + 1 - 1) = (m : Int) := by rw [IntWalk.i64_in _ (by omega)]; omega
    have hm0 : (0 : Int) ≤ (m : Int) := by omega
    clear hT hk hkl Hl Hk Hno Hfp hp
    obtain ⟨t, ht⟩ : ∃ t, lastT l key = t := ⟨_, rfl⟩
    rw [ht] at d2
    have Ht := Lib.hid ht
    clear ht
    generalize l.length = n at *
    go_wp2
    go_quiet (fail)
    clear hkm
    go_wp2
    go_ret
    exact ⟨ret_int (by rw [Ht.out]), below_drewN k1 _⟩
  · have Hq := Lib.hid (Hno.out hno)
    clear Hk Hno Hl hno Hfp hp
    go_wp2
    go_ret
    exact ⟨ret_int (by rw [Hq.out]), k1⟩

end Go.Proofs.Ytkcidneefdaaiaa
