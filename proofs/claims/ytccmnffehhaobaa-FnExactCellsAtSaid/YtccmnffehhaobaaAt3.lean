/- What stands under a key at a time, both. -/
import Derived.Test.YtccmnffehhaobaaAt2
import Derived.Test.YtccmnffehhaobaaLastT
namespace Go.Proofs.Ytccmnffehhaobaa
open Go.RowKit

noncomputable def lookP (l : List CellD) (key : ByteArray) (t : Int) : Option VerD := (cellK l key).bind fun c => verAt t c.Vers
theorem valOf_getD (o : Option VerD) : (o.getD verZ).Val = valOf o := by cases o <;> rfl
theorem hasOf_getD (o : Option VerD) : (o.isSome && !(o.getD verZ).Gone) = hasOf o := by cases o <;> rfl

theorem lookP_at {l : List CellD} {key : ByteArray} {t : Int} (hg : GoodC l) {k : Nat} (hk : k < l.length) (h : l[k].Key = key) : lookP l key t = verAt t l[k].Vers := by
  unfold lookP
  rw [cellK_some (sorted_of hg) hk h]
  rfl
theorem lookP_no {l : List CellD} {key : ByteArray} {t : Int} (h : HasNo l key) : lookP l key t = none := by
  unfold lookP
  rw [cellK_none h]
  rfl

set_option maxRecDepth 100000 in
set_option maxHeartbeats 800000 in
/-- spec.l3Look -/
theorem l3Look_any (v : Value) (l : List CellD) (key : ByteArray) (t : Int) (hl : costCellS l ≤ 1048576) (hg : GoodC l) (w : World) (h : Rd Cod.cell w v l) :
    Calls Try.prog 73 #[v, .string key, .int .i64 t] w fun e w' => e = .returned (.tuple #[.string (valOf (lookP l key t)), .bool (hasOf (lookP l key t))]) ∧ Below w.heap.size w w' := by
  have Hc := Lib.hid (l3At_any v l key hl w h)
  have hnb : (l.length : Int) ≤ 1048576 := by unfold costCellS at hl; omega
  obtain ⟨p, c, rfl, _, _, r⟩ := h.form
  have Hk : Hid (∀ k, HasAt l key k → ∃ x g o, p = some ⟨g, o, none⟩ ∧ k < l.length ∧ g < w.heap.size ∧ At Cod.cell w g (o + k * Cod.cell.size) x ∧ x.Vers.length ≤ 1048576 ∧ lookP l key t = verAt t x.Vers) := Lib.hid fun k ⟨h1, h2⟩ => by
    obtain ⟨g, o, rfl, hg1, hc⟩ := r (by omega)
    exact ⟨l[k], g, o, rfl, h1, hg1, hc k h1, vers_le hl h1, lookP_at hg h1 h2⟩
  have Hno : Hid (HasNo l key → lookP l key t = none) := Lib.hid fun h => lookP_no h
  clear r h hg hl
  go_enter Try.func73, Try.ntmps73
  go_wp2_with fail
  refine Hc.out.mono ?_
  rintro e w1 ⟨r, rfl, hr, k1⟩
  rcases hr with ⟨k, rfl, hk⟩ | ⟨rfl, hno⟩
  · obtain ⟨x, g, o, rfl, hkl, hg, at0, hxl, hT⟩ := Hk.out k hk
    have HT := Lib.hid hT
    have hkI : (k : Int) < (l.length : Int) := by omega
    obtain ⟨d0, ⟨u, d1, ru⟩, _⟩ := at_cell at0
    rw [show o + k * Cod.cell.size = o + k * 2 from rfl] at *
    replace d0 := cell_step k1 d0
    replace d1 := cell_step k1 d1
    have HV := Lib.hid (fun (W : World) r => l3Ver_any x u t hxl W r)
    have ru1 := ru.below k1
    clear hT hk hkl Hk Hno at0 hxl ru
    obtain ⟨q, hq⟩ : ∃ q, verAt t x.Vers = q := ⟨_, rfl⟩
    rw [hq] at HT HV
    have HQ : Hid (valOf (lookP l key t) = (q.getD verZ).Val ∧ hasOf (lookP l key t) = (q.isSome && !(q.getD verZ).Gone)) := Lib.hid (by rw [HT.out, valOf_getD, hasOf_getD]; exact ⟨rfl, rfl⟩)
    clear hq
    obtain ⟨z, hz⟩ : ∃ z, q.getD verZ = z := ⟨_, rfl⟩
    obtain ⟨zb, hzb⟩ : ∃ zb, q.isSome = zb := ⟨_, rfl⟩
    rw [hz, hzb] at HQ HV
    clear hz hzb
    obtain ⟨zt, zv, zg⟩ := z
    generalize l.length = n at *
    obtain ⟨pu, cu, rfl, _⟩ := ru1.form
    go_wp2_with fail
    refine (HV.out _ ru1).mono ?_
    unfold verV
    rintro e w2 ⟨rfl, k2⟩
    have b2 := below_after k2 k1
    cases zb
    all_goals
      go_wp2
      go_quiet (fail)
      go_wp2
      go_ret2
      exact ⟨by rw [HQ.out.1, HQ.out.2]; rfl, by (repeat (first | (with_reducible exact Below.refl _ _) | (with_reducible refine below_setCell ?_ (by first | (simp; done) | (simp; omega) | omega)) | (with_reducible refine below_alloc _ ?_) | (with_reducible refine below_drewN ?_ _) | (with_reducible assumption) | (with_reducible refine below_after (by assumption) ?_)))⟩
  · have Hq := Lib.hid (Hno.out hno)
    clear Hk Hno hno
    go_wp2
    go_ret2
    exact ⟨by rw [Hq.out]; rfl, k1⟩

set_option maxRecDepth 100000 in
set_option maxHeartbeats 800000 in
/-- impl.cellAt -/
theorem cellAt_any (v : Value) (l : List CellD) (key : ByteArray) (t : Int) (hl : costCellS l ≤ 1048576) (hg : GoodC l) (w : World) (h : Rd Cod.cell w v l) :
    Calls Try.prog 78 #[v, .string key, .int .i64 t] w fun e w' => e = .returned (.tuple #[.string (valOf (lookP l key t)), .bool (hasOf (lookP l key t))]) ∧ Below w.heap.size w w' := by
  have Hc := Lib.hid (findCell_any v l key hl (sorted_of hg) w h)
  have hnb : (l.length : Int) ≤ 1048576 := by unfold costCellS at hl; omega
  obtain ⟨p, c, rfl, _, _, r⟩ := h.form
  have Hk : Hid (∀ k, HasAt l key k → ∃ x g o, p = some ⟨g, o, none⟩ ∧ k < l.length ∧ g < w.heap.size ∧ At Cod.cell w g (o + k * Cod.cell.size) x ∧ x.Vers.length ≤ 1048576 ∧ 0 < x.Vers.length ∧ lookP l key t = verAt t x.Vers) := Lib.hid fun k ⟨h1, h2⟩ => by
    obtain ⟨g, o, rfl, hg1, hc⟩ := r (by omega)
    exact ⟨l[k], g, o, rfl, h1, hg1, hc k h1, vers_le hl h1, by have := (inB_iff.1 (hg.2.1 k h1 h1).1).1; omega, lookP_at hg h1 h2⟩
  have Hno : Hid (HasNo l key → lookP l key t = none) := Lib.hid fun h => lookP_no h
  have Hfp : Hid (∀ i f, FindP l key i f → (f = true ∧ HasAt l key i) ∨ (f = false ∧ HasNo l key)) := Lib.hid fun i f ⟨h1, h2, h3, h4⟩ => by
    cases f
    · refine Or.inr ⟨rfl, fun k hk e => ?_⟩
      by_cases hki : k < i
      · have := h2 k hk hki
        rw [e, ltB_irrefl] at this
        cases this
      · by_cases hie : k = i
        · subst hie
          rw [pB_true ⟨hk, e⟩] at h4
          cases h4
        · have h5 := h3 i (by omega) (Nat.le_refl _)
          have h6 := sorted_of hg i k (by omega) hk
          rw [e, h5] at h6
          cases h6
    · exact Or.inl ⟨rfl, pB_iff.1 h4.symm⟩
  clear r h hg hl
  go_enter Try.func78, Try.ntmps78
  go_wp2_with fail
  refine Hc.out.mono ?_
  rintro e w1 ⟨i, f, rfl, hp, k1⟩
  rcases Hfp.out i f hp with ⟨rfl, hk⟩ | ⟨rfl, hno⟩
  · obtain ⟨x, g, o, rfl, hkl, hg, at0, hxl, hx0, hT⟩ := Hk.out i hk
    have HT := Lib.hid hT
    have hkI : (i : Int) < (l.length : Int) := by omega
    obtain ⟨d0, ⟨u, d1, ru⟩, _⟩ := at_cell at0
    rw [show o + i * Cod.cell.size = o + i * 2 from rfl] at *
    replace d0 := cell_step k1 d0
    replace d1 := cell_step k1 d1
    have HV := Lib.hid (fun (W : World) r => at_any x u t hxl hx0 W r)
    have ru1 := ru.below k1
    clear hT hk hkl Hk Hno Hfp hp at0 hxl hx0 ru
    generalize l.length = n at *
    obtain ⟨pu, cu, rfl, _⟩ := ru1.form
    go_wp2_with fail
    refine (HV.out _ ru1).mono ?_
    rintro e w2 ⟨rfl, k2⟩
    have b2 := below_after k2 k1
    go_wp2
    go_ret2
    exact ⟨by rw [HT.out]; rfl, b2⟩
  · have Hq := Lib.hid (Hno.out hno)
    clear Hk Hno hno Hfp hp
    go_wp2
    go_ret2
    exact ⟨by rw [Hq.out]; rfl, k1⟩

end Go.Proofs.Ytccmnffehhaobaa
