/- LastTime, both. -/
import Derived.Test.YtkcidneefdaaiaaFind
import Derived.Test.YtkcidneefdaaiaaKit
namespace Go.Proofs.Ytkcidneefdaaiaa
open Go.RowKit

/-- Cell k has the key, and no other. -/
def HasAt (l : List CellD) (key : ByteArray) (k : Nat) : Prop := ∃ h : k < l.length, l[k].Key = key
def HasNo (l : List CellD) (key : ByteArray) : Prop := ∀ k (h : k < l.length), l[k].Key ≠ key

/-- The cell of a key. -/
noncomputable def cellK (l : List CellD) (key : ByteArray) : Option CellD := l.find? fun c => pB (c.Key = key)
theorem cellK_none {l : List CellD} {key : ByteArray} (h : HasNo l key) : cellK l key = none := by
  unfold cellK
  rw [List.find?_eq_none]
  intro x hx
  obtain ⟨j, hj, rfl⟩ := List.getElem_of_mem hx
  rw [pB_false (h j hj)]
  simp
theorem cellK_some {l : List CellD} {key : ByteArray} {k : Nat} (hs : SortedK l) (hk : k < l.length) (h : l[k].Key = key) : cellK l key = some l[k] := by
  unfold cellK
  rw [List.find?_eq_some_iff_getElem]
  refine ⟨pB_true h, k, hk, rfl, fun j hj => ?_⟩
  have h1 := hs j k hj hk
  have h2 : l[j].Key ≠ key := fun e => by
    rw [e, h, ltB_irrefl] at h1
    cases h1
  rw [pB_false h2]
  rfl

/-- What a search by key gives as a number. -/
def AtE (l : List CellD) (key : ByteArray) (w : World) (e : Ending) (w' : World) : Prop := ∃ r : Int, e = .returned (.int .i64 r) ∧ ((∃ k : Nat, r = (k : Int) ∧ HasAt l key k) ∨ (r = -1 ∧ HasNo l key)) ∧ Below w.heap.size w w'

set_option maxRecDepth 100000 in
set_option maxHeartbeats 800000 in
/-- spec.l3At -/
theorem l3At_any (v : Value) (l : List CellD) (key : ByteArray) (hl : costCellS l ≤ 1048576) (w : World) (h : Rd Cod.cell w v l) :
    Calls Try.prog 73 #[v, .string key] w (AtE l key w) := by
  obtain ⟨p, c, rfl, _, _, r⟩ := h.form
  have R := Lib.hid r
  clear r h
  obtain ⟨n, hn⟩ : ∃ n : Nat, l.length = n := ⟨_, rfl⟩
  have Hn := Lib.hid hn
  have hnb : (n : Int) ≤ 1048576 := by unfold costCellS at hl; omega
  rw [hn]
  clear hn hl
  unfold AtE
  go_enter Try.func73, Try.ntmps73
  go_wp2
  go_loopw [9] (fun i wr => ∃ k : Nat, i = .int .i64 (k : Int) ∧ k ≤ n ∧ Hid (∀ j (h : j < l.length), j < k → l[j].Key ≠ key) ∧ Below w.heap.size w wr) (fun i _ => n - (intOf i).toNat)
  case atStart => exact ⟨0, rfl, Nat.zero_le _, Lib.hid (fun j _ h => by omega), Below.refl _ _⟩
  case round =>
    obtain ⟨k, rfl, hk, Hall, hb⟩ := hrel
    by_cases hlt : k < n
    · have hlt2 : (k : Int) < (n : Int) := by omega
      have hkl : k < l.length := by have := Hn.out; omega
      obtain ⟨g, o, rfl, hg, hc⟩ := R.out (by have := Hn.out; omega)
      have at0 := (hc k hkl).below hg hb
      have Hy : Hid (l[k].Key = key → HasAt l key k) := Lib.hid fun h => ⟨hkl, h⟩
      have Hnx : Hid (l[k].Key ≠ key → ∀ j (h : j < l.length), j < k + 1 → l[j].Key ≠ key) := Lib.hid fun h j hj hjk => by
        by_cases e : j = k
        · subst e; exact h
        · exact Hall.out j hj (by omega)
      obtain ⟨x, es⟩ : ∃ x, l[k] = x := ⟨_, rfl⟩
      rw [es] at at0 Hy Hnx
      obtain ⟨d0, ⟨u, d1, ru⟩, z0⟩ := at_cell at0
      obtain ⟨pu, cu, rfl, _⟩ := ru.form
      rw [show o + k * Cod.cell.size = o + k * 2 from rfl] at *
      clear hc es hkl at0 z0 ru
      by_cases hkey : x.Key = key
      · have Hq := Lib.hid (Hy.out hkey)
        clear Hy Hnx
        subst hkey
        go_wp2
        go_ret
        exact ⟨_, rfl, Or.inl ⟨k, rfl, Hq.out⟩, below_alloc _ hb⟩
      · have Hq := Lib.hid (Hnx.out hkey)
        have hne := str_ne hkey
        clear Hy Hnx hkey
        go_wp2
        go_roundw
        case rel => exact ⟨k + 1, by go_num, by omega, Hq, below_alloc _ hb⟩
        case measure => simp [intOf]; omega
    · have hlt2 : (n : Int) ≤ (k : Int) := by omega
      obtain rfl : k = n := by omega
      have Hq : Hid (HasNo l key) := Lib.hid fun j hj => Hall.out j hj (by have := Hn.out; omega)
      clear Hall
      go_wp2
      go_ret
      exact ⟨_, rfl, Or.inr ⟨rfl, Hq.out⟩, hb⟩

/-- The time of the last version. -/
def lastV (vs : List VerD) : Int := (vs.getLast?.map fun v => v.Time).getD 0
theorem lastV_get {vs : List VerD} {m : Nat} (h : m + 1 = vs.length) : lastV vs = (vs[m]'(by omega)).Time := by
  unfold lastV
  rw [List.getLast?_eq_getElem?, show vs.length - 1 = m from by omega, List.getElem?_eq_getElem (by omega)]
  rfl
noncomputable def lastT (l : List CellD) (key : ByteArray) : Int := match cellK l key with
  | some c => lastV c.Vers
  | none => 0

/-- Where the last version of cell k lies. -/
theorem last_cells {l : List CellD} (hg : GoodC l) {w : World} {v : Value} (h : Rd Cod.cell w v l) {k : Nat} (hk : k < l.length) :
    ∃ p c g o gv ov cu m, v = .slice p l.length c ∧ p = some ⟨g, o, none⟩ ∧ g < w.heap.size ∧ w.cell? ⟨g, o + k * 2 + 1, none⟩ = some (.slice (some ⟨gv, ov, none⟩) (m + 1) cu) ∧ m ≤ 16 ∧ gv < w.heap.size ∧ w.cell? ⟨gv, ov + m * 3, none⟩ = some (.int .i64 (lastV l[k].Vers)) := by
  obtain ⟨p, c, rfl, _, _, r⟩ := h.form
  obtain ⟨g, o, rfl, hg1, hc⟩ := r (by omega)
  obtain ⟨_, ⟨u, d1, ru⟩, _⟩ := at_cell (hc k hk)
  have hV := (hg.2.1 k hk hk).1
  obtain ⟨h1, h2⟩ := inB_iff.1 hV
  obtain ⟨pu, cu, rfl, _, _, fu⟩ := ru.form
  obtain ⟨m, hm⟩ : ∃ m, m + 1 = l[k].Vers.length := ⟨l[k].Vers.length - 1, by omega⟩
  obtain ⟨gv, ov, rfl, hgv, hcv⟩ := fu (by omega)
  have at1 := (at_ver (hcv m (by omega))).1
  refine ⟨_, c, g, o, gv, ov, cu, m, rfl, rfl, hg1, ?_, by omega, hgv, ?_⟩
  · rw [hm]; exact d1
  · rw [lastV_get hm]; exact at1

set_option maxRecDepth 100000 in
set_option maxHeartbeats 800000 in
/-- spec.l3Last -/
theorem l3Last_any (v : Value) (l : List CellD) (key : ByteArray) (hl : costCellS l ≤ 1048576) (hg : GoodC l) (w : World) (h : Rd Cod.cell w v l) :
    Calls Try.prog 56 #[v, .string key] w fun e w' => e = .returned (.int .i64 (lastT l key)) ∧ Below w.heap.size w w' := by
  have Hc := Lib.hid (l3At_any v l key hl w h)
  have hnb : (l.length : Int) ≤ 1048576 := by unfold costCellS at hl; omega
  have Hk : Hid (∀ k, HasAt l key k → k < l.length ∧ lastT l key = lastV (l[k]?.getD ⟨⟨#[]⟩, []⟩).Vers) := Lib.hid fun k ⟨h1, h2⟩ => ⟨h1, by
    unfold lastT
    rw [cellK_some (sorted_of hg) h1 h2, List.getElem?_eq_getElem h1]
    rfl⟩
  have Hno : Hid (HasNo l key → lastT l key = 0) := Lib.hid fun h => by unfold lastT; rw [cellK_none h]
  have Hl := Lib.hid (fun (k : Nat) (hk : k < l.length) => last_cells hg h hk)
  obtain ⟨p, c, rfl, _, _, r⟩ := h.form
  clear r h hg hl
  go_enter Try.func56, Try.ntmps56
  go_wp2_with fail
  refine Hc.out.mono ?_
  rintro e w1 ⟨r, rfl, hr, k1⟩
  rcases hr with ⟨k, rfl, hk⟩ | ⟨rfl, hno⟩
  · obtain ⟨hkl, hT⟩ := Hk.out k hk
    obtain ⟨p', c', g, o, gv, ov, cu, m, hv, rfl, hgl, d1, hm, hgv, d2⟩ := Hl.out k hkl
    injection hv with hv1 _ hv2
    subst hv1 hv2
    rw [show l[k] = l[k]?.getD ⟨⟨#[]⟩, []⟩ from by rw [List.getElem?_eq_getElem hkl]; rfl, ← hT] at d2
    have HT := Lib.hid hT
    have hkI : (k : Int) < (l.length : Int) := by omega
    replace d1 := cell_step k1 d1
    replace d2 := cell_step k1 d2
    have hkm : IntKind.i64.wrap ((m : Int) + 1 - 1) = (m : Int) := by rw [IntWalk.i64_in _ (by omega)]; omega
    have hm0 : (0 : Int) ≤ (m : Int) := by omega
    clear hT hk hkl Hl Hk Hno
    obtain ⟨t, ht⟩ : ∃ t, lastT l key = t := ⟨_, rfl⟩
    rw [ht] at d2
    have Ht := Lib.hid ht
    clear ht
    generalize l.length = n at *
    go_wp2
    go_quiet (fail)
    clear hkm
    go_wp2
    go_ret
    exact ⟨ret_int (by rw [Ht.out]), below_drewN k1 _⟩
  · have Hq := Lib.hid (Hno.out hno)
    clear Hk Hno Hl hno
    go_wp2
    go_ret
    exact ⟨ret_int (by rw [Hq.out]), k1⟩

set_option maxRecDepth 100000 in
set_option maxHeartbeats 800000 in
/-- impl.lastTime -/
theorem lastTime_any (v : Value) (l : List CellD) (key : ByteArray) (hl : costCellS l ≤ 1048576) (hg : GoodC l) (w : World) (h : Rd Cod.cell w v l) :
    Calls Try.prog 61 #[v, .string key] w fun e w' => e = .returned (.int .i64 (lastT l key)) ∧ Below w.heap.size w w' := by
  have Hc := Lib.hid (findCell_any v l key hl (sorted_of hg) w h)
  have hnb : (l.length : Int) ≤ 1048576 := by unfold costCellS at hl; omega
  have Hk : Hid (∀ k, HasAt l key k → k < l.length ∧ lastT l key = lastV (l[k]?.getD ⟨⟨#[]⟩, []⟩).Vers) := Lib.hid fun k ⟨h1, h2⟩ => ⟨h1, by
    unfold lastT
    rw [cellK_some (sorted_of hg) h1 h2, List.getElem?_eq_getElem h1]
    rfl⟩
  have Hno : Hid (HasNo l key → lastT l key = 0) := Lib.hid fun h => by unfold lastT; rw [cellK_none h]
  have Hl := Lib.hid (fun (k : Nat) (hk : k < l.length) => last_cells hg h hk)
  have Hfp : Hid (∀ i f, FindP l key i f → (f = true ∧ HasAt l key i) ∨ (f = false ∧ HasNo l key)) := Lib.hid fun i f ⟨h1, h2, h3, h4⟩ => by
    cases f
    · refine Or.inr ⟨rfl, fun k hk e => ?_⟩
      by_cases hki : k < i
      · have := h2 k hk hki
        rw [e, ltB_irrefl] at this
        cases this
      · by_cases hie : k = i
        · subst hie
          rw [pB_true ⟨hk, e⟩] at h4
          cases h4
        · have h5 := h3 i (by omega) (Nat.le_refl _)
          have h6 := sorted_of hg i k (by omega) hk
          rw [e, h5] at h6
          cases h6
    · exact Or.inl ⟨rfl, pB_iff.1 h4.symm⟩
  obtain ⟨p, c, rfl, _, _, r⟩ := h.form
  clear r h hg hl
  go_enter Try.func61, Try.ntmps61
  go_wp2_with fail
  refine Hc.out.mono ?_
  rintro e w1 ⟨i, f, rfl, hp, k1⟩
  rcases Hfp.out i f hp with ⟨rfl, hk⟩ | ⟨rfl, hno⟩
  · obtain ⟨hkl, hT⟩ := Hk.out i hk
    obtain ⟨p', c', g, o, gv, ov, cu, m, hv, rfl, hgl, d1, hm, hgv, d2⟩ := Hl.out i hkl
    injection hv with hv1 _ hv2
    subst hv1 hv2
    rw [show l[i] = l[i]?.getD ⟨⟨#[]⟩, []⟩ from by rw [List.getElem?_eq_getElem hkl]; rfl, ← hT] at d2
    have hkI : (i : Int) < (l.length : Int) := by omega
    replace d1 := cell_step k1 d1
    replace d2 := cell_step k1 d2
    have hkm : IntKind.i64.wrap ((m : Int) + 1 - 1) = (m : Int) := by rw [IntWalk.i64_in _ (by omega)]; omega
    have hm0 : (0 : Int) ≤ (m : Int) := by omega
    clear hT hk hkl Hl Hk Hno Hfp hp
    obtain ⟨t, ht⟩ : ∃ t, lastT l key = t := ⟨_, rfl⟩
    rw [ht] at d2
    have Ht := Lib.hid ht
    clear ht
    generalize l.length = n at *
    go_wp2
    go_quiet (fail)
    clear hkm
    go_wp2
    go_ret
    exact ⟨ret_int (by rw [Ht.out]), below_drewN k1 _⟩
  · have Hq := Lib.hid (Hno.out hno)
    clear Hk Hno Hl hno Hfp hp
    go_wp2
    go_ret
    exact ⟨ret_int (by rw [Hq.out]), k1⟩

/-- What LastTime says. -/
noncomputable def lastQ (l : List CellD) (key : ByteArray) : Bool := goodCB l && keyB key

end Go.Proofs.Ytkcidneefdaaiaa
