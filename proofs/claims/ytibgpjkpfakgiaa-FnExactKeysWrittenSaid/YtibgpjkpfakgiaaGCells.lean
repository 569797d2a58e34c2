/- GoodCells, both. -/
import Derived.Test.YtibgpjkpfakgiaaGCell
import Derived.Test.YtibgpjkpfakgiaaKit
namespace Go.Proofs.Ytibgpjkpfakgiaa
open Go.RowKit

/-- Cell k's versions are good. -/
def VersAt (l : List CellD) (k : Nat) : Prop := ∀ h : k < l.length, GoodV l[k].Vers
/-- Whether the cells are good. -/
def GoodC (l : List CellD) : Prop := l.length ≤ 24 ∧ (∀ k, k < l.length → VersAt l k) ∧ Rising (l.map fun x => x.Key)
noncomputable def goodCB (l : List CellD) : Bool := pB (GoodC l)
/-- Cell k is good and behind the one ahead of it. -/
def CellAtK (l : List CellD) (k : Nat) : Prop := ∀ h : k < l.length, (GoodV l[k].Vers ∧ keyB l[k].Key = true) ∧ ∀ m (hm : m + 1 = k), ltB (l[m]'(by omega)).Key l[k].Key = true
def KeyAt (l : List CellD) (k : Nat) : Prop := ∀ h : k < l.length, ∀ m (hm : m + 1 = k), ltB (l[m]'(by omega)).Key l[k].Key = true

theorem goodC_iff (l : List CellD) : GoodC l ↔ l.length ≤ 24 ∧ ∀ k, k < l.length → CellAtK l k := by
  constructor
  · rintro ⟨h0, h1, h2⟩
    refine ⟨h0, fun k hk _ => ?_⟩
    have h3 := h2 k (by simpa using hk) (by simpa using hk)
    refine ⟨⟨h1 k hk hk, by simpa using h3.1⟩, fun m hm => ?_⟩
    simpa using h3.2 m hm
  · rintro ⟨h0, h1⟩
    refine ⟨h0, fun k hk _ => (h1 k hk hk).1.1, fun k hk hk2 => ?_⟩
    have hkl : k < l.length := by simpa using hk
    have h3 := h1 k hkl hkl
    refine ⟨by simpa using h3.1.2, fun m hm => ?_⟩
    simpa using h3.2 m hm

theorem vers_le {l : List CellD} (hl : costCellS l ≤ 1048576) {k : Nat} (hk : k < l.length) : l[k].Vers.length ≤ 1048576 := by
  have h2 := sumC_get costCell l k hk
  unfold costCellS at hl
  have h3 : l[k].Vers.length ≤ costCell l[k] := by unfold costCell costVerS; omega
  omega

set_option maxRecDepth 100000 in
set_option maxHeartbeats 3200000 in
/-- spec.l3Good -/
theorem l3Good_any (v : Value) (l : List CellD) (hl : costCellS l ≤ 1048576) (w : World) (h : Rd Cod.cell w v l) :
    Calls Try.prog 57 #[v] w fun e w' => e = .returned (.bool (goodCB l)) ∧ Below w.heap.size w w' := by
  obtain ⟨p, c, rfl, _, _, r⟩ := h.form
  have R := Lib.hid r
  have Hl := Lib.hid hl
  clear r h
  obtain ⟨n, hn⟩ : ∃ n : Nat, l.length = n := ⟨_, rfl⟩
  have Hn0 := Lib.hid hn
  have hnb : (n : Int) ≤ 1048576 := by unfold costCellS at hl; omega
  rw [hn]
  clear hn hl
  go_enter Try.func57, Try.ntmps57
  go_wp2
  go_loopw [7] (fun i wr => ∃ k : Nat, i = .int .i64 (k : Int) ∧ k ≤ n ∧ Hid (∀ j, j < k → CellAtK l j) ∧ Below w.heap.size w wr) (fun i _ => n - (intOf i).toNat)
  case atStart => exact ⟨0, rfl, Nat.zero_le _, Lib.hid (fun j h => by omega), Below.refl _ _⟩
  case round =>
    obtain ⟨k, rfl, hk, Hall, hb⟩ := hrel
    by_cases hlt : k < n
    · have hlt2 : (k : Int) < (n : Int) := by omega
      have hkl : k < l.length := by have := Hn0.out; omega
      obtain ⟨g, o, rfl, hg, hc⟩ := R.out (by have := Hn0.out; omega)
      have at0 := (hc k hkl).below hg hb
      have hgl : g < wr.heap.size := by have := hb.size; omega
      have hgl' : g < wr.heap.size + 1 := by omega
      have hvl := vers_le Hl.out hkl
      have Hb0 : Hid (pB (GoodV l[k].Vers ∧ keyB l[k].Key = true) = false → goodCB l = false) := Lib.hid fun h => pB_false fun hr => by
        have := pB_true (((goodC_iff l).1 hr).2 k hkl hkl).1
        rw [h] at this
        cases this
      have Hn : Hid (pB (GoodV l[k].Vers ∧ keyB l[k].Key = true) = true → KeyAt l k → ∀ j, j < k + 1 → CellAtK l j) := Lib.hid fun h1 h2 j hj => by
        by_cases e : j = k
        · subst e
          exact fun h' => ⟨pB_iff.1 h1, h2 h'⟩
        · exact Hall.out j (by omega)
      by_cases hk0 : k = 0
      · have hd : decide (0 < k) = false := by simp; omega
        have Ho : Hid (KeyAt l k) := Lib.hid fun _ m hm => by omega
        obtain ⟨y, es⟩ : ∃ y, l[k] = y := ⟨_, rfl⟩
        rw [es] at at0 Hb0 Hn hvl
        obtain ⟨d0, ⟨u, d1, ru⟩, z0⟩ := at_cell at0
        obtain ⟨pu, cu, rfl, _⟩ := ru.form
        rw [show o + k * Cod.cell.size = o + k * 2 from rfl] at *
        have Hc0 := Lib.hid (fun (W : World) => l3Cell_any y z0 (ext (wr.heap.size + 1) (wr.alloc (.cells #[.string y.Key, .slice pu y.Vers.length cu] 85)) W) _ (ru.below ((below_new _ _).trans ((ext_below _ _ _).mono (by simp)))) hvl)
        clear hc es hkl at0 z0 hk0 hvl
        generalize pB (GoodV y.Vers ∧ keyB y.Key = true) = c0 at *
        cases c0
        · have Hq := Lib.hid (Hb0.out (by first | rfl | trivial))
          go_wp2_with fail
          have hx2 := fun (u : World) (b o : Nat) (h : b < wr.heap.size + 1) => ext_cell (wr.alloc (.cells #[.string y.Key, .slice pu y.Vers.length cu] 85)) u b o h
          refine wp_region_ext (by kernel_rfl) (by kernel_rfl) (wr.heap.size + 1) ?_
          repeat (any_goals (go_big_quiet_step ((go_at_call 106; exact calls_ext (by first | (simp; done) | omega | (simp; omega)) (Hc0.out _)))))
          refine wpQuiet_nil ?_
          intro w2 hb2
          clear hx2
          go_wp2
          go_ret
          exact ⟨ret_bool (by rw [Hq.out]), (below_alloc _ hb).trans (hb2.mono (by have := hb.size; omega))⟩
        have Hq := Lib.hid (Hn.out (by first | rfl | trivial) Ho.out)
        go_wp2_with fail
        have hx2 := fun (u : World) (b o : Nat) (h : b < wr.heap.size + 1) => ext_cell (wr.alloc (.cells #[.string y.Key, .slice pu y.Vers.length cu] 85)) u b o h
        refine wp_region_ext (by kernel_rfl) (by kernel_rfl) (wr.heap.size + 1) ?_
        repeat (any_goals (go_big_quiet_step ((go_at_call 106; exact calls_ext (by first | (simp; done) | omega | (simp; omega)) (Hc0.out _)))))
        refine wpQuiet_nil ?_
        intro w2 hb2
        clear hx2
        go_wp2
        go_roundw
        case rel => exact ⟨k + 1, by go_num, by omega, Hq, (below_alloc _ hb).trans (hb2.mono (by have := hb.size; omega))⟩
        case measure => simp [intOf]; omega
      · obtain ⟨m, hm⟩ : ∃ m, m + 1 = k := ⟨k - 1, by omega⟩
        have Hm := Lib.hid hm
        have hml : m < l.length := by omega
        have at1 := (hc m hml).below hg hb
        have Hbo : Hid (¬ (ltB l[m].Key l[k].Key = true) → goodCB l = false) := Lib.hid fun h => pB_false fun hr => h ((((goodC_iff l).1 hr).2 k hkl hkl).2 m hm)
        have Hlt : Hid (ltB l[m].Key l[k].Key = true → KeyAt l k) := Lib.hid fun h _ m' hm' => by
          obtain rfl : m' = m := by omega
          exact h
        have hd : decide (0 < k) = true := by simp; omega
        have hkm : IntKind.i64.wrap ((k : Int) - 1) = (m : Int) := by rw [IntWalk.i64_in _ (by omega)]; omega
        have hmn : (m : Int) < (n : Int) := by omega
        have hm0 : (0 : Int) ≤ (m : Int) := by omega
        obtain ⟨y, es⟩ : ∃ y, l[k] = y := ⟨_, rfl⟩
        obtain ⟨z, et⟩ : ∃ z, l[m] = z := ⟨_, rfl⟩
        rw [es] at at0 Hb0 Hbo Hn Hlt hvl
        rw [et] at at1 Hbo Hlt
        obtain ⟨d0, ⟨u, d1, ru⟩, z0⟩ := at_cell at0
        obtain ⟨pu, cu, rfl, _⟩ := ru.form
        have e0 := (at_cell at1).1
        rw [show o + k * Cod.cell.size = o + k * 2 from rfl] at *
        rw [show o + m * Cod.cell.size = o + m * 2 from rfl] at *
        have Hc0 := Lib.hid (fun (W : World) => l3Cell_any y z0 (ext (wr.heap.size + 1) (wr.alloc (.cells #[.string y.Key, .slice pu y.Vers.length cu] 85)) W) _ (ru.below ((below_new _ _).trans ((ext_below _ _ _).mono (by simp)))) hvl)
        clear hc es et at0 at1 z0 hk0 hm hml hkl hvl
        generalize pB (GoodV y.Vers ∧ keyB y.Key = true) = c0 at *
        cases c0
        · have Hq := Lib.hid (Hb0.out (by first | rfl | trivial))
          go_wp2_with fail
          have hx2 := fun (u : World) (b o : Nat) (h : b < wr.heap.size + 1) => ext_cell (wr.alloc (.cells #[.string y.Key, .slice pu y.Vers.length cu] 85)) u b o h
          refine wp_region_ext (by kernel_rfl) (by kernel_rfl) (wr.heap.size + 1) ?_
          repeat (any_goals (go_big_quiet_step ((go_at_call 106; exact calls_ext (by first | (simp; done) | omega | (simp; omega)) (Hc0.out _)))))
          refine wpQuiet_nil ?_
          intro w2 hb2
          clear hx2 hkm
          go_wp2
          go_ret
          exact ⟨ret_bool (by rw [Hq.out]), (below_alloc _ hb).trans (hb2.mono (by have := hb.size; omega))⟩
        by_cases hord : ltB z.Key y.Key = true
        · have Hq := Lib.hid (Hn.out (by first | rfl | trivial) (Hlt.out hord))
          have hlb : Op.bytesLess z.Key.toList y.Key.toList = true := hord
          go_wp2_with fail
          have hx2 := fun (u : World) (b o : Nat) (h : b < wr.heap.size + 1) => ext_cell (wr.alloc (.cells #[.string y.Key, .slice pu y.Vers.length cu] 85)) u b o h
          refine wp_region_ext (by kernel_rfl) (by kernel_rfl) (wr.heap.size + 1) ?_
          repeat (any_goals (go_big_quiet_step ((go_at_call 106; exact calls_ext (by first | (simp; done) | omega | (simp; omega)) (Hc0.out _)))))
          refine wpQuiet_nil ?_
          intro w2 hb2
          clear hx2 hkm
          go_wp2
          go_roundw
          case rel => exact ⟨k + 1, by go_num, by omega, Hq, (below_alloc _ hb).trans (hb2.mono (by have := hb.size; omega))⟩
          case measure => simp [intOf]; omega
        · have Hq := Lib.hid (Hbo.out hord)
          have hlb : Op.bytesLess z.Key.toList y.Key.toList = false := (show ltB z.Key y.Key = false from Bool.eq_false_iff.2 hord)
          go_wp2_with fail
          have hx2 := fun (u : World) (b o : Nat) (h : b < wr.heap.size + 1) => ext_cell (wr.alloc (.cells #[.string y.Key, .slice pu y.Vers.length cu] 85)) u b o h
          refine wp_region_ext (by kernel_rfl) (by kernel_rfl) (wr.heap.size + 1) ?_
          repeat (any_goals (go_big_quiet_step ((go_at_call 106; exact calls_ext (by first | (simp; done) | omega | (simp; omega)) (Hc0.out _)))))
          refine wpQuiet_nil ?_
          intro w2 hb2
          clear hx2 hkm
          go_wp2
          go_ret
          exact ⟨ret_bool (by rw [Hq.out]), (below_alloc _ hb).trans (hb2.mono (by have := hb.size; omega))⟩
    · have hlt2 : (n : Int) ≤ (k : Int) := by omega
      obtain rfl : k = n := by omega
      by_cases h24 : k ≤ 24
      · have h25 : (k : Int) ≤ 24 := by omega
        have Hq : Hid (goodCB l = true) := Lib.hid (pB_true ((goodC_iff l).2 ⟨by have := Hn0.out; omega, fun j hj => Hall.out j (by have := Hn0.out; omega)⟩))
        go_wp2
        go_ret
        exact ⟨ret_bool (by rw [Hq.out]), hb⟩
      · have h25 : (24 : Int) < (k : Int) := by omega
        have Hq : Hid (goodCB l = false) := Lib.hid (pB_false fun hr => by have := hr.1; have := Hn0.out; omega)
        go_wp2
        go_ret
        exact ⟨ret_bool (by rw [Hq.out]; first | rfl | (simp; omega)), hb⟩

set_option maxRecDepth 100000 in
set_option maxHeartbeats 1600000 in
/-- impl.GoodCells -/
theorem goodCells_any (v : Value) (l : List CellD) (hl : costCellS l ≤ 1048576) (w : World) (h : Rd Cod.cell w v l) :
    Calls Try.prog 61 #[v] w fun e w' => e = .returned (.bool (goodCB l)) ∧ Below w.heap.size w w' := by
  obtain ⟨i0, hi, hz0, hz1, hz2⟩ := info_parts Try_info_str
  obtain ⟨p, c, rfl, _, _, r⟩ := h.form
  have R := Lib.hid r
  have Hl := Lib.hid hl
  clear r h
  obtain ⟨n, hn⟩ : ∃ n : Nat, l.length = n := ⟨_, rfl⟩
  have Hn := Lib.hid hn
  have hnb : (n : Int) ≤ 1048576 := by unfold costCellS at hl; omega
  rw [hn]
  clear hn hl
  go_enter Try.func61, Try.ntmps61
  go_wp2
  go_loopw [3, 9] (fun a i wr => ∃ k : Nat, i = .int .i64 (k : Int) ∧ k ≤ n ∧ Hid (Part Cod.str wr w.heap.size 9 a k ((l.map fun x => x.Key).take k)) ∧ Hid (∀ j, j < k → VersAt l j) ∧ Below w.heap.size w wr) (fun _ i _ => n - (intOf i).toNat)
  case atStart => exact ⟨0, rfl, Nat.zero_le _, Lib.hid ⟨_, part_start (World.ownsRow_made _ _ _ (Nat.le_refl _) (by simp) rfl)⟩, Lib.hid (fun j h => by omega), below_new _ _⟩
  case round =>
    obtain ⟨k, rfl, hk, Hp, Hall, hb⟩ := hrel
    have hbs := hb.size
    by_cases hlt : k < n
    · have hlt2 : (k : Int) < (n : Int) := by omega
      have hkl : k < l.length := by have := Hn.out; omega
      have Hkl : Hid (((l.map fun x => x.Key).take k).length = k) := Lib.hid (by rw [List.length_take, List.length_map]; omega)
      obtain ⟨g, o, rfl, hg, hc⟩ := R.out (by have := Hn.out; omega)
      have at0 := (hc k hkl).below hg hb
      have hvl := vers_le Hl.out hkl
      have Ht : Hid ((l.map fun x => x.Key).take (k + 1) = (l.map fun x => x.Key).take k ++ [l[k].Key]) := Lib.hid (by rw [List.take_succ_eq_append_getElem (by rw [List.length_map]; exact hkl), List.getElem_map])
      have Hb0 : Hid (pB (GoodV l[k].Vers) = false → goodCB l = false) := Lib.hid fun h => pB_false fun hr => by
        have := pB_true (hr.2.1 k hkl hkl)
        rw [h] at this
        cases this
      have Hnx : Hid (pB (GoodV l[k].Vers) = true → ∀ j, j < k + 1 → VersAt l j) := Lib.hid fun h1 j hj => by
        by_cases e : j = k
        · subst e
          exact fun _ => pB_iff.1 h1
        · exact Hall.out j (by omega)
      obtain ⟨x, es⟩ : ∃ x, l[k] = x := ⟨_, rfl⟩
      rw [es] at at0 Ht hvl Hb0 Hnx
      obtain ⟨d0, ⟨u, d1, ru⟩, z0⟩ := at_cell at0
      obtain ⟨pu, cu, rfl, _⟩ := ru.form
      rw [show o + k * Cod.cell.size = o + k * 2 from rfl] at *
      have Hc0 := Lib.hid (fun (W : World) (r : Rd Cod.ver W (.slice pu x.Vers.length cu) x.Vers) => isCell_any x W _ r hvl)
      clear hc es hkl at0 hvl
      have Hroom : Hid ((k + 1) * 16 ≤ room) := Lib.hid (by unfold room; omega)
      obtain ⟨cells, Pc⟩ := Hp.out
      have Pc := Lib.hid Pc
      clear Hp
      generalize pB (GoodV x.Vers) = q at *
      cases q
      · have Hq := Lib.hid (Hb0.out (by first | rfl | trivial))
        go_wp2_with fail
        refine (Hc0.out _ (ru.below (by (repeat (first | (with_reducible exact Below.refl _ _) | (with_reducible refine below_setCell ?_ (by first | (simp; done) | (simp; omega) | omega)) | (with_reducible refine below_alloc _ ?_) | (with_reducible refine below_drewN ?_ _) | (with_reducible assumption) | (with_reducible refine below_after (by assumption) ?_)))))).mono ?_
        rintro e w1 ⟨rfl, k1⟩
        go_wp2
        go_ret
        exact ⟨ret_bool (by rw [Hq.out]), below_after k1 (below_alloc _ hb)⟩
      · have Hq := Lib.hid (Hnx.out (by first | rfl | trivial))
        clear Hnx Hb0
        go_wp2_with fail
        refine (Hc0.out _ (ru.below (by (repeat (first | (with_reducible exact Below.refl _ _) | (with_reducible refine below_setCell ?_ (by first | (simp; done) | (simp; omega) | omega)) | (with_reducible refine below_alloc _ ?_) | (with_reducible refine below_drewN ?_ _) | (with_reducible assumption) | (with_reducible refine below_after (by assumption) ?_)))))).mono ?_
        rintro e w1 ⟨rfl, k1⟩
        have c0 : w1.cell? ⟨wr.heap.size, 0, none⟩ = some (.string x.Key) := by rw [(bcell k1).1 _ _ (by simp)]; simp [go_sem]
        have hsz : wr.heap.size < w1.heap.size := by have := k1.size; simp at this; omega
        have b1 : Below w.heap.size w w1 := below_after k1 (below_alloc _ hb)
        have m1 : Below wr.heap.size wr w1 := below_after k1 (below_new _ _)
        clear k1
        go_wp2_with (at_builtin; refine wpList_append_part (c := Cod.str) w1 rfl _ _ 22 (by rfl) w.heap.size 9 9 i0 (.string ⟨#[]⟩) 16 Try.underlying22 hi hz0 hz1 hz2 rfl (by decide) (by decide) wr _ k _ cells (by rfl) Pc.out Hkl.out m1 x.Key [] [.string x.Key] rfl ⟨rfl, z0, rfl⟩ (Mine.nil _ _) w1.heap.size rfl (by rfl) (by simp [Value.oneCell']) Hroom.out hbs ?_)
        intro g' cap' w3 hp3 hb3
        have Hp3 := Lib.hid hp3
        have hb4 : Below w.heap.size w w3 := b1.trans hb3
        clear hp3 hb3 Pc b1 m1
        go_wp2
        go_roundw
        case rel => exact ⟨k + 1, by go_num, by omega, Lib.hid (by rw [Ht.out]; exact Hp3.out), Hq, hb4⟩
        case measure => simp [intOf]; omega
    · have hlt2 : (n : Int) ≤ (k : Int) := by omega
      obtain rfl : k = n := by omega
      by_cases h24 : k ≤ 24
      · have h25 : (k : Int) ≤ 24 := by omega
        have h1 := Hp.out
        rw [List.take_of_length_le (by rw [List.length_map]; have := Hn.out; omega)] at h1
        have r1 := (h1.own (by rw [List.length_map]; exact Hn.out)).rd
        have Hr := Lib.hid (fun (W : World) (b : Below wr.heap.size wr W) => areRising_any _ (l.map fun x => x.Key) (by rw [List.length_map]; have := Hn.out; omega) W (r1.below b))
        obtain ⟨pa, ca, hv, _⟩ := r1.form
        rw [List.length_map, Hn.out] at hv
        subst hv
        have Hq : Hid (goodCB l = pB (Rising (l.map fun x => x.Key))) := Lib.hid (pB_congr ⟨fun h => h.2.2, fun h => ⟨by have := Hn.out; omega, fun j hj => Hall.out j (by have := Hn.out; omega), h⟩⟩)
        clear h1 r1 Hp
        generalize pB (Rising (l.map fun x => x.Key)) = q at *
        go_wp2_with fail
        refine (Hr.out _ (by (repeat (first | (with_reducible exact Below.refl _ _) | (with_reducible refine below_setCell ?_ (by first | (simp; done) | (simp; omega) | omega)) | (with_reducible refine below_alloc _ ?_) | (with_reducible refine below_drewN ?_ _) | (with_reducible assumption) | (with_reducible refine below_after (by assumption) ?_))))).mono ?_
        rintro e w1 ⟨rfl, k1⟩
        go_wp2
        go_ret
        exact ⟨ret_bool (by rw [Hq.out]), below_after k1 hb⟩
      · have h25 : (24 : Int) < (k : Int) := by omega
        have Hq : Hid (goodCB l = false) := Lib.hid (pB_false fun hr => by have := hr.1; have := Hn.out; omega)
        clear Hp
        go_wp2
        go_ret
        exact ⟨ret_bool (by rw [Hq.out]), hb⟩

end Go.Proofs.Ytibgpjkpfakgiaa
