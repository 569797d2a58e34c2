/- laws.toCell, laws.toCellS. Printed by mkdata.py. -/
import Derived.Test.YtkcidneefdaaiaaRowd
import Derived.Test.YtkcidneefdaaiaaToVer
namespace Go.Proofs.Ytkcidneefdaaiaa
open Go.RowKit

/-- What toCell gives. -/
def ToCell (x : CellD) (base : Nat) (e : Ending) (w' : World) : Prop :=
  ∃ pVers' cVers' f, e = .returned (.agg #[.string x.Key, .slice pVers' x.Vers.length cVers']) ∧ Cod.cell.rd w' (lst [.string x.Key, .slice pVers' x.Vers.length cVers']) x f ∧ Mine w' base f

set_option maxRecDepth 100000 in
set_option maxHeartbeats 1600000 in
/-- laws.toCell -/
theorem toCell_d (x : CellD) (bKey : x.Key.size ≤ maxLen) (lVers : costVerS x.Vers ≤ 1048576) (w : World) (uVers : Value) (rVers : Rd (Cod.ver) w uVers x.Vers) :
    Calls Try.prog 33 #[.agg #[.string x.Key, uVers]] w fun e w' => ToCell x w.heap.size e w' ∧ Below w.heap.size w w' := by
  unfold ToCell
  have Hm := Lib.hid (fun (W : World) (uVers : Value) (fVers : List Nat) (rVers : Cod.rdS (Cod.ver) W uVers x.Vers fVers) => mk_cell (w := W) (g := lst [.string x.Key, uVers]) (x := x) rfl bKey rfl rVers)
  obtain ⟨xKey, xVers⟩ := x
  simp only at *
  have HVers := Lib.hid (fun (w : World) (r : Rd (Cod.ver) w uVers xVers) => toVerS_any uVers xVers lVers w r)
  go_enter Try.func33, Try.ntmps33
  go_wp2_with fail
  refine (HVers.out _ (rVers.below (by (repeat (first | exact Below.refl _ _ | exact below_new _ _ | refine below_setCell ?_ (by first | (simp; done) | (simp; omega) | omega) | refine below_alloc _ ?_ | refine below_drewN ?_ _ | refine below_after (by assumption) ?_ | assumption))))).mono ?_
  rintro e w1 ⟨uVers', rfl, o1, k1⟩
  obtain ⟨pVers', cVers', rfl⟩ := o1.form
  have b1 : Below w.heap.size w w1 := below_after k1 (by (repeat (first | exact Below.refl _ _ | exact below_new _ _ | refine below_setCell ?_ (by first | (simp; done) | (simp; omega) | omega) | refine below_alloc _ ?_ | refine below_drewN ?_ _ | refine below_after (by assumption) ?_ | assumption)))
  have hx1 := bcell k1
  have q10 : w.heap.size < w1.heap.size := by have := k1.size; first | (simp at this; omega) | omega
  have q11 : w.heap.size + 1 < w1.heap.size := by have := k1.size; first | (simp at this; omega) | omega
  have q12 : w.heap.size + 2 < w1.heap.size := by have := k1.size; first | (simp at this; omega) | omega
  replace o1 := o1.mono (base' := w.heap.size + 3) (by simp)
  go_wp2
  obtain ⟨f1, s1, m1⟩ := o1
  refine bodyPost_ret (v := .agg #[.string xKey, .slice pVers' xVers.length cVers']) (by simp [results, Try.results33, go_sem, hx1.1, q11, q10, q12]) rfl ⟨⟨pVers', cVers', _, rfl, Hm.out _ _ f1 ?r1, ?_⟩, ?_⟩
  case r1 => exact rdS_keep s1 m1 (B := w.heap.size + 3) (by omega) (by (repeat (first | (with_reducible exact Keep.refl _ _) | (with_reducible refine keep_set ?_ (by first | (simp; done) | (simp; omega) | omega)) | (with_reducible refine keep_alloc _ ?_) | (with_reducible refine keep_drewN ?_ _) | (with_reducible assumption) | (with_reducible refine keep_below (by assumption) ?_))))
  · exact (m1.keep (B := w.heap.size + 3) (by omega) (Cod.rdS_old _ s1) (by (repeat (first | (with_reducible exact Keep.refl _ _) | (with_reducible refine keep_set ?_ (by first | (simp; done) | (simp; omega) | omega)) | (with_reducible refine keep_alloc _ ?_) | (with_reducible refine keep_drewN ?_ _) | (with_reducible assumption) | (with_reducible refine keep_below (by assumption) ?_))))).mono (by omega)
  · (repeat (first | (with_reducible exact Below.refl _ _) | (with_reducible refine below_setCell ?_ (by first | (simp; done) | (simp; omega) | omega)) | (with_reducible refine below_alloc _ ?_) | (with_reducible refine below_drewN ?_ _) | (with_reducible assumption) | (with_reducible refine below_after (by assumption) ?_)))

theorem Try_info_cell : (Try.prog.info? 57).map (fun i => (i.zero, i.size, i.bytes)) = some (some (.agg #[.string ⟨#[]⟩, .slice none 0 0]), 2, 40) := by kernel_rfl

set_option maxRecDepth 100000 in
set_option maxHeartbeats 800000 in
/-- laws.toCellS -/
theorem toCellS_any (v : Value) (l : List CellD) (hl : costCellS l ≤ 1048576) (w : World) (h : Rd Cod.cell w v l) :
    Calls Try.prog 14 #[v] w fun e w' => ∃ v', e = .returned v' ∧ Own Cod.cell w' w.heap.size v' l ∧ Below w.heap.size w w' := by
  obtain ⟨i0, hi, hz0, hz1, hz2⟩ := info_parts Try_info_cell
  obtain ⟨p, c, rfl, hlc, hcm, r⟩ := h.form
  have R := Lib.hid r
  clear r h hlc hcm
  have Hc := Lib.hid hl
  obtain ⟨n, hn⟩ : ∃ n : Nat, l.length = n := ⟨_, rfl⟩
  have Hn := Lib.hid hn
  have hnb : (n : Int) ≤ 1048576 := by unfold costCellS at hl; omega
  rw [hn]
  clear hn hl
  have hb16 : i0.bytes * n ≤ 281474976710656 := by rw [hz2]; omega
  go_enter Try.func14, Try.ntmps14
  go_wp2_with (refine wpList_make_full w rfl _ _ 33 (by rfl) w.heap.size 57 i0 (.agg #[.string ⟨#[]⟩, .slice none 0 0]) 2 Try.underlying33 hi hz0 hz1 .i64 .i64 (n : Int) (n : Int) n (by rfl) (by rfl) rfl rfl hb16 (by unfold maxLen; omega) (Nat.le_refl _) ?_)
  intro w1 hown1 hg1
  have P1 := Lib.hid (part_start (c := Cod.cell) (show w1.ownsRow w.heap.size 57 Cod.cell.size (.slice (some ⟨w.heap.size, 0, none⟩) n n) n _ from hown1))
  have hb1 : Below w.heap.size w w1 := Below.grown (Below.refl _ _) hg1 (Nat.le_refl _) (by simp)
  clear hown1 hg1 hb16 hi hz0 hz1 hz2
  go_wp2
  go_loopw [4] (fun i wr => ∃ k : Nat, i = .int .i64 (k : Int) ∧ k ≤ n ∧ Hid (Part Cod.cell wr w.heap.size 57 (.slice (some ⟨w.heap.size, 0, none⟩) n n) n (l.take k)) ∧ Below w.heap.size w wr) (fun i _ => n - (intOf i).toNat)
  case atStart => exact ⟨0, rfl, Nat.zero_le _, Lib.hid ⟨_, P1.out⟩, hb1⟩
  case round =>
    obtain ⟨k, rfl, hk, Hp, hb⟩ := hrel
    by_cases hlt : k < n
    · have hlt2 : (k : Int) < (n : Int) := by omega
      have hkl : k < l.length := by have := Hn.out; omega
      have hktl : (l.take k).length = k := by rw [List.length_take]; omega
      obtain ⟨g, o, rfl, hg, hc⟩ := R.out (by have := Hn.out; omega)
      have at0 := (hc k hkl).below hg hb
      have Ht := Lib.hid (List.take_succ_eq_append_getElem hkl)
      have hcst := sumC_get costCell l k hkl
      obtain ⟨x, es⟩ : ∃ x, l[k] = x := ⟨_, rfl⟩
      rw [es] at at0 Ht hcst
      have Hl : Hid (costCell x ≤ 1048576) := Lib.hid (by have := Hc.out; unfold costCellS at this; omega)
      clear hc es hkl hcst
      obtain ⟨d0, ⟨uVers, d1, rVers⟩, zKey⟩ := at_cell at0
      rw [show o + k * Cod.cell.size = o + k * 2 from rfl] at *
      clear at0
      have lVers : costVerS x.Vers ≤ 1048576 := by have := Hl.out; unfold costCell at this; omega
      obtain ⟨cells, Pc⟩ := Hp.out
      have Hx := Lib.hid (toCell_d x zKey lVers)
      have Pc := Lib.hid Pc
      clear Hp
      go_wp2_with fail
      refine (Hx.out _ _ rVers).mono ?_
      rintro e w1 ⟨⟨pVers', cVers', f, rfl, hx, hm⟩, k1⟩
      have hb2 := below_after k1 hb
      have hq := hb2.size
      have Pd := Pc.out.below k1
      obtain ⟨fs, hown, _⟩ := Pd
      replace hown : w1.ownsRow w.heap.size 57 2 (.slice (some ⟨w.heap.size, 0, none⟩) n n) n cells := hown
      have hlen : cells.length = n * 2 := hown.1
      obtain ⟨old0, g0⟩ : ∃ u, w1.cell? ⟨w.heap.size, k * 2, none⟩ = some u := ⟨_, by rw [hown.cellAt _ (by omega), List.getElem?_eq_getElem (by omega)]⟩
      have y0 := hown.frozenAt (k * 2)
      obtain ⟨old1, g1⟩ : ∃ u, w1.cell? ⟨w.heap.size, k * 2 + 1, none⟩ = some u := ⟨_, by rw [hown.cellAt _ (by omega), List.getElem?_eq_getElem (by omega)]⟩
      have y1 := hown.frozenAt (k * 2 + 1)
      have Hset := Lib.hid (Pc.out.set k1 (vs := [.string x.Key, .slice pVers' x.Vers.length cVers']) rfl hx hm (by rw [hktl]; exact hlt))
      rw [hktl, ← Ht.out] at Hset
      clear hown Pc hktl Ht hx hm hlen
      go_wp2
      go_roundw
      case rel => exact ⟨k + 1, by go_num, by omega, Hset, below_setCell (below_setCell (hb2) (Nat.le_refl _)) (Nat.le_refl _)⟩
      case measure => simp [intOf]; omega
    · have hlt2 : (n : Int) ≤ (k : Int) := by omega
      obtain rfl : k = n := by omega
      go_wp2
      go_ret
      have hf : l.take k = l := List.take_of_length_le (by have := Hn.out; omega)
      have h3 := Hp.out
      rw [hf] at h3
      exact ⟨_, rfl, h3.own Hn.out, hb⟩

end Go.Proofs.Ytkcidneefdaaiaa
