/- laws.eqCell, laws.eqCellS of equal data. Printed by mkdata.py. -/
import Derived.Test.YtkcidneefdaaiaaRowd
import Derived.Test.YtkcidneefdaaiaaEqVer
namespace Go.Proofs.Ytkcidneefdaaiaa
open Go.RowKit

set_option maxRecDepth 100000 in
set_option maxHeartbeats 1600000 in
/-- laws.eqCell -/
theorem eqCell_d (x : CellD) (lVers : x.Vers.length ≤ 1048576) (w : World) (uVers : Value) (ruVers : Rd (Cod.ver) w uVers x.Vers) (vVers : Value) (rvVers : Rd (Cod.ver) w vVers x.Vers) :
    Calls Try.prog 37 #[.agg #[.string x.Key, uVers], .agg #[.string x.Key, vVers]] w fun e w' => e = .returned (.bool true) ∧ Below w.heap.size w w' := by
  obtain ⟨xKey, xVers⟩ := x
  simp only at *
  have HVers := Lib.hid (fun (w : World) (r1 : Rd (Cod.ver) w uVers xVers) (r2 : Rd (Cod.ver) w vVers xVers) => eqVerS_any uVers vVers xVers w r1 r2 lVers)
  go_enter Try.func37, Try.ntmps37
  go_wp2_with fail
  refine (HVers.out _ (ruVers.below (by (repeat (first | exact Below.refl _ _ | exact below_new _ _ | refine below_setCell ?_ (by first | (simp; done) | (simp; omega) | omega) | refine below_alloc _ ?_ | refine below_drewN ?_ _ | refine below_after (by assumption) ?_ | assumption)))) (rvVers.below (by (repeat (first | exact Below.refl _ _ | exact below_new _ _ | refine below_setCell ?_ (by first | (simp; done) | (simp; omega) | omega) | refine below_alloc _ ?_ | refine below_drewN ?_ _ | refine below_after (by assumption) ?_ | assumption))))).mono ?_
  rintro e w1 ⟨rfl, k1⟩
  have b1 : Below w.heap.size w w1 := below_after k1 (by (repeat (first | exact Below.refl _ _ | exact below_new _ _ | refine below_setCell ?_ (by first | (simp; done) | (simp; omega) | omega) | refine below_alloc _ ?_ | refine below_drewN ?_ _ | refine below_after (by assumption) ?_ | assumption)))
  have hx1 := bcell k1
  have q10 : w.heap.size < w1.heap.size := by have := k1.size; first | (simp at this; omega) | omega
  have q11 : w.heap.size + 1 < w1.heap.size := by have := k1.size; first | (simp at this; omega) | omega
  go_wp2
  go_ret
  exact ⟨rfl, by (repeat (first | exact Below.refl _ _ | exact below_new _ _ | refine below_setCell ?_ (by first | (simp; done) | (simp; omega) | omega) | refine below_alloc _ ?_ | refine below_drewN ?_ _ | refine below_after (by assumption) ?_ | assumption))⟩

set_option maxRecDepth 100000 in
set_option maxHeartbeats 800000 in
/-- laws.eqCellS -/
theorem eqCellS_any (v1 v2 : Value) (l : List CellD) (w : World) (h1 : Rd Cod.cell w v1 l) (h2 : Rd Cod.cell w v2 l) (hl : costCellS l ≤ 1048576) :
    Calls Try.prog 16 #[v1, v2] w fun e w' => e = .returned (.bool true) ∧ Below w.heap.size w w' := by
  obtain ⟨p1, c1, rfl, _, _, r1⟩ := h1.form
  obtain ⟨p2, c2, rfl, _, _, r2⟩ := h2.form
  have R1 := Lib.hid r1
  have R2 := Lib.hid r2
  have Hl := Lib.hid hl
  clear r1 r2 h1 h2
  obtain ⟨n, hn⟩ : ∃ n : Nat, l.length = n := ⟨_, rfl⟩
  have Hn := Lib.hid hn
  have hnb : (n : Int) ≤ 1048576 := by unfold costCellS at hl; omega
  rw [hn]
  clear hn hl
  go_enter Try.func16, Try.ntmps16
  go_wp2
  go_loopw [5] (fun i wr => ∃ k : Nat, i = .int .i64 (k : Int) ∧ k ≤ n ∧ Below w.heap.size w wr) (fun i _ => n - (intOf i).toNat)
  case atStart => exact ⟨0, rfl, Nat.zero_le _, Below.refl _ _⟩
  case round =>
    obtain ⟨k, rfl, hk, hb⟩ := hrel
    have hbs := hb.size
    by_cases hlt : k < n
    · have hlt2 : (k : Int) < (n : Int) := by omega
      have hkl : k < l.length := by have := Hn.out; omega
      obtain ⟨g1, o1, rfl, hg1, hc1⟩ := R1.out (by have := Hn.out; omega)
      obtain ⟨g2, o2, rfl, hg2, hc2⟩ := R2.out (by have := Hn.out; omega)
      have at1 := (hc1 k hkl).below hg1 hb
      have at2 := (hc2 k hkl).below hg2 hb
      have Hx : Hid (l[k].Vers.length ≤ 1048576) := Lib.hid (by have h1 := Hl.out; have h2 := sumC_get costCell l k hkl; unfold costCellS at h1; have hVers : l[k].Vers.length ≤ costCell l[k] := (by unfold costCell costVerS; omega); omega)
      obtain ⟨x, es⟩ : ∃ x, l[k] = x := ⟨_, rfl⟩
      rw [es] at at1 at2 Hx
      clear hc1 hc2 es hkl
      obtain ⟨ud0, ⟨uVers, ud1, ruVers⟩, zKey⟩ := at_cell at1
      obtain ⟨vd0, ⟨vVers, vd1, rvVers⟩, _⟩ := at_cell at2
      rw [show o1 + k * Cod.cell.size = o1 + k * 2 from rfl, show o2 + k * Cod.cell.size = o2 + k * 2 from rfl] at *
      clear at1 at2
      have hg1' : g1 < wr.heap.size := by omega
      have hg2' : g2 < wr.heap.size := by omega
      have Hd := Lib.hid (fun (W : World) (uVers : Value) (r1Vers : Rd (Cod.ver) W uVers x.Vers) (vVers : Value) (r2Vers : Rd (Cod.ver) W vVers x.Vers) => eqCell_d x Hx.out W uVers r1Vers vVers r2Vers)
      go_wp2_with fail
      have hx2 := fun (u : World) (b o : Nat) (h : b < wr.heap.size) => ext_cell wr u b o h
      refine wp_region_ext (by kernel_rfl) (by kernel_rfl) wr.heap.size ?_
      repeat (any_goals (go_big_quiet_step ((go_at_call 37; exact calls_ext (by first | (simp; done) | omega | (simp; omega)) (Hd.out _ _ (ruVers.below (ext_below _ _ _)) _ (rvVers.below (ext_below _ _ _)))))))
      refine wpQuiet_nil ?_
      intro w2 hb2
      clear hx2
      go_wp2
      go_roundw
      case rel => exact ⟨k + 1, by go_num, by omega, below_after hb2 hb⟩
      case measure => simp [intOf]; omega
    · have hlt2 : (n : Int) ≤ (k : Int) := by omega
      go_wp2
      go_ret
      exact ⟨rfl, hb⟩

end Go.Proofs.Ytkcidneefdaaiaa
