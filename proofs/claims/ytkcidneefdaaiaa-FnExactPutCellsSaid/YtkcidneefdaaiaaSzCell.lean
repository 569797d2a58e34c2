/- laws.szCell, laws.szCellS. Printed by mkdata.py. -/
import Derived.Test.YtkcidneefdaaiaaRowd
import Derived.Test.YtkcidneefdaaiaaSzVer
namespace Go.Proofs.Ytkcidneefdaaiaa
open Go.RowKit

set_option maxRecDepth 100000 in
/-- laws.szCell -/
theorem szCell_any (x : CellD) (bKey : x.Key.size ≤ maxLen) (left : Int) (h0 : 0 ≤ left) (h1 : left ≤ 1048576) (w : World) (uVers : Value) (rVers : Rd (Cod.ver) w uVers x.Vers) :
    Calls Try.prog 29 #[.agg #[.string x.Key, uVers], .int .i64 left] w (SzP (costCell x) left w) := by
  unfold SzP costCell
  obtain ⟨xKey, xVers⟩ := x
  simp only at *
  unfold maxLen at bKey
  have cKey : (xKey.size : Int) ≤ 9223372036854775807 := by omega
  by_cases nKey : left - (xKey.size : Int) < 0
  · go_enter Try.func29, Try.ntmps29
    go_wp2
    go_ret
    exact ⟨by (repeat (first | exact Below.refl _ _ | exact below_new _ _ | refine below_setCell ?_ (by first | (simp; done) | (simp; omega) | omega) | refine below_alloc _ ?_ | refine below_drewN ?_ _ | refine below_after (by assumption) ?_ | assumption)), Or.inr ⟨rfl, by omega⟩⟩
  have pKey : 0 ≤ left - (xKey.size : Int) := by omega
  clear nKey
  have HVers := Lib.hid (fun (left : Int) (h0 : 0 ≤ left) (h1 : left ≤ 1048576) (w : World) (r : Rd (Cod.ver) w uVers xVers) => szVerS_any uVers xVers left h0 h1 w r)
  generalize costVerS xVers = kVers at *
  go_enter Try.func29, Try.ntmps29
  go_wp2_with fail
  refine (HVers.out _ (by omega) (by omega) _ (rVers.below (by (repeat (first | exact Below.refl _ _ | exact below_new _ _ | refine below_setCell ?_ (by first | (simp; done) | (simp; omega) | omega) | refine below_alloc _ ?_ | refine below_drewN ?_ _ | refine below_after (by assumption) ?_ | assumption))))).mono ?_
  rintro e w1 ⟨k1, ⟨rfl, p1⟩ | ⟨rfl, p1⟩⟩
  rotate_left
  · go_wp2
    go_ret
    exact ⟨below_after k1 (by (repeat (first | exact Below.refl _ _ | exact below_new _ _ | refine below_setCell ?_ (by first | (simp; done) | (simp; omega) | omega) | refine below_alloc _ ?_ | refine below_drewN ?_ _ | refine below_after (by assumption) ?_ | assumption))), Or.inr ⟨rfl, by omega⟩⟩
  have b1 : Below w.heap.size w w1 := below_after k1 (by (repeat (first | exact Below.refl _ _ | exact below_new _ _ | refine below_setCell ?_ (by first | (simp; done) | (simp; omega) | omega) | refine below_alloc _ ?_ | refine below_drewN ?_ _ | refine below_after (by assumption) ?_ | assumption)))
  have hx1 := bcell k1
  have hz1 := b1.size
  go_wp2
  go_ret
  exact ⟨b1, Or.inl ⟨ret_int (by omega), by omega⟩⟩

set_option maxRecDepth 100000 in
/-- laws.szCellS -/
theorem szCellS_any (v : Value) (l : List CellD) (left : Int) (h0 : 0 ≤ left) (h1 : left ≤ 1048576) (w : World) (h : Rd Cod.cell w v l) :
    Calls Try.prog 12 #[v, .int .i64 left] w (SzP (costCellS l) left w) := by
  obtain ⟨p, c, rfl, hlc, hcm, r⟩ := h.form
  have R := Lib.hid r
  clear r h
  have hl : l.length ≤ maxLen := Nat.le_trans hlc hcm
  clear hlc hcm
  unfold maxLen at hl
  unfold SzP costCellS
  obtain ⟨n, hn⟩ : ∃ n : Nat, l.length = n := ⟨_, rfl⟩
  have Hn := Lib.hid hn
  rw [hn]
  have hnb : (n : Int) ≤ 9223372036854775807 := by omega
  clear hn hl
  by_cases hneg : left - (n : Int) < 0
  · go_enter Try.func12, Try.ntmps12
    go_wp2
    go_ret
    exact ⟨Below.refl _ _, Or.inr ⟨rfl, by omega⟩⟩
  have hpos : 0 ≤ left - (n : Int) := by omega
  clear hneg
  go_enter Try.func12, Try.ntmps12
  go_wp2
  go_loopw [1, 5] (fun t i wr => ∃ k : Nat, i = .int .i64 (k : Int) ∧ k ≤ n ∧ t = .int .i64 (left - (n : Int) - (sumC costCell (l.take k) : Int)) ∧ 0 ≤ left - (n : Int) - (sumC costCell (l.take k) : Int) ∧ Below w.heap.size w wr) (fun _ i _ => n - (intOf i).toNat)
  case atStart => exact ⟨0, rfl, Nat.zero_le _, by simp [sumC], by simp [sumC]; omega, Below.refl _ _⟩
  case round =>
    obtain ⟨k, rfl, hk, rfl, hge, hb⟩ := hrel
    by_cases hlt : k < n
    · have hlt2 : (k : Int) < (n : Int) := by omega
      have hkl : k < l.length := by have := Hn.out; omega
      obtain ⟨g, o, rfl, hg, hc⟩ := R.out (by have := Hn.out; omega)
      have at0 := (hc k hkl).below hg hb
      have hst := sumC_take costCell l k hkl
      have hle := sumC_le costCell l (k + 1)
      obtain ⟨x, es⟩ : ∃ x, l[k] = x := ⟨_, rfl⟩
      rw [es] at at0 hst
      obtain ⟨t, ht⟩ : ∃ t : Nat, sumC costCell (l.take k) = t := ⟨_, rfl⟩
      rw [ht] at hst hge ⊢
      have Hst := Lib.hid hst
      have Hle := Lib.hid hle
      clear hc es hkl hst hle ht
      obtain ⟨d0, ⟨uVers, d1, rVers⟩, zKey⟩ := at_cell at0
      rw [show o + k * Cod.cell.size = o + k * 2 from rfl] at *
      clear at0
      go_wp2_with fail
      refine (szCell_any x zKey _ (by omega) (by omega) _ _ rVers).mono ?_
      rintro e w1 ⟨k1, ⟨rfl, p1⟩ | ⟨rfl, p1⟩⟩
      · have b1 := below_after k1 hb
        go_wp2
        go_roundw
        case rel => exact ⟨k + 1, by go_num, by omega, by rw [Hst.out]; go_num, by rw [Hst.out]; omega, b1⟩
        case measure => simp [intOf]; omega
      · go_wp2
        go_ret
        exact ⟨below_after k1 hb, Or.inr ⟨rfl, by have := Hst.out; have := Hle.out; omega⟩⟩
    · have hlt2 : (n : Int) ≤ (k : Int) := by omega
      obtain rfl : k = n := by omega
      have ht : l.take k = l := List.take_of_length_le (by have := Hn.out; omega)
      rw [ht] at hge ⊢
      clear ht
      go_wp2
      go_ret
      exact ⟨hb, Or.inl ⟨ret_int (by omega), by omega⟩⟩

end Go.Proofs.Ytkcidneefdaaiaa
