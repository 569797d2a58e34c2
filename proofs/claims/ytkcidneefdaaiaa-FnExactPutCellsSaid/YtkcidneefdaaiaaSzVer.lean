/- laws.szVer, laws.szVerS. Printed by mkdata.py. -/
import Derived.Test.YtkcidneefdaaiaaRowd
namespace Go.Proofs.Ytkcidneefdaaiaa
open Go.RowKit

set_option maxRecDepth 100000 in
/-- laws.szVer -/
theorem szVer_any (x : VerD) (bVal : x.Val.size ≤ maxLen) (left : Int) (h0 : 0 ≤ left) (h1 : left ≤ 1048576) (w : World) :
    Calls Try.prog 72 #[.agg #[.int .i64 x.Time, .string x.Val, .bool x.Gone], .int .i64 left] w (SzP (costVer x) left w) := by
  unfold SzP costVer
  obtain ⟨xTime, xVal, xGone⟩ := x
  simp only at *
  unfold maxLen at bVal
  have cVal : (xVal.size : Int) ≤ 9223372036854775807 := by omega
  by_cases nVal : left - (xVal.size : Int) < 0
  · go_enter Try.func72, Try.ntmps72
    go_wp2
    go_ret
    exact ⟨by (repeat (first | exact Below.refl _ _ | exact below_new _ _ | refine below_setCell ?_ (by first | (simp; done) | (simp; omega) | omega) | refine below_alloc _ ?_ | refine below_drewN ?_ _ | refine below_after (by assumption) ?_ | assumption)), Or.inr ⟨rfl, by omega⟩⟩
  have pVal : 0 ≤ left - (xVal.size : Int) := by omega
  clear nVal
  go_enter Try.func72, Try.ntmps72
  go_wp2
  go_ret
  exact ⟨by (repeat (first | exact Below.refl _ _ | exact below_new _ _ | refine below_setCell ?_ (by first | (simp; done) | (simp; omega) | omega) | refine below_alloc _ ?_ | refine below_drewN ?_ _ | refine below_after (by assumption) ?_ | assumption)), Or.inl ⟨ret_int (by omega), by omega⟩⟩

set_option maxRecDepth 100000 in
/-- laws.szVerS -/
theorem szVerS_any (v : Value) (l : List VerD) (left : Int) (h0 : 0 ≤ left) (h1 : left ≤ 1048576) (w : World) (h : Rd Cod.ver w v l) :
    Calls Try.prog 52 #[v, .int .i64 left] w (SzP (costVerS l) left w) := by
  obtain ⟨p, c, rfl, hlc, hcm, r⟩ := h.form
  have R := Lib.hid r
  clear r h
  have hl : l.length ≤ maxLen := Nat.le_trans hlc hcm
  clear hlc hcm
  unfold maxLen at hl
  unfold SzP costVerS
  obtain ⟨n, hn⟩ : ∃ n : Nat, l.length = n := ⟨_, rfl⟩
  have Hn := Lib.hid hn
  rw [hn]
  have hnb : (n : Int) ≤ 9223372036854775807 := by omega
  clear hn hl
  by_cases hneg : left - (n : Int) < 0
  · go_enter Try.func52, Try.ntmps52
    go_wp2
    go_ret
    exact ⟨Below.refl _ _, Or.inr ⟨rfl, by omega⟩⟩
  have hpos : 0 ≤ left - (n : Int) := by omega
  clear hneg
  go_enter Try.func52, Try.ntmps52
  go_wp2
  go_loopw [1, 5] (fun t i wr => ∃ k : Nat, i = .int .i64 (k : Int) ∧ k ≤ n ∧ t = .int .i64 (left - (n : Int) - (sumC costVer (l.take k) : Int)) ∧ 0 ≤ left - (n : Int) - (sumC costVer (l.take k) : Int) ∧ Below w.heap.size w wr) (fun _ i _ => n - (intOf i).toNat)
  case atStart => exact ⟨0, rfl, Nat.zero_le _, by simp [sumC], by simp [sumC]; omega, Below.refl _ _⟩
  case round =>
    obtain ⟨k, rfl, hk, rfl, hge, hb⟩ := hrel
    by_cases hlt : k < n
    · have hlt2 : (k : Int) < (n : Int) := by omega
      have hkl : k < l.length := by have := Hn.out; omega
      obtain ⟨g, o, rfl, hg, hc⟩ := R.out (by have := Hn.out; omega)
      have at0 := (hc k hkl).below hg hb
      have hst := sumC_take costVer l k hkl
      have hle := sumC_le costVer l (k + 1)
      obtain ⟨x, es⟩ : ∃ x, l[k] = x := ⟨_, rfl⟩
      rw [es] at at0 hst
      obtain ⟨t, ht⟩ : ∃ t : Nat, sumC costVer (l.take k) = t := ⟨_, rfl⟩
      rw [ht] at hst hge ⊢
      have Hst := Lib.hid hst
      have Hle := Lib.hid hle
      clear hc es hkl hst hle ht
      obtain ⟨d0, d1, d2, zTime, zVal⟩ := at_ver at0
      rw [show o + k * Cod.ver.size = o + k * 3 from rfl] at *
      clear at0
      go_wp2_with fail
      refine (szVer_any x zVal _ (by omega) (by omega) _).mono ?_
      rintro e w1 ⟨k1, ⟨rfl, p1⟩ | ⟨rfl, p1⟩⟩
      · have b1 := below_after k1 hb
        go_wp2
        go_roundw
        case rel => exact ⟨k + 1, by go_num, by omega, by rw [Hst.out]; go_num, by rw [Hst.out]; omega, b1⟩
        case measure => simp [intOf]; omega
      · go_wp2
        go_ret
        exact ⟨below_after k1 hb, Or.inr ⟨rfl, by have := Hst.out; have := Hle.out; omega⟩⟩
    · have hlt2 : (n : Int) ≤ (k : Int) := by omega
      obtain rfl : k = n := by omega
      have ht : l.take k = l := List.take_of_length_le (by have := Hn.out; omega)
      rw [ht] at hge ⊢
      clear ht
      go_wp2
      go_ret
      exact ⟨hb, Or.inl ⟨ret_int (by omega), by omega⟩⟩

end Go.Proofs.Ytkcidneefdaaiaa
