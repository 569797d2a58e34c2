/- laws.szStringS, laws.toStringS. -/
import Derived.Test.YtekgackednpdgaaStrs2
namespace Go.Proofs.Ytekgackednpdgaa
open Go.RowKit

/-- What szStringS says: less than nothing, or how much is left. -/
def SzPost (l : List ByteArray) (left : Int) (w : World) (e : Ending) (w' : World) : Prop :=
  w = w' ∧ ((e = .returned (.int .i64 (left - l.length - sumSize l)) ∧ 0 ≤ left - (l.length : Int) - (sumSize l : Int)) ∨ (e = .returned (.int .i64 (-1)) ∧ left - (l.length : Int) - (sumSize l : Int) < 0))

set_option maxRecDepth 100000 in
/-- laws.szStringS -/
theorem szStringS_any (v : Value) (l : List ByteArray) (left : Int) (h0 : 0 ≤ left) (h1 : left ≤ 1048576) (hl : l.length ≤ maxLen) (hs : ∀ k (h : k < l.length), l[k].size ≤ maxLen) (w : World) (h : StrRow w v l) :
    Calls Try.prog 92 #[v, .int .i64 left] w (SzPost l left w) := by
  obtain ⟨p, c, rfl, r⟩ := h
  have R := Lib.hid r
  clear r
  unfold maxLen at hl
  obtain ⟨n, hn⟩ : ∃ n : Nat, l.length = n := ⟨_, rfl⟩
  have Hn := Lib.hid hn
  unfold SzPost
  rw [hn]
  have hnb : (n : Int) ≤ 9223372036854775807 := by omega
  clear hn hl
  have Hs := Lib.hid hs
  clear hs
  by_cases hneg : left - (n : Int) < 0
  · go_enter Try.func92, Try.ntmps92
    go_wp2
    go_ret
    exact ⟨rfl, Or.inr ⟨rfl, by omega⟩⟩
  have hpos : 0 ≤ left - (n : Int) := by omega
  clear hneg
  go_enter Try.func92, Try.ntmps92
  go_wp2
  go_loop [1, 5] (fun t i => ∃ k : Nat, i = .int .i64 (k : Int) ∧ k ≤ n ∧ t = .int .i64 (left - (n : Int) - (sumSize (l.take k) : Int)) ∧ 0 ≤ left - (n : Int) - (sumSize (l.take k) : Int)) (fun _ i => n - (intOf i).toNat)
  case atStart => exact ⟨0, rfl, Nat.zero_le _, by simp [sumSize], by simp [sumSize]; omega⟩
  case round =>
    obtain ⟨k, rfl, hk, rfl, hge⟩ := hrel
    by_cases hlt : k < n
    · have hlt2 : (k : Int) < (n : Int) := by omega
      have hkl : k < l.length := by have := Hn.out; omega
      obtain ⟨g, o, rfl, hg, hc⟩ := R.out (by have := Hn.out; omega)
      have d0 := hc k hkl
      have hz := Hs.out k hkl
      unfold maxLen at hz
      have hst := sumSize_take l k hkl
      have hle := sumSize_le l (k + 1)
      obtain ⟨s, es⟩ : ∃ s, l[k] = s := ⟨_, rfl⟩
      rw [es] at d0 hz hst
      obtain ⟨t, ht⟩ : ∃ t : Nat, sumSize (l.take k) = t := ⟨_, rfl⟩
      rw [ht] at hst hge ⊢
      have Hst := Lib.hid hst
      have Hle := Lib.hid hle
      clear hc es hkl hst hle ht
      have hzI : (s.size : Int) ≤ 9223372036854775807 := by omega
      by_cases hneg : left - (n : Int) - (t : Int) - (s.size : Int) < 0
      · go_wp2
        go_ret
        exact ⟨rfl, Or.inr ⟨rfl, by have := Hst.out; have := Hle.out; omega⟩⟩
      · have hpos2 : 0 ≤ left - (n : Int) - (t : Int) - (s.size : Int) := by omega
        clear hneg
        go_wp2
        go_round
        case rel => exact ⟨k + 1, by go_num, by omega, by rw [Hst.out]; go_num, by rw [Hst.out]; omega⟩
        case measure => simp [intOf]; omega
    · have hlt2 : (n : Int) ≤ (k : Int) := by omega
      obtain rfl : k = n := by omega
      have ht : l.take k = l := List.take_of_length_le (by have := Hn.out; omega)
      rw [ht] at hge ⊢
      clear ht
      go_wp2
      go_ret
      exact ⟨rfl, Or.inl ⟨rfl, by omega⟩⟩

end Go.Proofs.Ytekgackednpdgaa
