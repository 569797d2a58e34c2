/- laws.szSpan, laws.szSpanS. Printed by mkdata.py. -/
import Derived.Test.YtkgnogdbojefkaaData
namespace Go.Proofs.Ytkgnogdbojefkaa
open Go.RowKit

set_option maxRecDepth 100000 in
/-- laws.szSpanS -/
theorem szSpanS_any (v : Value) (l : List SpanD) (left : Int) (h0 : 0 ≤ left) (h1 : left ≤ 1048576) (w : World) (h : Rd Cod.span w v l) :
    Calls Try.prog 22 #[v, .int .i64 left] w (SzP (costSpanS l) left w) := by
  obtain ⟨p, c, rfl, hlc, hcm, r⟩ := h.form
  clear r h
  have hl : l.length ≤ maxLen := Nat.le_trans hlc hcm
  clear hlc hcm
  unfold maxLen at hl
  unfold SzP costSpanS
  generalize l.length = n at *
  have hnb : (n : Int) ≤ 9223372036854775807 := by omega
  by_cases hneg : left - (n : Int) < 0
  · go_enter Try.func22, Try.ntmps22
    go_wp2
    go_ret
    exact ⟨Below.refl _ _, Or.inr ⟨rfl, by omega⟩⟩
  have hpos : 0 ≤ left - (n : Int) := by omega
  clear hneg
  go_enter Try.func22, Try.ntmps22
  go_wp2
  go_ret
  exact ⟨Below.refl _ _, Or.inl ⟨ret_int (by omega), by omega⟩⟩

end Go.Proofs.Ytkgnogdbojefkaa
