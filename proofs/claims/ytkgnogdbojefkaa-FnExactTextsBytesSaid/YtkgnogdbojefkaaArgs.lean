/- Arguments that are lists. -/
import Derived.Test.YtkgnogdbojefkaaTypes
import Derived.Test.YtkgnogdbojefkaaStrs
namespace Go.Proofs.Ytkgnogdbojefkaa
open Go.ChangeShapes Go.WideShapes Go.ChangeAt Go.RowKit
variable {H : Type} {enc : TypeId × Value → H} {w : World}

set_option maxRecDepth 100000 in
/-- A list of strings that came in. -/
theorem arg_strs {r : Reach} {b0 : Nat} {v : Value} {d : DataW H} {ps : List MemPlace} (hv : Value.okWide Try.prog w r b0 22 v) (hd : DataW.Trod enc Try.prog w 0 (fun _ => true) true 22 v d ps) :
    ∃ l : List ByteArray, StrRow w v l ∧ l.length ≤ maxLen ∧ ∀ k (h : k < l.length), l[k].size ≤ maxLen := by
  obtain ⟨xs, fp, hy⟩ := open_arg (opens_slice Try.underlying22 (by kernel_rfl) opensStr (by decide)) hd
  obtain ⟨a0, n0, c0, rfl⟩ := okWide_slice Try.underlying22 hv
  obtain ⟨v', h0, a, cap, hv', hle, hm, _, hr⟩ := hy
  simp only [Value.cells, List.getElem?_toArray, List.getElem?_cons_zero, Option.some.injEq] at h0
  rw [h0] at *
  refine ⟨xs, ⟨a, cap, hv', fun hpos => ?_⟩, Nat.le_trans hle hm, fun k hk => ?_⟩
  · rcases hr with ⟨rfl, _⟩ | ⟨b, off, fs, ha, _, hb, he⟩
    · simp at hpos
    · refine ⟨b, off, ha, hb, fun j hj => ?_⟩
      obtain ⟨f, _, h1, _⟩ := Cod.elems_at _ he j hj
      simpa [cellsAt, Cod.str, Cod.one] using h1
  · rcases hr with ⟨rfl, _⟩ | ⟨b, off, fs, ha, _, hb, he⟩
    · simp at hk
    · obtain ⟨f, _, _, h2, _⟩ := Cod.elems_at _ he k hk
      exact h2

end Go.Proofs.Ytkgnogdbojefkaa
