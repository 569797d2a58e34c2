/- Plain lemmas and contracts that all proofs of this seat lean on: bundle Eqent. -/
import Derived.Test.YtkcidneefdaaiaaKit
import Derived.Test.YtkcidneefdaaiaaRowd
import Derived.Laws.StructEq
import Derived.Test.YtkcidneefdaaiaaGoodr
import Derived.Test.YtkcidneefdaaiaaLogg
/- Structs compared. -/
namespace Go.Proofs.Ytkcidneefdaaiaa
open Go.RowKit

theorem ver_ext (x y : VerD) : ((x.Time == y.Time) && (x.Val.toList == y.Val.toList) && (x.Gone == y.Gone)) = pB (x = y) := by
  refine (pB_eq ?_).symm
  obtain ⟨xTime, xVal, xGone⟩ := x
  obtain ⟨yTime, yVal, yGone⟩ := y
  simp only [VerD.mk.injEq, Bool.and_eq_true, beq_iff_eq, str_eq_iff]
  first | done | (constructor <;> (intro h; simp_all))

set_option maxRecDepth 100000 in
/-- != of two such structs. -/
theorem neq_ver (x y : VerD) (W : World) : (binOp .neq 77 (.agg #[.int .i64 x.Time, .string x.Val, .bool x.Gone]) (.agg #[.int .i64 y.Time, .string y.Val, .bool y.Gone])).run Try.prog W = .ok (.bool (!pB (x = y))) W := by
  rw [← ver_ext, run_neq_struct, run_equalIn_agg W 9999 77 _ _ (by rw [Program.fieldsOf, Try.underlying77]) (by kernel_rfl)]
  rw [Program.fieldsOf, Try.underlying77]
  simp [Op.eqFields, go_sem]
  by_cases h0 : x.Time = y.Time <;> by_cases h1 : x.Val.toList = y.Val.toList <;> by_cases h2 : x.Gone = y.Gone <;> simp [h0, h1, h2]


theorem write_ext (x y : WriteD) : ((x.Key.toList == y.Key.toList) && (x.Val.toList == y.Val.toList) && (x.Gone == y.Gone)) = pB (x = y) := by
  refine (pB_eq ?_).symm
  obtain ⟨xKey, xVal, xGone⟩ := x
  obtain ⟨yKey, yVal, yGone⟩ := y
  simp only [WriteD.mk.injEq, Bool.and_eq_true, beq_iff_eq, str_eq_iff]
  first | done | (constructor <;> (intro h; simp_all))

set_option maxRecDepth 100000 in
/-- != of two such structs. -/
theorem neq_write (x y : WriteD) (W : World) : (binOp .neq 45 (.agg #[.string x.Key, .string x.Val, .bool x.Gone]) (.agg #[.string y.Key, .string y.Val, .bool y.Gone])).run Try.prog W = .ok (.bool (!pB (x = y))) W := by
  rw [← write_ext, run_neq_struct, run_equalIn_agg W 9999 45 _ _ (by rw [Program.fieldsOf, Try.underlying45]) (by kernel_rfl)]
  rw [Program.fieldsOf, Try.underlying45]
  simp [Op.eqFields, go_sem]
  by_cases h0 : x.Key.toList = y.Key.toList <;> by_cases h1 : x.Val.toList = y.Val.toList <;> by_cases h2 : x.Gone = y.Gone <;> simp [h0, h1, h2]


end Go.Proofs.Ytkcidneefdaaiaa


/- slices.Equal at structs. -/
namespace Go.Proofs.Ytkcidneefdaaiaa
open Go.RowKit

end Go.Proofs.Ytkcidneefdaaiaa


/- Lists of strings and of writes compared. -/
namespace Go.Proofs.Ytkcidneefdaaiaa
open Go.RowKit

theorem at_str {w : World} {g o k : Nat} {x : ByteArray} (h : At Cod.str w g (o + k * Cod.str.size) x) : w.cell? ⟨g, o + k, none⟩ = some (.string x) := by
  obtain ⟨f, h, _⟩ := h
  have h2 : w.cell? ⟨g, o + k * 1 + 0, none⟩ = some (.string x) := h
  rwa [Nat.mul_one] at h2

end Go.Proofs.Ytkcidneefdaaiaa


/- SameRec, both. -/
namespace Go.Proofs.Ytkcidneefdaaiaa
open Go.RowKit

theorem recd_eq (x y : RecD) : pB (x = y) = (((((decide (x.Kind = y.Kind) && decide (x.Txn = y.Txn)) && decide (x.Time = y.Time)) && decide (x.Lead = y.Lead)) && decide (x.Yes = y.Yes)) && (pB (x.Reads = y.Reads) && pB (x.Writes = y.Writes))) := by
  refine pB_eq ?_
  obtain ⟨K, T, Ti, L, R, W, Y⟩ := x
  obtain ⟨K', T', Ti', L', R', W', Y'⟩ := y
  simp only [RecD.mk.injEq, Bool.and_eq_true, decide_eq_true_eq, pB_iff]
  constructor
  · rintro ⟨a, b, c, d, e, f, g⟩
    exact ⟨⟨⟨⟨⟨a, b⟩, c⟩, d⟩, g⟩, e, f⟩
  · rintro ⟨⟨⟨⟨⟨a, b⟩, c⟩, d⟩, g⟩, e, f⟩
    exact ⟨a, b, c, d, e, f, g⟩

end Go.Proofs.Ytkcidneefdaaiaa


/- Entries and logs compared: impl. -/
namespace Go.Proofs.Ytkcidneefdaaiaa
open Go.RowKit

theorem entry_eq (x y : EntryD) : pB (x = y) = (decide (x.Term = y.Term) && pB (x.Rec = y.Rec)) := by
  refine pB_eq ?_
  obtain ⟨K, V⟩ := x
  obtain ⟨K', V'⟩ := y
  simp only [EntryD.mk.injEq, Bool.and_eq_true, decide_eq_true_eq, pB_iff]

theorem costEntry_take (l : List EntryD) (k : Nat) : costEntryS (l.take k) ≤ costEntryS l := by
  have := sumC_le costEntry l k
  unfold costEntryS
  rw [List.length_take]
  omega

end Go.Proofs.Ytkcidneefdaaiaa


/- Entries and logs compared: spec. -/
namespace Go.Proofs.Ytkcidneefdaaiaa
open Go.RowKit

/-- Whether the first n entries are there and the same. -/
noncomputable def begB (l m : List EntryD) (n : Nat) : Bool := pB (n ≤ l.length ∧ n ≤ m.length ∧ l.take n = m.take n)

end Go.Proofs.Ytkcidneefdaaiaa

