/- Structs compared. -/
import Derived.Test.YtogdbjalgledpaaKit
import Derived.Test.YtogdbjalgledpaaData
import Derived.Laws.StructEq
namespace Go.Proofs.Ytogdbjalgledpaa
open Go.RowKit

theorem ver_ext (x y : VerD) : ((x.Time == y.Time) && (x.Val.toList == y.Val.toList) && (x.Gone == y.Gone)) = pB (x = y) := by
  refine (pB_eq ?_).symm
  obtain ⟨xTime, xVal, xGone⟩ := x
  obtain ⟨yTime, yVal, yGone⟩ := y
  simp only [VerD.mk.injEq, Bool.and_eq_true, beq_iff_eq, str_eq_iff]
  first | done | (constructor <;> (intro h; simp_all))


theorem write_ext (x y : WriteD) : ((x.Key.toList == y.Key.toList) && (x.Val.toList == y.Val.toList) && (x.Gone == y.Gone)) = pB (x = y) := by
  refine (pB_eq ?_).symm
  obtain ⟨xKey, xVal, xGone⟩ := x
  obtain ⟨yKey, yVal, yGone⟩ := y
  simp only [WriteD.mk.injEq, Bool.and_eq_true, beq_iff_eq, str_eq_iff]
  first | done | (constructor <;> (intro h; simp_all))

set_option maxRecDepth 100000 in
/-- != of two such structs. -/
theorem neq_write (x y : WriteD) (W : World) : (binOp .neq 112 (.agg #[.string x.Key, .string x.Val, .bool x.Gone]) (.agg #[.string y.Key, .string y.Val, .bool y.Gone])).run Try.prog W = .ok (.bool (!pB (x = y))) W := by
  rw [← write_ext, run_neq_struct, run_equalIn_agg W 9999 112 _ _ (by rw [Program.fieldsOf, Try.underlying112]) (by kernel_rfl)]
  rw [Program.fieldsOf, Try.underlying112]
  simp [Op.eqFields, go_sem]
  by_cases h0 : x.Key.toList = y.Key.toList <;> by_cases h1 : x.Val.toList = y.Val.toList <;> by_cases h2 : x.Gone = y.Gone <;> simp [h0, h1, h2]


end Go.Proofs.Ytogdbjalgledpaa
