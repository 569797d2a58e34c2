/- GoodRec, both. -/
import Derived.Test.YtibgpjkpfakgiaaGoodRec2
import Derived.Test.YtibgpjkpfakgiaaGoodRec3
import Derived.Test.YtibgpjkpfakgiaaGoodRec4
import Derived.Test.YtibgpjkpfakgiaaGoodRec5
namespace Go.Proofs.Ytibgpjkpfakgiaa
open Go.RowKit

/-- impl.GoodRec -/
theorem goodRec_any (x : RecD) (h1 : x.Reads.length ≤ 1048576) (h2 : x.Writes.length ≤ 1048576) (w : World) (a b : Value) (ra : Rd Cod.str w a x.Reads) (rb : Rd Cod.write w b x.Writes) :
    Calls Try.prog 44 #[.agg #[.int .i64 x.Kind, .int .i64 x.Txn, .int .i64 x.Time, .int .i64 x.Lead, a, b, .bool x.Yes]] w fun e w' => e = .returned (.bool (goodRB x)) ∧ Below w.heap.size w w' := by
  obtain ⟨pr, cr, rfl, _⟩ := ra.form
  obtain ⟨pw, cw, rfl, _⟩ := rb.form
  rcases rec_kinds x.Kind with h | h | h | h
  · rw [goodRB_1 h, h]
    exact goodRec_1 x.Txn x.Time x.Lead pr pw _ _ cr cw x.Yes x.Reads x.Writes h1 h2 rfl rfl w ra rb
  · rw [goodRB_2 h]
    exact goodRec_2 x.Kind x.Txn x.Time x.Lead pr pw _ _ cr cw x.Yes h h1 h2 w
  · rw [goodRB_4 h]
    exact goodRec_4 x.Kind x.Txn x.Time x.Lead pr pw _ _ cr cw x.Yes h h1 h2 w
  · rw [goodRB_no h]
    exact goodRec_no x.Kind x.Txn x.Time x.Lead pr pw _ _ cr cw x.Yes h h1 h2 w

/-- spec.l4Good -/
theorem l4Good_any (x : RecD) (h1 : x.Reads.length ≤ 1048576) (h2 : x.Writes.length ≤ 1048576) (w : World) (a b : Value) (ra : Rd Cod.str w a x.Reads) (rb : Rd Cod.write w b x.Writes) :
    Calls Try.prog 41 #[.agg #[.int .i64 x.Kind, .int .i64 x.Txn, .int .i64 x.Time, .int .i64 x.Lead, a, b, .bool x.Yes]] w fun e w' => e = .returned (.bool (goodRB x)) ∧ Below w.heap.size w w' := by
  obtain ⟨pr, cr, rfl, _⟩ := ra.form
  obtain ⟨pw, cw, rfl, _⟩ := rb.form
  rcases rec_kinds x.Kind with h | h | h | h
  · rw [goodRB_1 h, h]
    exact l4Good_1 x.Txn x.Time x.Lead pr pw _ _ cr cw x.Yes x.Reads x.Writes h1 h2 rfl rfl w ra rb
  · rw [goodRB_2 h]
    exact l4Good_2 x.Kind x.Txn x.Time x.Lead pr pw _ _ cr cw x.Yes h h1 h2 w
  · rw [goodRB_4 h]
    exact l4Good_4 x.Kind x.Txn x.Time x.Lead pr pw _ _ cr cw x.Yes h h1 h2 w
  · rw [goodRB_no h]
    exact l4Good_no x.Kind x.Txn x.Time x.Lead pr pw _ _ cr cw x.Yes h h1 h2 w

end Go.Proofs.Ytibgpjkpfakgiaa
