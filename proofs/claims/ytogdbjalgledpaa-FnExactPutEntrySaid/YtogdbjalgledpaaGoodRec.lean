/- GoodRec, both. -/
import Derived.Test.YtogdbjalgledpaaGoodRec2
import Derived.Test.YtogdbjalgledpaaGoodRec3
import Derived.Test.YtogdbjalgledpaaGoodRec4
import Derived.Test.YtogdbjalgledpaaGoodRec5
namespace Go.Proofs.Ytogdbjalgledpaa
open Go.RowKit

/-- impl.GoodRec -/
theorem goodRec_any (x : RecD) (h1 : x.Reads.length ≤ 1048576) (h2 : x.Writes.length ≤ 1048576) (w : World) (a b : Value) (ra : Rd Cod.str w a x.Reads) (rb : Rd Cod.write w b x.Writes) :
    Calls Try.prog 60 #[.agg #[.int .i64 x.Kind, .int .i64 x.Txn, .int .i64 x.Time, .int .i64 x.Lead, a, b, .bool x.Yes]] w fun e w' => e = .returned (.bool (goodRB x)) ∧ Below w.heap.size w w' := by
  obtain ⟨pr, cr, rfl, _⟩ := ra.form
  obtain ⟨pw, cw, rfl, _⟩ := rb.form
  rcases rec_kinds x.Kind with h | h | h | h
  · rw [goodRB_1 h, h]
    exact goodRec_1 x.Txn x.Time x.Lead pr pw _ _ cr cw x.Yes x.Reads x.Writes h1 h2 rfl rfl w ra rb
  · rw [goodRB_2 h]
    exact goodRec_2 x.Kind x.Txn x.Time x.Lead pr pw _ _ cr cw x.Yes h h1 h2 w
  · rw [goodRB_4 h]
    exact goodRec_4 x.Kind x.Txn x.Time x.Lead pr pw _ _ cr cw x.Yes h h1 h2 w
  · rw [goodRB_no h]
    exact goodRec_no x.Kind x.Txn x.Time x.Lead pr pw _ _ cr cw x.Yes h h1 h2 w

/-- spec.l4Good -/
theorem l4Good_any (x : RecD) (h1 : x.Reads.length ≤ 1048576) (h2 : x.Writes.length ≤ 1048576) (w : World) (a b : Value) (ra : Rd Cod.str w a x.Reads) (rb : Rd Cod.write w b x.Writes) :
    Calls Try.prog 95 #[.agg #[.int .i64 x.Kind, .int .i64 x.Txn, .int .i64 x.Time, .int .i64 x.Lead, a, b, .bool x.Yes]] w fun e w' => e = .returned (.bool (goodRB x)) ∧ Below w.heap.size w w' := by
  obtain ⟨pr, cr, rfl, _⟩ := ra.form
  obtain ⟨pw, cw, rfl, _⟩ := rb.form
  rcases rec_kinds x.Kind with h | h | h | h
  · rw [goodRB_1 h, h]
    exact l4Good_1 x.Txn x.Time x.Lead pr pw _ _ cr cw x.Yes x.Reads x.Writes h1 h2 rfl rfl w ra rb
  · rw [goodRB_2 h]
    exact l4Good_2 x.Kind x.Txn x.Time x.Lead pr pw _ _ cr cw x.Yes h h1 h2 w
  · rw [goodRB_4 h]
    exact l4Good_4 x.Kind x.Txn x.Time x.Lead pr pw _ _ cr cw x.Yes h h1 h2 w
  · rw [goodRB_no h]
    exact l4Good_no x.Kind x.Txn x.Time x.Lead pr pw _ _ cr cw x.Yes h h1 h2 w

/-- spec.GoodRec -/
theorem goodRecS_any (x : RecD) (h1 : x.Reads.length ≤ 1048576) (h2 : x.Writes.length ≤ 1048576) (w : World) (a b : Value) (ra : Rd Cod.str w a x.Reads) (rb : Rd Cod.write w b x.Writes) :
    Calls Try.prog 55 #[.agg #[.int .i64 x.Kind, .int .i64 x.Txn, .int .i64 x.Time, .int .i64 x.Lead, a, b, .bool x.Yes]] w fun e w' => e = .returned (.bool (goodRB x)) ∧ Below w.heap.size w w' := by
  have Hc := Lib.hid (fun (W : World) (k : Below w.heap.size w W) => l4Good_any x h1 h2 W a b (ra.below k) (rb.below k))
  obtain ⟨pr, cr, rfl, _⟩ := ra.form
  obtain ⟨pw, cw, rfl, _⟩ := rb.form
  clear ra rb h1 h2
  generalize goodRB x = q at *
  go_enter Try.func55, Try.ntmps55
  go_wp2_with fail
  refine (Hc.out _ (by (repeat (first | (with_reducible exact Below.refl _ _) | (with_reducible refine below_setCell ?_ (by first | (simp; done) | (simp; omega) | omega)) | (with_reducible refine below_alloc _ ?_) | (with_reducible refine below_drewN ?_ _) | (with_reducible assumption) | (with_reducible refine below_after (by assumption) ?_))))).mono ?_
  rintro e w1 ⟨rfl, k1⟩
  go_wp2
  go_ret
  exact ⟨rfl, by (repeat (first | (with_reducible exact Below.refl _ _) | (with_reducible refine below_setCell ?_ (by first | (simp; done) | (simp; omega) | omega)) | (with_reducible refine below_alloc _ ?_) | (with_reducible refine below_drewN ?_ _) | (with_reducible assumption) | (with_reducible refine below_after (by assumption) ?_)))⟩

end Go.Proofs.Ytogdbjalgledpaa
