/- laws.eqRec, laws.eqRecS of equal data. Printed by mkdata.py. -/
import Derived.Test.YtccmnffehhaobaaData
import Derived.Test.YtccmnffehhaobaaEqWrite
import Derived.Test.YtccmnffehhaobaaRStr
namespace Go.Proofs.Ytccmnffehhaobaa
open Go.RowKit

set_option maxRecDepth 100000 in
set_option maxHeartbeats 1600000 in
/-- laws.eqRec -/
theorem eqRec_d (x : RecD) (lReads : x.Reads.length ≤ 1048576) (lWrites : x.Writes.length ≤ 1048576) (w : World) (uReads : Value) (ruReads : Rd (Cod.str) w uReads x.Reads) (uWrites : Value) (ruWrites : Rd (Cod.write) w uWrites x.Writes) (vReads : Value) (rvReads : Rd (Cod.str) w vReads x.Reads) (vWrites : Value) (rvWrites : Rd (Cod.write) w vWrites x.Writes) :
    Calls Try.prog 34 #[.agg #[.int .i64 x.Kind, .int .i64 x.Txn, .int .i64 x.Time, .int .i64 x.Lead, uReads, uWrites, .bool x.Yes], .agg #[.int .i64 x.Kind, .int .i64 x.Txn, .int .i64 x.Time, .int .i64 x.Lead, vReads, vWrites, .bool x.Yes]] w fun e w' => e = .returned (.bool true) ∧ Below w.heap.size w w' := by
  obtain ⟨xKind, xTxn, xTime, xLead, xReads, xWrites, xYes⟩ := x
  simp only at *
  have HReads := Lib.hid (fun (w : World) (r1 : Rd (Cod.str) w uReads xReads) (r2 : Rd (Cod.str) w vReads xReads) => eqStringSR_any uReads vReads xReads w r1 r2 lReads)
  have HWrites := Lib.hid (fun (w : World) (r1 : Rd (Cod.write) w uWrites xWrites) (r2 : Rd (Cod.write) w vWrites xWrites) => eqWriteS_any uWrites vWrites xWrites w r1 r2 lWrites)
  go_enter Try.func34, Try.ntmps34
  go_wp2_with fail
  refine (HReads.out _ (ruReads.below (by (repeat (first | exact Below.refl _ _ | exact below_new _ _ | refine below_setCell ?_ (by first | (simp; done) | (simp; omega) | omega) | refine below_alloc _ ?_ | refine below_drewN ?_ _ | refine below_after (by assumption) ?_ | assumption)))) (rvReads.below (by (repeat (first | exact Below.refl _ _ | exact below_new _ _ | refine below_setCell ?_ (by first | (simp; done) | (simp; omega) | omega) | refine below_alloc _ ?_ | refine below_drewN ?_ _ | refine below_after (by assumption) ?_ | assumption))))).mono ?_
  rintro e w1 ⟨rfl, k1⟩
  have b1 : Below w.heap.size w w1 := below_after k1 (by (repeat (first | exact Below.refl _ _ | exact below_new _ _ | refine below_setCell ?_ (by first | (simp; done) | (simp; omega) | omega) | refine below_alloc _ ?_ | refine below_drewN ?_ _ | refine below_after (by assumption) ?_ | assumption)))
  have hx1 := bcell k1
  have q10 : w.heap.size < w1.heap.size := by have := k1.size; first | (simp at this; omega) | omega
  have q11 : w.heap.size + 1 < w1.heap.size := by have := k1.size; first | (simp at this; omega) | omega
  go_wp2_with fail
  refine (HWrites.out _ (ruWrites.below (below_link b1 (Below.refl _ _) (by (repeat (first | exact Below.refl _ _ | refine Below.setCell ?_ (by have := b1.size; first | (simp at this ⊢; omega) | (simp; omega) | omega) _ | refine Below.alloc ?_ (by have := b1.size; first | (simp at this ⊢; omega) | (simp; omega) | omega) _ | refine below_drewN ?_ _))))) (rvWrites.below (below_link b1 (Below.refl _ _) (by (repeat (first | exact Below.refl _ _ | refine Below.setCell ?_ (by have := b1.size; first | (simp at this ⊢; omega) | (simp; omega) | omega) _ | refine Below.alloc ?_ (by have := b1.size; first | (simp at this ⊢; omega) | (simp; omega) | omega) _ | refine below_drewN ?_ _)))))).mono ?_
  rintro e w2 ⟨rfl, k2⟩
  have b2 : Below w.heap.size w w2 := below_link b1 k2 (by (repeat (first | exact Below.refl _ _ | refine Below.setCell ?_ (by have := b1.size; first | (simp at this ⊢; omega) | (simp; omega) | omega) _ | refine Below.alloc ?_ (by have := b1.size; first | (simp at this ⊢; omega) | (simp; omega) | omega) _ | refine below_drewN ?_ _)))
  have hx2 := bcell k2
  have q20 : w.heap.size < w2.heap.size := by have := k2.size; first | (simp at this; omega) | omega
  have q21 : w.heap.size + 1 < w2.heap.size := by have := k2.size; first | (simp at this; omega) | omega
  go_wp2
  go_ret
  exact ⟨rfl, by (repeat (first | exact Below.refl _ _ | exact below_new _ _ | refine below_setCell ?_ (by first | (simp; done) | (simp; omega) | omega) | refine below_alloc _ ?_ | refine below_drewN ?_ _ | refine below_after (by assumption) ?_ | assumption))⟩

end Go.Proofs.Ytccmnffehhaobaa
