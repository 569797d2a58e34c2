/- laws.szRec, laws.szRecS. Printed by mkdata.py. -/
import Derived.Test.YtccmnffehhaobaaData
import Derived.Test.YtccmnffehhaobaaRStr
import Derived.Test.YtccmnffehhaobaaSzWrite
namespace Go.Proofs.Ytccmnffehhaobaa
open Go.RowKit

set_option maxRecDepth 100000 in
/-- laws.szRec -/
theorem szRec_any (x : RecD) (left : Int) (h0 : 0 ≤ left) (h1 : left ≤ 1048576) (w : World) (uReads : Value) (rReads : Rd (Cod.str) w uReads x.Reads) (uWrites : Value) (rWrites : Rd (Cod.write) w uWrites x.Writes) :
    Calls Try.prog 29 #[.agg #[.int .i64 x.Kind, .int .i64 x.Txn, .int .i64 x.Time, .int .i64 x.Lead, uReads, uWrites, .bool x.Yes], .int .i64 left] w (SzP (costRec x) left w) := by
  unfold SzP costRec
  obtain ⟨xKind, xTxn, xTime, xLead, xReads, xWrites, xYes⟩ := x
  simp only at *
  have HReads := Lib.hid (fun (left : Int) (h0 : 0 ≤ left) (h1 : left ≤ 1048576) (w : World) (r : Rd (Cod.str) w uReads xReads) => szStringSR_any uReads xReads left h0 h1 w r)
  have HWrites := Lib.hid (fun (left : Int) (h0 : 0 ≤ left) (h1 : left ≤ 1048576) (w : World) (r : Rd (Cod.write) w uWrites xWrites) => szWriteS_any uWrites xWrites left h0 h1 w r)
  generalize costStringS xReads = kReads at *
  generalize costWriteS xWrites = kWrites at *
  go_enter Try.func29, Try.ntmps29
  go_wp2_with fail
  refine (HReads.out _ (by omega) (by omega) _ (rReads.below (by (repeat (first | exact Below.refl _ _ | exact below_new _ _ | refine below_setCell ?_ (by first | (simp; done) | (simp; omega) | omega) | refine below_alloc _ ?_ | refine below_drewN ?_ _ | refine below_after (by assumption) ?_ | assumption))))).mono ?_
  rintro e w1 ⟨k1, ⟨rfl, p1⟩ | ⟨rfl, p1⟩⟩
  rotate_left
  · go_wp2
    go_ret
    exact ⟨below_after k1 (by (repeat (first | exact Below.refl _ _ | exact below_new _ _ | refine below_setCell ?_ (by first | (simp; done) | (simp; omega) | omega) | refine below_alloc _ ?_ | refine below_drewN ?_ _ | refine below_after (by assumption) ?_ | assumption))), Or.inr ⟨rfl, by omega⟩⟩
  have b1 : Below w.heap.size w w1 := below_after k1 (by (repeat (first | exact Below.refl _ _ | exact below_new _ _ | refine below_setCell ?_ (by first | (simp; done) | (simp; omega) | omega) | refine below_alloc _ ?_ | refine below_drewN ?_ _ | refine below_after (by assumption) ?_ | assumption)))
  have hx1 := bcell k1
  have hz1 := b1.size
  go_wp2_with fail
  refine (HWrites.out _ (by omega) (by omega) _ (rWrites.below b1)).mono ?_
  rintro e w2 ⟨k2, ⟨rfl, p2⟩ | ⟨rfl, p2⟩⟩
  rotate_left
  · go_wp2
    go_ret
    exact ⟨below_after k2 b1, Or.inr ⟨rfl, by omega⟩⟩
  have b2 : Below w.heap.size w w2 := below_after k2 b1
  have hx2 := bcell k2
  have hz2 := b2.size
  go_wp2
  go_ret
  exact ⟨b2, Or.inl ⟨ret_int (by omega), by omega⟩⟩

end Go.Proofs.Ytccmnffehhaobaa
