/- laws.szGroup, laws.szGroupS. Printed by mkdata2.py. -/
import Derived.Test.YtccmnffehhaobaaData2
import Derived.Test.YtccmnffehhaobaaSzReplica
namespace Go.Proofs.Ytccmnffehhaobaa
open Go.RowKit

set_option maxRecDepth 100000 in
/-- laws.szGroup -/
theorem szGroup_any (x : GroupD) (left : Int) (h0 : 0 ≤ left) (h1 : left ≤ 1048576) (w : World) (uReps : Value) (rReps : Rd (Cod.replica) w uReps x.Reps) :
    Calls Try.prog 53 #[.agg #[uReps, .int .i64 x.Term, .int .i64 x.Lead], .int .i64 left] w (SzP (costGroup x) left w) := by
  unfold SzP costGroup
  obtain ⟨xReps, xTerm, xLead⟩ := x
  simp only at *
  have HReps := Lib.hid (fun (left : Int) (h0 : 0 ≤ left) (h1 : left ≤ 1048576) (w : World) (r : Rd (Cod.replica) w uReps xReps) => szReplicaS_any uReps xReps left h0 h1 w r)
  generalize costReplicaS xReps = kReps at *
  go_enter Try.func53, Try.ntmps53
  go_wp2_with fail
  refine (HReps.out _ (by omega) (by omega) _ (rReps.below (by (repeat (first | exact Below.refl _ _ | exact below_new _ _ | refine below_setCell ?_ (by first | (simp; done) | (simp; omega) | omega) | refine below_alloc _ ?_ | refine below_drewN ?_ _ | refine below_after (by assumption) ?_ | assumption))))).mono ?_
  rintro e w1 ⟨k1, ⟨rfl, p1⟩ | ⟨rfl, p1⟩⟩
  rotate_left
  · go_wp2
    go_ret
    exact ⟨below_after k1 (by (repeat (first | exact Below.refl _ _ | exact below_new _ _ | refine below_setCell ?_ (by first | (simp; done) | (simp; omega) | omega) | refine below_alloc _ ?_ | refine below_drewN ?_ _ | refine below_after (by assumption) ?_ | assumption))), Or.inr ⟨rfl, by omega⟩⟩
  have b1 : Below w.heap.size w w1 := below_after k1 (by (repeat (first | exact Below.refl _ _ | exact below_new _ _ | refine below_setCell ?_ (by first | (simp; done) | (simp; omega) | omega) | refine below_alloc _ ?_ | refine below_drewN ?_ _ | refine below_after (by assumption) ?_ | assumption)))
  have hx1 := bcell k1
  have hz1 := b1.size
  go_wp2
  go_ret
  exact ⟨b1, Or.inl ⟨ret_int (by omega), by omega⟩⟩

end Go.Proofs.Ytccmnffehhaobaa
