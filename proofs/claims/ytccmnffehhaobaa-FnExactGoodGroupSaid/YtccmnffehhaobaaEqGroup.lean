/- laws.eqGroup, laws.eqGroupS of equal data. Printed by mkdata2.py. -/
import Derived.Test.YtccmnffehhaobaaData2
import Derived.Test.YtccmnffehhaobaaEqReplica
namespace Go.Proofs.Ytccmnffehhaobaa
open Go.RowKit

set_option maxRecDepth 100000 in
set_option maxHeartbeats 1600000 in
/-- laws.eqGroup -/
theorem eqGroup_d (x : GroupD) (lReps : costReplicaS x.Reps ≤ 1048576) (w : World) (uReps : Value) (ruReps : Rd (Cod.replica) w uReps x.Reps) (vReps : Value) (rvReps : Rd (Cod.replica) w vReps x.Reps) :
    Calls Try.prog 57 #[.agg #[uReps, .int .i64 x.Term, .int .i64 x.Lead], .agg #[vReps, .int .i64 x.Term, .int .i64 x.Lead]] w fun e w' => e = .returned (.bool true) ∧ Below w.heap.size w w' := by
  obtain ⟨xReps, xTerm, xLead⟩ := x
  simp only at *
  have HReps := Lib.hid (fun (w : World) (r1 : Rd (Cod.replica) w uReps xReps) (r2 : Rd (Cod.replica) w vReps xReps) => eqReplicaS_any uReps vReps xReps w r1 r2 lReps)
  go_enter Try.func57, Try.ntmps57
  go_wp2_with fail
  refine (HReps.out _ (ruReps.below (by (repeat (first | exact Below.refl _ _ | exact below_new _ _ | refine below_setCell ?_ (by first | (simp; done) | (simp; omega) | omega) | refine below_alloc _ ?_ | refine below_drewN ?_ _ | refine below_after (by assumption) ?_ | assumption)))) (rvReps.below (by (repeat (first | exact Below.refl _ _ | exact below_new _ _ | refine below_setCell ?_ (by first | (simp; done) | (simp; omega) | omega) | refine below_alloc _ ?_ | refine below_drewN ?_ _ | refine below_after (by assumption) ?_ | assumption))))).mono ?_
  rintro e w1 ⟨rfl, k1⟩
  have b1 : Below w.heap.size w w1 := below_after k1 (by (repeat (first | exact Below.refl _ _ | exact below_new _ _ | refine below_setCell ?_ (by first | (simp; done) | (simp; omega) | omega) | refine below_alloc _ ?_ | refine below_drewN ?_ _ | refine below_after (by assumption) ?_ | assumption)))
  have hx1 := bcell k1
  have q10 : w.heap.size < w1.heap.size := by have := k1.size; first | (simp at this; omega) | omega
  have q11 : w.heap.size + 1 < w1.heap.size := by have := k1.size; first | (simp at this; omega) | omega
  go_wp2
  go_ret
  exact ⟨rfl, by (repeat (first | exact Below.refl _ _ | exact below_new _ _ | refine below_setCell ?_ (by first | (simp; done) | (simp; omega) | omega) | refine below_alloc _ ?_ | refine below_drewN ?_ _ | refine below_after (by assumption) ?_ | assumption))⟩

end Go.Proofs.Ytccmnffehhaobaa
