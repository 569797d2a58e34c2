/- laws.toGroup, laws.toGroupS. Printed by mkdata2.py. -/
import Derived.Test.YtccmnffehhaobaaData2
import Derived.Test.YtccmnffehhaobaaToReplica
namespace Go.Proofs.Ytccmnffehhaobaa
open Go.RowKit

/-- What toGroup gives. -/
def ToGroup (x : GroupD) (base : Nat) (e : Ending) (w' : World) : Prop :=
  ∃ pReps' cReps' f, e = .returned (.agg #[.slice pReps' x.Reps.length cReps', .int .i64 x.Term, .int .i64 x.Lead]) ∧ Cod.group.rd w' (lst [.slice pReps' x.Reps.length cReps', .int .i64 x.Term, .int .i64 x.Lead]) x f ∧ Mine w' base f

set_option maxRecDepth 100000 in
set_option maxHeartbeats 1600000 in
/-- laws.toGroup -/
theorem toGroup_d (x : GroupD) (zTerm : I64 x.Term) (zLead : I64 x.Lead) (lReps : costReplicaS x.Reps ≤ 1048576) (w : World) (uReps : Value) (rReps : Rd (Cod.replica) w uReps x.Reps) :
    Calls Try.prog 55 #[.agg #[uReps, .int .i64 x.Term, .int .i64 x.Lead]] w fun e w' => ToGroup x w.heap.size e w' ∧ Below w.heap.size w w' := by
  unfold ToGroup
  have Hm := Lib.hid (fun (W : World) (uReps : Value) (fReps : List Nat) (rReps : Cod.rdS (Cod.replica) W uReps x.Reps fReps) => mk_group (w := W) (g := lst [uReps, .int .i64 x.Term, .int .i64 x.Lead]) (x := x) rfl rReps rfl zTerm rfl zLead)
  obtain ⟨xReps, xTerm, xLead⟩ := x
  simp only at *
  have HReps := Lib.hid (fun (w : World) (r : Rd (Cod.replica) w uReps xReps) => toReplicaS_any uReps xReps lReps w r)
  go_enter Try.func55, Try.ntmps55
  go_wp2_with fail
  refine (HReps.out _ (rReps.below (by (repeat (first | exact Below.refl _ _ | exact below_new _ _ | refine below_setCell ?_ (by first | (simp; done) | (simp; omega) | omega) | refine below_alloc _ ?_ | refine below_drewN ?_ _ | refine below_after (by assumption) ?_ | assumption))))).mono ?_
  rintro e w1 ⟨uReps', rfl, o1, k1⟩
  obtain ⟨pReps', cReps', rfl⟩ := o1.form
  have b1 : Below w.heap.size w w1 := below_after k1 (by (repeat (first | exact Below.refl _ _ | exact below_new _ _ | refine below_setCell ?_ (by first | (simp; done) | (simp; omega) | omega) | refine below_alloc _ ?_ | refine below_drewN ?_ _ | refine below_after (by assumption) ?_ | assumption)))
  have hx1 := bcell k1
  have q10 : w.heap.size < w1.heap.size := by have := k1.size; first | (simp at this; omega) | omega
  have q11 : w.heap.size + 1 < w1.heap.size := by have := k1.size; first | (simp at this; omega) | omega
  have q12 : w.heap.size + 2 < w1.heap.size := by have := k1.size; first | (simp at this; omega) | omega
  replace o1 := o1.mono (base' := w.heap.size + 3) (by simp)
  go_wp2
  obtain ⟨f1, s1, m1⟩ := o1
  refine bodyPost_ret (v := .agg #[.slice pReps' xReps.length cReps', .int .i64 xTerm, .int .i64 xLead]) (by simp [results, Try.results55, go_sem, hx1.1, q11, q10, q12]) rfl ⟨⟨pReps', cReps', _, rfl, Hm.out _ _ f1 ?r1, ?_⟩, ?_⟩
  case r1 => exact rdS_keep s1 m1 (B := w.heap.size + 3) (by omega) (by (repeat (first | (with_reducible exact Keep.refl _ _) | (with_reducible refine keep_set ?_ (by first | (simp; done) | (simp; omega) | omega)) | (with_reducible refine keep_alloc _ ?_) | (with_reducible refine keep_drewN ?_ _) | (with_reducible assumption) | (with_reducible refine keep_below (by assumption) ?_))))
  · rw [List.append_nil]
    exact (m1.keep (B := w.heap.size + 3) (by omega) (Cod.rdS_old _ s1) (by (repeat (first | (with_reducible exact Keep.refl _ _) | (with_reducible refine keep_set ?_ (by first | (simp; done) | (simp; omega) | omega)) | (with_reducible refine keep_alloc _ ?_) | (with_reducible refine keep_drewN ?_ _) | (with_reducible assumption) | (with_reducible refine keep_below (by assumption) ?_))))).mono (by omega)
  · (repeat (first | (with_reducible exact Below.refl _ _) | (with_reducible refine below_setCell ?_ (by first | (simp; done) | (simp; omega) | omega)) | (with_reducible refine below_alloc _ ?_) | (with_reducible refine below_drewN ?_ _) | (with_reducible assumption) | (with_reducible refine below_after (by assumption) ?_)))

theorem Try_info_group : (Try.prog.info? 78).map (fun i => (i.zero, i.size, i.bytes)) = some (some (.agg #[.slice none 0 0, .int .i64 0, .int .i64 0]), 3, 40) := by kernel_rfl

end Go.Proofs.Ytccmnffehhaobaa
