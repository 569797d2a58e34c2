/- laws.toRec, laws.toRecS. Printed by mkdata.py. -/
import Derived.Test.YtccmnffehhaobaaData
import Derived.Test.YtccmnffehhaobaaRStr
import Derived.Test.YtccmnffehhaobaaToWrite
namespace Go.Proofs.Ytccmnffehhaobaa
open Go.RowKit

/-- What toRec gives. -/
def ToRec (x : RecD) (base : Nat) (e : Ending) (w' : World) : Prop :=
  ∃ pReads' cReads' pWrites' cWrites' f, e = .returned (.agg #[.int .i64 x.Kind, .int .i64 x.Txn, .int .i64 x.Time, .int .i64 x.Lead, .slice pReads' x.Reads.length cReads', .slice pWrites' x.Writes.length cWrites', .bool x.Yes]) ∧ Cod.recd.rd w' (lst [.int .i64 x.Kind, .int .i64 x.Txn, .int .i64 x.Time, .int .i64 x.Lead, .slice pReads' x.Reads.length cReads', .slice pWrites' x.Writes.length cWrites', .bool x.Yes]) x f ∧ Mine w' base f

set_option maxRecDepth 100000 in
set_option maxHeartbeats 1600000 in
/-- laws.toRec -/
theorem toRec_d (x : RecD) (zKind : I64 x.Kind) (zTxn : I64 x.Txn) (zTime : I64 x.Time) (zLead : I64 x.Lead) (lReads : x.Reads.length ≤ 1048576) (lWrites : costWriteS x.Writes ≤ 1048576) (w : World) (uReads : Value) (rReads : Rd (Cod.str) w uReads x.Reads) (uWrites : Value) (rWrites : Rd (Cod.write) w uWrites x.Writes) :
    Calls Try.prog 31 #[.agg #[.int .i64 x.Kind, .int .i64 x.Txn, .int .i64 x.Time, .int .i64 x.Lead, uReads, uWrites, .bool x.Yes]] w fun e w' => ToRec x w.heap.size e w' ∧ Below w.heap.size w w' := by
  unfold ToRec
  have Hm := Lib.hid (fun (W : World) (uReads : Value) (fReads : List Nat) (rReads : Cod.rdS (Cod.str) W uReads x.Reads fReads) (uWrites : Value) (fWrites : List Nat) (rWrites : Cod.rdS (Cod.write) W uWrites x.Writes fWrites) => mk_recd (w := W) (g := lst [.int .i64 x.Kind, .int .i64 x.Txn, .int .i64 x.Time, .int .i64 x.Lead, uReads, uWrites, .bool x.Yes]) (x := x) rfl zKind rfl zTxn rfl zTime rfl zLead rfl rReads rfl rWrites rfl)
  obtain ⟨xKind, xTxn, xTime, xLead, xReads, xWrites, xYes⟩ := x
  simp only at *
  have HReads := Lib.hid (fun (w : World) (r : Rd (Cod.str) w uReads xReads) => toStringSR_any uReads xReads lReads w r)
  have HWrites := Lib.hid (fun (w : World) (r : Rd (Cod.write) w uWrites xWrites) => toWriteS_any uWrites xWrites lWrites w r)
  go_enter Try.func31, Try.ntmps31
  go_wp2_with fail
  refine (HReads.out _ (rReads.below (by (repeat (first | exact Below.refl _ _ | exact below_new _ _ | refine below_setCell ?_ (by first | (simp; done) | (simp; omega) | omega) | refine below_alloc _ ?_ | refine below_drewN ?_ _ | refine below_after (by assumption) ?_ | assumption))))).mono ?_
  rintro e w1 ⟨uReads', rfl, o1, k1⟩
  obtain ⟨pReads', cReads', rfl⟩ := o1.form
  have b1 : Below w.heap.size w w1 := below_after k1 (by (repeat (first | exact Below.refl _ _ | exact below_new _ _ | refine below_setCell ?_ (by first | (simp; done) | (simp; omega) | omega) | refine below_alloc _ ?_ | refine below_drewN ?_ _ | refine below_after (by assumption) ?_ | assumption)))
  have hx1 := bcell k1
  have q10 : w.heap.size < w1.heap.size := by have := k1.size; first | (simp at this; omega) | omega
  have q11 : w.heap.size + 1 < w1.heap.size := by have := k1.size; first | (simp at this; omega) | omega
  have q12 : w.heap.size + 2 < w1.heap.size := by have := k1.size; first | (simp at this; omega) | omega
  replace o1 := o1.mono (base' := w.heap.size + 3) (by simp)
  go_wp2_with fail
  refine (HWrites.out _ (rWrites.below (below_link b1 (Below.refl _ _) (by (repeat (first | exact Below.refl _ _ | refine Below.setCell ?_ (by have := b1.size; first | (simp at this ⊢; omega) | (simp; omega) | omega) _ | refine Below.alloc ?_ (by have := b1.size; first | (simp at this ⊢; omega) | (simp; omega) | omega) _ | refine below_drewN ?_ _)))))).mono ?_
  rintro e w2 ⟨uWrites', rfl, o2, k2⟩
  obtain ⟨pWrites', cWrites', rfl⟩ := o2.form
  have b2 : Below w.heap.size w w2 := below_link b1 k2 (by (repeat (first | exact Below.refl _ _ | refine Below.setCell ?_ (by have := b1.size; first | (simp at this ⊢; omega) | (simp; omega) | omega) _ | refine Below.alloc ?_ (by have := b1.size; first | (simp at this ⊢; omega) | (simp; omega) | omega) _ | refine below_drewN ?_ _)))
  have hx2 := bcell k2
  have q20 : w.heap.size < w2.heap.size := by have := k2.size; first | (simp at this; omega) | omega
  have q21 : w.heap.size + 1 < w2.heap.size := by have := k2.size; first | (simp at this; omega) | omega
  have q22 : w.heap.size + 2 < w2.heap.size := by have := k2.size; first | (simp at this; omega) | omega
  replace o2 := o2.mono (base' := w1.heap.size) (by first | (simp; done) | omega | (simp; omega))
  have e2 : Keep (w.heap.size + 3) w1 w2 := keep_below k2 (by (repeat (first | (with_reducible exact Keep.refl _ _) | (with_reducible refine keep_set ?_ (by first | (simp; done) | (simp; omega) | omega)) | (with_reducible refine keep_alloc _ ?_) | (with_reducible refine keep_drewN ?_ _) | (with_reducible assumption) | (with_reducible refine keep_below (by assumption) ?_))))
  go_wp2
  obtain ⟨f1, s1, m1⟩ := o1
  obtain ⟨f2, s2, m2⟩ := o2
  refine bodyPost_ret (v := .agg #[.int .i64 xKind, .int .i64 xTxn, .int .i64 xTime, .int .i64 xLead, .slice pReads' xReads.length cReads', .slice pWrites' xWrites.length cWrites', .bool xYes]) (by simp [results, Try.results31, go_sem, hx1.1, hx2.1, q11]) rfl ⟨⟨pReads', cReads', pWrites', cWrites', _, rfl, Hm.out _ _ f1 ?r1 _ f2 ?r2, ?_⟩, ?_⟩
  case r1 => exact rdS_keep s1 m1 (B := w.heap.size + 3) (by omega) (by (repeat (first | (with_reducible exact Keep.refl _ _) | (with_reducible refine keep_set ?_ (by first | (simp; done) | (simp; omega) | omega)) | (with_reducible refine keep_alloc _ ?_) | (with_reducible refine keep_drewN ?_ _) | (with_reducible assumption) | (with_reducible refine keep_below (by assumption) ?_))))
  case r2 => exact rdS_keep s2 m2 (B := w.heap.size + 3) (by omega) (by (repeat (first | (with_reducible exact Keep.refl _ _) | (with_reducible refine keep_set ?_ (by first | (simp; done) | (simp; omega) | omega)) | (with_reducible refine keep_alloc _ ?_) | (with_reducible refine keep_drewN ?_ _) | (with_reducible assumption) | (with_reducible refine keep_below (by assumption) ?_))))
  · refine ((m1.keep (B := w.heap.size + 3) (by omega) (Cod.rdS_old _ s1) (by (repeat (first | (with_reducible exact Keep.refl _ _) | (with_reducible refine keep_set ?_ (by first | (simp; done) | (simp; omega) | omega)) | (with_reducible refine keep_alloc _ ?_) | (with_reducible refine keep_drewN ?_ _) | (with_reducible assumption) | (with_reducible refine keep_below (by assumption) ?_))))).mono (by omega)).app (((m2.keep (B := w.heap.size + 3) (by omega) (Cod.rdS_old _ s2) (by (repeat (first | (with_reducible exact Keep.refl _ _) | (with_reducible refine keep_set ?_ (by first | (simp; done) | (simp; omega) | omega)) | (with_reducible refine keep_alloc _ ?_) | (with_reducible refine keep_drewN ?_ _) | (with_reducible assumption) | (with_reducible refine keep_below (by assumption) ?_))))).mono (by omega)).app (Mine.nil _ _) (fun _ _ h => by cases h)) (fun b h1 h2 => ?_)
    have := Cod.rdS_old _ s1 b h1
    have := m2.low b (by simpa using h2)
    omega
  · (repeat (first | (with_reducible exact Below.refl _ _) | (with_reducible refine below_setCell ?_ (by first | (simp; done) | (simp; omega) | omega)) | (with_reducible refine below_alloc _ ?_) | (with_reducible refine below_drewN ?_ _) | (with_reducible assumption) | (with_reducible refine below_after (by assumption) ?_)))

theorem Try_info_recd : (Try.prog.info? 47).map (fun i => (i.zero, i.size, i.bytes)) = some (some (.agg #[.int .i64 0, .int .i64 0, .int .i64 0, .int .i64 0, .slice none 0 0, .slice none 0 0, .bool false]), 7, 88) := by kernel_rfl

end Go.Proofs.Ytccmnffehhaobaa
