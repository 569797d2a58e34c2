/- impl.copyRec, impl.copyEntries. Printed by mkcopy.py. -/
import Derived.Test.YtogdbjalgledpaaTos
import Derived.Test.YtogdbjalgledpaaCloneString
import Derived.Test.YtogdbjalgledpaaCloneWrite
import Derived.Deep.RegionWith
import Derived.Deep.DeepCutAuto
import Derived.Deep.RegionLaw
namespace Go.Proofs.Ytogdbjalgledpaa
open Go.RowKit

set_option maxRecDepth 100000 in
set_option maxHeartbeats 1600000 in
/-- impl.copyRec -/
theorem copyRec_d (x : RecD) (zKind : I64 x.Kind) (zTxn : I64 x.Txn) (zTime : I64 x.Time) (zLead : I64 x.Lead) (lReads : x.Reads.length ≤ 1048576) (lWrites : x.Writes.length ≤ 1048576) (w : World) (uReads : Value) (rReads : Rd (Cod.str) w uReads x.Reads) (uWrites : Value) (rWrites : Rd (Cod.write) w uWrites x.Writes) :
    Calls Try.prog 62 #[.agg #[.int .i64 x.Kind, .int .i64 x.Txn, .int .i64 x.Time, .int .i64 x.Lead, uReads, uWrites, .bool x.Yes]] w fun e w' => ToRec x w.heap.size e w' ∧ Below w.heap.size w w' := by
  unfold ToRec
  have Hm := Lib.hid (fun (W : World) (uReads : Value) (fReads : List Nat) (rReads : Cod.rdS (Cod.str) W uReads x.Reads fReads) (uWrites : Value) (fWrites : List Nat) (rWrites : Cod.rdS (Cod.write) W uWrites x.Writes fWrites) => mk_recd (w := W) (g := lst [.int .i64 x.Kind, .int .i64 x.Txn, .int .i64 x.Time, .int .i64 x.Lead, uReads, uWrites, .bool x.Yes]) (x := x) rfl zKind rfl zTxn rfl zTime rfl zLead rfl rReads rfl rWrites rfl)
  obtain ⟨xKind, xTxn, xTime, xLead, xReads, xWrites, xYes⟩ := x
  simp only at *
  have HReads := Lib.hid (fun (w : World) (r : Rd (Cod.str) w uReads xReads) => cloneString_any uReads xReads lReads w r)
  have HWrites := Lib.hid (fun (w : World) (r : Rd (Cod.write) w uWrites xWrites) => cloneWrite_any uWrites xWrites lWrites w r)
  go_enter Try.func62, Try.ntmps62
  go_wp2_with fail
  refine (HReads.out _ (rReads.below (by (repeat (first | exact Below.refl _ _ | exact below_new _ _ | refine below_setCell ?_ (by first | (simp; done) | (simp; omega) | omega) | refine below_alloc _ ?_ | refine below_drewN ?_ _ | refine below_after (by assumption) ?_ | assumption))))).mono ?_
  rintro e w1 ⟨uReads', rfl, o1, k1⟩
  obtain ⟨pReads', cReads', rfl⟩ := o1.form
  have b1 : Below w.heap.size w w1 := below_after k1 (by (repeat (first | exact Below.refl _ _ | exact below_new _ _ | refine below_setCell ?_ (by first | (simp; done) | (simp; omega) | omega) | refine below_alloc _ ?_ | refine below_drewN ?_ _ | refine below_after (by assumption) ?_ | assumption)))
  have a0 : w1.cell? ⟨w.heap.size, 0, none⟩ = some (.int .i64 xKind) := by rw [(bcell k1).1 _ _ (by first | (simp; done) | (simp; omega) | omega)]; simp [go_sem]
  have af0 : w1.frozen? ⟨w.heap.size, 0, none⟩ = false := by rw [(bcell k1).2 _ _ (by first | (simp; done) | (simp; omega) | omega)]; simp [go_sem]
  have a1 : w1.cell? ⟨w.heap.size, 1, none⟩ = some (.int .i64 xTxn) := by rw [(bcell k1).1 _ _ (by first | (simp; done) | (simp; omega) | omega)]; simp [go_sem]
  have af1 : w1.frozen? ⟨w.heap.size, 1, none⟩ = false := by rw [(bcell k1).2 _ _ (by first | (simp; done) | (simp; omega) | omega)]; simp [go_sem]
  have a2 : w1.cell? ⟨w.heap.size, 2, none⟩ = some (.int .i64 xTime) := by rw [(bcell k1).1 _ _ (by first | (simp; done) | (simp; omega) | omega)]; simp [go_sem]
  have af2 : w1.frozen? ⟨w.heap.size, 2, none⟩ = false := by rw [(bcell k1).2 _ _ (by first | (simp; done) | (simp; omega) | omega)]; simp [go_sem]
  have a3 : w1.cell? ⟨w.heap.size, 3, none⟩ = some (.int .i64 xLead) := by rw [(bcell k1).1 _ _ (by first | (simp; done) | (simp; omega) | omega)]; simp [go_sem]
  have af3 : w1.frozen? ⟨w.heap.size, 3, none⟩ = false := by rw [(bcell k1).2 _ _ (by first | (simp; done) | (simp; omega) | omega)]; simp [go_sem]
  have a4 : w1.cell? ⟨w.heap.size, 4, none⟩ = some (uReads) := by rw [(bcell k1).1 _ _ (by first | (simp; done) | (simp; omega) | omega)]; simp [go_sem]
  have af4 : w1.frozen? ⟨w.heap.size, 4, none⟩ = false := by rw [(bcell k1).2 _ _ (by first | (simp; done) | (simp; omega) | omega)]; simp [go_sem]
  have a5 : w1.cell? ⟨w.heap.size, 5, none⟩ = some (uWrites) := by rw [(bcell k1).1 _ _ (by first | (simp; done) | (simp; omega) | omega)]; simp [go_sem]
  have af5 : w1.frozen? ⟨w.heap.size, 5, none⟩ = false := by rw [(bcell k1).2 _ _ (by first | (simp; done) | (simp; omega) | omega)]; simp [go_sem]
  have a6 : w1.cell? ⟨w.heap.size, 6, none⟩ = some (.bool xYes) := by rw [(bcell k1).1 _ _ (by first | (simp; done) | (simp; omega) | omega)]; simp [go_sem]
  have af6 : w1.frozen? ⟨w.heap.size, 6, none⟩ = false := by rw [(bcell k1).2 _ _ (by first | (simp; done) | (simp; omega) | omega)]; simp [go_sem]
  have z0 : w1.cell? ⟨w.heap.size + 1, 0, none⟩ = some (.int .i64 0) := by rw [(bcell k1).1 _ _ (by first | (simp; done) | (simp; omega) | omega)]; simp [go_sem]
  have zf0 : w1.frozen? ⟨w.heap.size + 1, 0, none⟩ = false := by rw [(bcell k1).2 _ _ (by first | (simp; done) | (simp; omega) | omega)]; simp [go_sem]
  have z1 : w1.cell? ⟨w.heap.size + 1, 1, none⟩ = some (.int .i64 0) := by rw [(bcell k1).1 _ _ (by first | (simp; done) | (simp; omega) | omega)]; simp [go_sem]
  have zf1 : w1.frozen? ⟨w.heap.size + 1, 1, none⟩ = false := by rw [(bcell k1).2 _ _ (by first | (simp; done) | (simp; omega) | omega)]; simp [go_sem]
  have z2 : w1.cell? ⟨w.heap.size + 1, 2, none⟩ = some (.int .i64 0) := by rw [(bcell k1).1 _ _ (by first | (simp; done) | (simp; omega) | omega)]; simp [go_sem]
  have zf2 : w1.frozen? ⟨w.heap.size + 1, 2, none⟩ = false := by rw [(bcell k1).2 _ _ (by first | (simp; done) | (simp; omega) | omega)]; simp [go_sem]
  have z3 : w1.cell? ⟨w.heap.size + 1, 3, none⟩ = some (.int .i64 0) := by rw [(bcell k1).1 _ _ (by first | (simp; done) | (simp; omega) | omega)]; simp [go_sem]
  have zf3 : w1.frozen? ⟨w.heap.size + 1, 3, none⟩ = false := by rw [(bcell k1).2 _ _ (by first | (simp; done) | (simp; omega) | omega)]; simp [go_sem]
  have z4 : w1.cell? ⟨w.heap.size + 1, 4, none⟩ = some (.slice none 0 0) := by rw [(bcell k1).1 _ _ (by first | (simp; done) | (simp; omega) | omega)]; simp [go_sem]
  have zf4 : w1.frozen? ⟨w.heap.size + 1, 4, none⟩ = false := by rw [(bcell k1).2 _ _ (by first | (simp; done) | (simp; omega) | omega)]; simp [go_sem]
  have z5 : w1.cell? ⟨w.heap.size + 1, 5, none⟩ = some (.slice none 0 0) := by rw [(bcell k1).1 _ _ (by first | (simp; done) | (simp; omega) | omega)]; simp [go_sem]
  have zf5 : w1.frozen? ⟨w.heap.size + 1, 5, none⟩ = false := by rw [(bcell k1).2 _ _ (by first | (simp; done) | (simp; omega) | omega)]; simp [go_sem]
  have z6 : w1.cell? ⟨w.heap.size + 1, 6, none⟩ = some (.bool false) := by rw [(bcell k1).1 _ _ (by first | (simp; done) | (simp; omega) | omega)]; simp [go_sem]
  have zf6 : w1.frozen? ⟨w.heap.size + 1, 6, none⟩ = false := by rw [(bcell k1).2 _ _ (by first | (simp; done) | (simp; omega) | omega)]; simp [go_sem]
  have q10 : w.heap.size < w1.heap.size := by have := k1.size; first | (simp at this; omega) | omega
  have q11 : w.heap.size + 1 < w1.heap.size := by have := k1.size; first | (simp at this; omega) | omega
  replace o1 := o1.mono (base' := w.heap.size + 2) (by simp)
  go_wp2_with fail
  refine (HWrites.out _ (rWrites.below (below_link b1 (Below.refl _ _) (by (repeat (first | exact Below.refl _ _ | refine Below.setCell ?_ (by have := b1.size; first | (simp at this ⊢; omega) | (simp; omega) | omega | (simp; done)) _ | refine Below.alloc ?_ (by have := b1.size; first | (simp at this ⊢; omega) | (simp; omega) | omega) _ | refine below_drewN ?_ _)))))).mono ?_
  rintro e w2 ⟨uWrites', rfl, o2, k2⟩
  obtain ⟨pWrites', cWrites', rfl⟩ := o2.form
  have b2 : Below w.heap.size w w2 := below_link b1 k2 (by (repeat (first | exact Below.refl _ _ | refine Below.setCell ?_ (by have := b1.size; first | (simp at this ⊢; omega) | (simp; omega) | omega | (simp; done)) _ | refine Below.alloc ?_ (by have := b1.size; first | (simp at this ⊢; omega) | (simp; omega) | omega) _ | refine below_drewN ?_ _)))
  have c0 : w2.cell? ⟨w.heap.size, 0, none⟩ = some (.int .i64 xKind) := by rw [(bcell k2).1 _ _ (by first | (simp; done) | (simp; omega) | omega)]; simp [go_sem, a0]
  have cf0 : w2.frozen? ⟨w.heap.size, 0, none⟩ = false := by rw [(bcell k2).2 _ _ (by first | (simp; done) | (simp; omega) | omega)]; simp [go_sem, af0]
  have c1 : w2.cell? ⟨w.heap.size, 1, none⟩ = some (.int .i64 xTxn) := by rw [(bcell k2).1 _ _ (by first | (simp; done) | (simp; omega) | omega)]; simp [go_sem, a1]
  have cf1 : w2.frozen? ⟨w.heap.size, 1, none⟩ = false := by rw [(bcell k2).2 _ _ (by first | (simp; done) | (simp; omega) | omega)]; simp [go_sem, af1]
  have c2 : w2.cell? ⟨w.heap.size, 2, none⟩ = some (.int .i64 xTime) := by rw [(bcell k2).1 _ _ (by first | (simp; done) | (simp; omega) | omega)]; simp [go_sem, a2]
  have cf2 : w2.frozen? ⟨w.heap.size, 2, none⟩ = false := by rw [(bcell k2).2 _ _ (by first | (simp; done) | (simp; omega) | omega)]; simp [go_sem, af2]
  have c3 : w2.cell? ⟨w.heap.size, 3, none⟩ = some (.int .i64 xLead) := by rw [(bcell k2).1 _ _ (by first | (simp; done) | (simp; omega) | omega)]; simp [go_sem, a3]
  have cf3 : w2.frozen? ⟨w.heap.size, 3, none⟩ = false := by rw [(bcell k2).2 _ _ (by first | (simp; done) | (simp; omega) | omega)]; simp [go_sem, af3]
  have c4 : w2.cell? ⟨w.heap.size, 4, none⟩ = some (.slice pReads' xReads.length cReads') := by rw [(bcell k2).1 _ _ (by first | (simp; done) | (simp; omega) | omega)]; simp [go_sem, a4]
  have cf4 : w2.frozen? ⟨w.heap.size, 4, none⟩ = false := by rw [(bcell k2).2 _ _ (by first | (simp; done) | (simp; omega) | omega)]; simp [go_sem, af4]
  have c5 : w2.cell? ⟨w.heap.size, 5, none⟩ = some (uWrites) := by rw [(bcell k2).1 _ _ (by first | (simp; done) | (simp; omega) | omega)]; simp [go_sem, a5]
  have cf5 : w2.frozen? ⟨w.heap.size, 5, none⟩ = false := by rw [(bcell k2).2 _ _ (by first | (simp; done) | (simp; omega) | omega)]; simp [go_sem, af5]
  have c6 : w2.cell? ⟨w.heap.size, 6, none⟩ = some (.bool xYes) := by rw [(bcell k2).1 _ _ (by first | (simp; done) | (simp; omega) | omega)]; simp [go_sem, a6]
  have cf6 : w2.frozen? ⟨w.heap.size, 6, none⟩ = false := by rw [(bcell k2).2 _ _ (by first | (simp; done) | (simp; omega) | omega)]; simp [go_sem, af6]
  have y0 : w2.cell? ⟨w.heap.size + 1, 0, none⟩ = some (.int .i64 0) := by rw [(bcell k2).1 _ _ (by first | (simp; done) | (simp; omega) | omega)]; simp [go_sem, z0]
  have yf0 : w2.frozen? ⟨w.heap.size + 1, 0, none⟩ = false := by rw [(bcell k2).2 _ _ (by first | (simp; done) | (simp; omega) | omega)]; simp [go_sem, zf0]
  have y1 : w2.cell? ⟨w.heap.size + 1, 1, none⟩ = some (.int .i64 0) := by rw [(bcell k2).1 _ _ (by first | (simp; done) | (simp; omega) | omega)]; simp [go_sem, z1]
  have yf1 : w2.frozen? ⟨w.heap.size + 1, 1, none⟩ = false := by rw [(bcell k2).2 _ _ (by first | (simp; done) | (simp; omega) | omega)]; simp [go_sem, zf1]
  have y2 : w2.cell? ⟨w.heap.size + 1, 2, none⟩ = some (.int .i64 0) := by rw [(bcell k2).1 _ _ (by first | (simp; done) | (simp; omega) | omega)]; simp [go_sem, z2]
  have yf2 : w2.frozen? ⟨w.heap.size + 1, 2, none⟩ = false := by rw [(bcell k2).2 _ _ (by first | (simp; done) | (simp; omega) | omega)]; simp [go_sem, zf2]
  have y3 : w2.cell? ⟨w.heap.size + 1, 3, none⟩ = some (.int .i64 0) := by rw [(bcell k2).1 _ _ (by first | (simp; done) | (simp; omega) | omega)]; simp [go_sem, z3]
  have yf3 : w2.frozen? ⟨w.heap.size + 1, 3, none⟩ = false := by rw [(bcell k2).2 _ _ (by first | (simp; done) | (simp; omega) | omega)]; simp [go_sem, zf3]
  have y4 : w2.cell? ⟨w.heap.size + 1, 4, none⟩ = some (.slice none 0 0) := by rw [(bcell k2).1 _ _ (by first | (simp; done) | (simp; omega) | omega)]; simp [go_sem, z4]
  have yf4 : w2.frozen? ⟨w.heap.size + 1, 4, none⟩ = false := by rw [(bcell k2).2 _ _ (by first | (simp; done) | (simp; omega) | omega)]; simp [go_sem, zf4]
  have y5 : w2.cell? ⟨w.heap.size + 1, 5, none⟩ = some (.slice none 0 0) := by rw [(bcell k2).1 _ _ (by first | (simp; done) | (simp; omega) | omega)]; simp [go_sem, z5]
  have yf5 : w2.frozen? ⟨w.heap.size + 1, 5, none⟩ = false := by rw [(bcell k2).2 _ _ (by first | (simp; done) | (simp; omega) | omega)]; simp [go_sem, zf5]
  have y6 : w2.cell? ⟨w.heap.size + 1, 6, none⟩ = some (.bool false) := by rw [(bcell k2).1 _ _ (by first | (simp; done) | (simp; omega) | omega)]; simp [go_sem, z6]
  have yf6 : w2.frozen? ⟨w.heap.size + 1, 6, none⟩ = false := by rw [(bcell k2).2 _ _ (by first | (simp; done) | (simp; omega) | omega)]; simp [go_sem, zf6]
  have q20 : w.heap.size < w2.heap.size := by have := k2.size; first | (simp at this; omega) | omega
  have q21 : w.heap.size + 1 < w2.heap.size := by have := k2.size; first | (simp at this; omega) | omega
  replace o2 := o2.mono (base' := w1.heap.size) (by first | (simp; done) | omega | (simp; omega))
  clear a0 af0 z0 zf0 a1 af1 z1 zf1 a2 af2 z2 zf2 a3 af3 z3 zf3 a4 af4 z4 zf4 a5 af5 z5 zf5 a6 af6 z6 zf6
  have e2 : Keep (w.heap.size + 2) w1 w2 := keep_below k2 (by (repeat (first | (with_reducible exact Keep.refl _ _) | (with_reducible refine keep_set ?_ (by first | (simp; done) | (simp; omega) | omega)) | (with_reducible refine keep_alloc _ ?_) | (with_reducible refine keep_drewN ?_ _) | (with_reducible assumption) | (with_reducible refine keep_below (by assumption) ?_))))
  go_wp2
  obtain ⟨f1, s1, m1⟩ := o1
  obtain ⟨f2, s2, m2⟩ := o2
  refine bodyPost_ret (v := .agg #[.int .i64 xKind, .int .i64 xTxn, .int .i64 xTime, .int .i64 xLead, .slice pReads' xReads.length cReads', .slice pWrites' xWrites.length cWrites', .bool xYes]) (by simp [results, Try.results62, go_sem, y0, yf0, y1, yf1, y2, yf2, y3, yf3, y4, yf4, y5, yf5, y6, yf6]) rfl ⟨⟨pReads', cReads', pWrites', cWrites', _, rfl, Hm.out _ _ f1 ?r1 _ f2 ?r2, ?_⟩, ?_⟩
  case r1 => exact rdS_keep s1 m1 (B := w.heap.size + 2) (by omega) (by (repeat (first | (with_reducible exact Keep.refl _ _) | (with_reducible refine keep_set ?_ (by first | (simp; done) | (simp; omega) | omega)) | (with_reducible refine keep_alloc _ ?_) | (with_reducible refine keep_drewN ?_ _) | (with_reducible assumption) | (with_reducible refine keep_below (by assumption) ?_))))
  case r2 => exact rdS_keep s2 m2 (B := w.heap.size + 2) (by omega) (by (repeat (first | (with_reducible exact Keep.refl _ _) | (with_reducible refine keep_set ?_ (by first | (simp; done) | (simp; omega) | omega)) | (with_reducible refine keep_alloc _ ?_) | (with_reducible refine keep_drewN ?_ _) | (with_reducible assumption) | (with_reducible refine keep_below (by assumption) ?_))))
  · refine ((m1.keep (B := w.heap.size + 2) (by omega) (Cod.rdS_old _ s1) (by (repeat (first | (with_reducible exact Keep.refl _ _) | (with_reducible refine keep_set ?_ (by first | (simp; done) | (simp; omega) | omega)) | (with_reducible refine keep_alloc _ ?_) | (with_reducible refine keep_drewN ?_ _) | (with_reducible assumption) | (with_reducible refine keep_below (by assumption) ?_))))).mono (by omega)).app (((m2.keep (B := w.heap.size + 2) (by omega) (Cod.rdS_old _ s2) (by (repeat (first | (with_reducible exact Keep.refl _ _) | (with_reducible refine keep_set ?_ (by first | (simp; done) | (simp; omega) | omega)) | (with_reducible refine keep_alloc _ ?_) | (with_reducible refine keep_drewN ?_ _) | (with_reducible assumption) | (with_reducible refine keep_below (by assumption) ?_))))).mono (by omega)).app (Mine.nil _ _) (fun _ _ h => by cases h)) (fun b h1 h2 => ?_)
    have := Cod.rdS_old _ s1 b h1
    have := m2.low b (by simpa using h2)
    omega
  · (repeat (first | (with_reducible exact Below.refl _ _) | (with_reducible refine below_setCell ?_ (by first | (simp; done) | (simp; omega) | omega)) | (with_reducible refine below_alloc _ ?_) | (with_reducible refine below_drewN ?_ _) | (with_reducible assumption) | (with_reducible refine below_after (by assumption) ?_)))

end Go.Proofs.Ytogdbjalgledpaa
