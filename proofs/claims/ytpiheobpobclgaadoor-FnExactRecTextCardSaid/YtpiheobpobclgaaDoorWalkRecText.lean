/- The law FnExactRecText walked. Printed by mkrl.py, turned. -/
import Derived.Test.YtpiheobpobclgaaDoorRecT5
import Derived.Test.YtpiheobpobclgaaDoorRecm
import Derived.Deep.RegionWith
namespace Go.Proofs.YtpiheobpobclgaaDoor.fnExactRecText
open Go.RowKit

set_option maxRecDepth 100000 in
set_option maxHeartbeats 12800000 in
theorem walk {w : World} (y : RecD) (a b : Value) (ra : Rd Cod.str w a y.Reads) (rb : Rd Cod.write w b y.Writes) (hTab : TabW w)
    (i0 : I64 y.Kind) (i1 : I64 y.Txn) (i2 : I64 y.Time) (i3 : I64 y.Lead) :
    Calls Tryd.prog 5 #[.agg #[.int .i64 y.Kind, .int .i64 y.Txn, .int .i64 y.Time, .int .i64 y.Lead, a, b, .bool y.Yes]] w fun e w' => e = .returned (.bool true) ∧ Below w.heap.size w w' := by
  obtain ⟨pa, ca, rfl, _⟩ := ra.form
  obtain ⟨pb, cb, rfl, _⟩ := rb.form
  have Hsy := Lib.hid (fun (t : Int) (h0 : 0 ≤ t) (h1 : t ≤ 1048576) (u : World) r s => szRec_any y t h0 h1 u (.slice pa y.Reads.length ca) r (.slice pb y.Writes.length cb) s)
  have Hty := Lib.hid (fun (c : costRec y ≤ 1048576) (u : World) r s => toRec_w y i0 i1 i2 i3 c u (.slice pa y.Reads.length ca) (.slice pb y.Writes.length cb) r s)
  have Hlen : Hid (costRec y ≤ 1048576 → y.Reads.length ≤ 1048576 ∧ y.Writes.length ≤ 1048576) := Lib.hid fun h => by unfold costRec costStringS costWriteS at h; omega
  have HS := Lib.hid (fun (c : costRec y ≤ 1048576) (u : World) p q r1 r2 => expRecTextS_any y c u p q r1 r2)
  have HI := Lib.hid (fun (c : costRec y ≤ 1048576) (u : World) (k : Below w.heap.size w u) p q r1 r2 => expRecText_any y c u (hTab.on k) p q r1 r2)
  have Hey := Lib.hid (fun (c : costRec y ≤ 1048576) (u : World) p q p' q' r1 r2 r3 r4 => eqRec_d y (Hlen.out c).1 (Hlen.out c).2 u p r1 q r2 p' r3 q' r4)
  generalize costRec y = n0 at *
  generalize recTR y = rs at *
  generalize goodRB y = q at *
  clear i0 i1 i2 i3 Hlen
  go_enter Tryd.func5, Tryd.ntmps5
  go_wp2_with fail
  refine (Hsy.out _ (by omega) (by omega) _ (ra.below (by (repeat (first | (with_reducible exact Below.refl _ _) | (with_reducible refine below_setCell ?_ (by first | (simp; done) | (simp; omega) | omega)) | (with_reducible refine below_alloc _ ?_) | (with_reducible refine below_drewN ?_ _) | (with_reducible assumption) | (with_reducible refine below_after (by assumption) ?_))))) (rb.below (by (repeat (first | (with_reducible exact Below.refl _ _) | (with_reducible refine below_setCell ?_ (by first | (simp; done) | (simp; omega) | omega)) | (with_reducible refine below_alloc _ ?_) | (with_reducible refine below_drewN ?_ _) | (with_reducible assumption) | (with_reducible refine below_after (by assumption) ?_)))))).mono ?_
  rintro e u1 ⟨k, ⟨rfl, hz0⟩ | ⟨rfl, hz0⟩⟩
  rotate_left
  · go_wp2
    go_ret
    exact ⟨rfl, by (repeat (first | (with_reducible exact Below.refl _ _) | (with_reducible refine below_setCell ?_ (by first | (simp; done) | (simp; omega) | omega)) | (with_reducible refine below_alloc _ ?_) | (with_reducible refine below_drewN ?_ _) | (with_reducible assumption) | (with_reducible refine below_after (by assumption) ?_)))⟩
  have b : Below w.heap.size w u1 := below_after k (by (repeat (first | (with_reducible exact Below.refl _ _) | (with_reducible refine below_setCell ?_ (by first | (simp; done) | (simp; omega) | omega)) | (with_reducible refine below_alloc _ ?_) | (with_reducible refine below_drewN ?_ _) | (with_reducible assumption) | (with_reducible refine below_after (by assumption) ?_))))
  have c0 : u1.cell? ⟨w.heap.size, 0, none⟩ = some (.int .i64 y.Kind) := by rw [(bcell k).1 _ _ (by first | (simp; done) | (simp; omega))]; simp [go_sem]
  have c1 : u1.cell? ⟨w.heap.size, 1, none⟩ = some (.int .i64 y.Txn) := by rw [(bcell k).1 _ _ (by first | (simp; done) | (simp; omega))]; simp [go_sem]
  have c2 : u1.cell? ⟨w.heap.size, 2, none⟩ = some (.int .i64 y.Time) := by rw [(bcell k).1 _ _ (by first | (simp; done) | (simp; omega))]; simp [go_sem]
  have c3 : u1.cell? ⟨w.heap.size, 3, none⟩ = some (.int .i64 y.Lead) := by rw [(bcell k).1 _ _ (by first | (simp; done) | (simp; omega))]; simp [go_sem]
  have c4 : u1.cell? ⟨w.heap.size, 4, none⟩ = some (.slice pa y.Reads.length ca) := by rw [(bcell k).1 _ _ (by first | (simp; done) | (simp; omega))]; simp [go_sem]
  have c5 : u1.cell? ⟨w.heap.size, 5, none⟩ = some (.slice pb y.Writes.length cb) := by rw [(bcell k).1 _ _ (by first | (simp; done) | (simp; omega))]; simp [go_sem]
  have c6 : u1.cell? ⟨w.heap.size, 6, none⟩ = some (.bool y.Yes) := by rw [(bcell k).1 _ _ (by first | (simp; done) | (simp; omega))]; simp [go_sem]
  have q0 : w.heap.size < u1.heap.size := by have := k.size; simp at this; omega
  replace ra := ra.below b
  replace rb := rb.below b
  clear k
  have hc0 : n0 ≤ 1048576 := by omega
  go_wp2_with fail
  refine (Hty.out hc0 _ (ra.below (by (repeat (first | (with_reducible exact Below.refl _ _) | (with_reducible refine below_setCell ?_ (by first | (simp; done) | (simp; omega) | omega)) | (with_reducible refine below_alloc _ ?_) | (with_reducible refine below_drewN ?_ _) | (with_reducible assumption) | (with_reducible refine below_after (by assumption) ?_))))) (rb.below (by (repeat (first | (with_reducible exact Below.refl _ _) | (with_reducible refine below_setCell ?_ (by first | (simp; done) | (simp; omega) | omega)) | (with_reducible refine below_alloc _ ?_) | (with_reducible refine below_drewN ?_ _) | (with_reducible assumption) | (with_reducible refine below_after (by assumption) ?_)))))).mono ?_
  rintro e u2 ⟨p1, e1, p2, e2, rfl, s1, s2, k⟩
  have m : Below u1.heap.size u1 u2 := below_after k (by (repeat (first | (with_reducible exact Below.refl _ _) | (with_reducible refine below_setCell ?_ (by first | (simp; done) | (simp; omega) | omega)) | (with_reducible refine below_alloc _ ?_) | (with_reducible refine below_drewN ?_ _) | (with_reducible assumption) | (with_reducible refine below_after (by assumption) ?_))))
  replace ra := ra.below m
  replace rb := rb.below m
  replace c0 := cell_step m c0
  replace c1 := cell_step m c1
  replace c2 := cell_step m c2
  replace c3 := cell_step m c3
  replace c4 := cell_step m c4
  replace c5 := cell_step m c5
  replace c6 := cell_step m c6
  replace b := b.trans (m.mono b.size)
  replace q0 := Nat.lt_of_lt_of_le q0 m.size
  clear m k
  go_wp2_with fail
  refine (HS.out hc0 _ _ _ (s1.below (by (repeat (first | (with_reducible exact Below.refl _ _) | (with_reducible refine below_setCell ?_ (by first | (simp; done) | (simp; omega) | omega)) | (with_reducible refine below_alloc _ ?_) | (with_reducible refine below_drewN ?_ _) | (with_reducible assumption) | (with_reducible refine below_after (by assumption) ?_))))) (s2.below (by (repeat (first | (with_reducible exact Below.refl _ _) | (with_reducible refine below_setCell ?_ (by first | (simp; done) | (simp; omega) | omega)) | (with_reducible refine below_alloc _ ?_) | (with_reducible refine below_drewN ?_ _) | (with_reducible assumption) | (with_reducible refine below_after (by assumption) ?_)))))).mono ?_
  rintro e u3 ⟨rfl, k⟩
  have m : Below u2.heap.size u2 u3 := below_after k (by (repeat (first | (with_reducible exact Below.refl _ _) | (with_reducible refine below_setCell ?_ (by first | (simp; done) | (simp; omega) | omega)) | (with_reducible refine below_alloc _ ?_) | (with_reducible refine below_drewN ?_ _) | (with_reducible assumption) | (with_reducible refine below_after (by assumption) ?_))))
  replace ra := ra.below m
  replace rb := rb.below m
  replace c0 := cell_step m c0
  replace c1 := cell_step m c1
  replace c2 := cell_step m c2
  replace c3 := cell_step m c3
  replace c4 := cell_step m c4
  replace c5 := cell_step m c5
  replace c6 := cell_step m c6
  clear s1 s2
  replace b := b.trans (m.mono b.size)
  replace q0 := Nat.lt_of_lt_of_le q0 m.size
  clear m k
  go_wp2_with fail
  refine (Hty.out hc0 _ (ra.below (by (repeat (first | (with_reducible exact Below.refl _ _) | (with_reducible refine below_setCell ?_ (by first | (simp; done) | (simp; omega) | omega)) | (with_reducible refine below_alloc _ ?_) | (with_reducible refine below_drewN ?_ _) | (with_reducible assumption) | (with_reducible refine below_after (by assumption) ?_))))) (rb.below (by (repeat (first | (with_reducible exact Below.refl _ _) | (with_reducible refine below_setCell ?_ (by first | (simp; done) | (simp; omega) | omega)) | (with_reducible refine below_alloc _ ?_) | (with_reducible refine below_drewN ?_ _) | (with_reducible assumption) | (with_reducible refine below_after (by assumption) ?_)))))).mono ?_
  rintro e u4 ⟨p1, e1, p2, e2, rfl, s1, s2, k⟩
  have m : Below u3.heap.size u3 u4 := below_after k (by (repeat (first | (with_reducible exact Below.refl _ _) | (with_reducible refine below_setCell ?_ (by first | (simp; done) | (simp; omega) | omega)) | (with_reducible refine below_alloc _ ?_) | (with_reducible refine below_drewN ?_ _) | (with_reducible assumption) | (with_reducible refine below_after (by assumption) ?_))))
  replace ra := ra.below m
  replace rb := rb.below m
  replace c0 := cell_step m c0
  replace c1 := cell_step m c1
  replace c2 := cell_step m c2
  replace c3 := cell_step m c3
  replace c4 := cell_step m c4
  replace c5 := cell_step m c5
  replace c6 := cell_step m c6
  replace b := b.trans (m.mono b.size)
  replace q0 := Nat.lt_of_lt_of_le q0 m.size
  clear m k
  go_wp2_with fail
  refine (HI.out hc0 _ (by (repeat (first | (with_reducible exact Below.refl _ _) | (with_reducible refine below_setCell ?_ (by first | (simp; done) | (simp; omega) | omega)) | (with_reducible refine below_alloc _ ?_) | (with_reducible refine below_drewN ?_ _) | (with_reducible assumption) | (with_reducible refine below_after (by assumption) ?_)))) _ _ (s1.below (by (repeat (first | (with_reducible exact Below.refl _ _) | (with_reducible refine below_setCell ?_ (by first | (simp; done) | (simp; omega) | omega)) | (with_reducible refine below_alloc _ ?_) | (with_reducible refine below_drewN ?_ _) | (with_reducible assumption) | (with_reducible refine below_after (by assumption) ?_))))) (s2.below (by (repeat (first | (with_reducible exact Below.refl _ _) | (with_reducible refine below_setCell ?_ (by first | (simp; done) | (simp; omega) | omega)) | (with_reducible refine below_alloc _ ?_) | (with_reducible refine below_drewN ?_ _) | (with_reducible assumption) | (with_reducible refine below_after (by assumption) ?_)))))).mono ?_
  rintro e u5 ⟨rfl, k⟩
  have m : Below u4.heap.size u4 u5 := below_after k (by (repeat (first | (with_reducible exact Below.refl _ _) | (with_reducible refine below_setCell ?_ (by first | (simp; done) | (simp; omega) | omega)) | (with_reducible refine below_alloc _ ?_) | (with_reducible refine below_drewN ?_ _) | (with_reducible assumption) | (with_reducible refine below_after (by assumption) ?_))))
  have f0 : u5.cell? ⟨u4.heap.size, 0, none⟩ = some (.int .i64 y.Kind) := by rw [(bcell k).1 _ _ (by first | (simp; done) | (simp; omega))]; simp [go_sem]
  have f1 : u5.cell? ⟨u4.heap.size, 1, none⟩ = some (.int .i64 y.Txn) := by rw [(bcell k).1 _ _ (by first | (simp; done) | (simp; omega))]; simp [go_sem]
  have f2 : u5.cell? ⟨u4.heap.size, 2, none⟩ = some (.int .i64 y.Time) := by rw [(bcell k).1 _ _ (by first | (simp; done) | (simp; omega))]; simp [go_sem]
  have f3 : u5.cell? ⟨u4.heap.size, 3, none⟩ = some (.int .i64 y.Lead) := by rw [(bcell k).1 _ _ (by first | (simp; done) | (simp; omega))]; simp [go_sem]
  have f4 : u5.cell? ⟨u4.heap.size, 4, none⟩ = some (.slice p1 y.Reads.length e1) := by rw [(bcell k).1 _ _ (by first | (simp; done) | (simp; omega))]; simp [go_sem]
  have f5 : u5.cell? ⟨u4.heap.size, 5, none⟩ = some (.slice p2 y.Writes.length e2) := by rw [(bcell k).1 _ _ (by first | (simp; done) | (simp; omega))]; simp [go_sem]
  have f6 : u5.cell? ⟨u4.heap.size, 6, none⟩ = some (.bool y.Yes) := by rw [(bcell k).1 _ _ (by first | (simp; done) | (simp; omega))]; simp [go_sem]
  replace ra := ra.below m
  replace rb := rb.below m
  replace c0 := cell_step m c0
  replace c1 := cell_step m c1
  replace c2 := cell_step m c2
  replace c3 := cell_step m c3
  replace c4 := cell_step m c4
  replace c5 := cell_step m c5
  replace c6 := cell_step m c6
  replace s1 := s1.below m
  replace s2 := s2.below m
  have q2 : u4.heap.size < u5.heap.size := by have := k.size; simp at this; omega
  replace b := b.trans (m.mono b.size)
  replace q0 := Nat.lt_of_lt_of_le q0 m.size
  clear m k
  go_wp2_with fail
  go_region_with (first
    | (go_at_call 16; (with_reducible refine (Hty.out hc0 _ (ra.below (by (repeat (first | (with_reducible exact Below.refl _ _) | (with_reducible refine below_setCell ?_ (by first | (simp; done) | (simp; omega) | omega)) | (with_reducible refine below_alloc _ ?_) | (with_reducible refine below_drewN ?_ _) | (with_reducible refine below_drew_step ?_) | (with_reducible assumption) | (with_reducible refine below_after (by assumption) ?_))))) (rb.below (by (repeat (first | (with_reducible exact Below.refl _ _) | (with_reducible refine below_setCell ?_ (by first | (simp; done) | (simp; omega) | omega)) | (with_reducible refine below_alloc _ ?_) | (with_reducible refine below_drewN ?_ _) | (with_reducible refine below_drew_step ?_) | (with_reducible assumption) | (with_reducible refine below_after (by assumption) ?_)))))).mono ?_); rintro e x1 ⟨t1, v1, t2, v2, rfl, r1, r2, k⟩; have hx1 := bcell k; have m1 : Below u5.heap.size u5 x1 := below_after k (by (repeat (first | (with_reducible exact Below.refl _ _) | (with_reducible refine below_setCell ?_ (by first | (simp; done) | (simp; omega) | omega)) | (with_reducible refine below_alloc _ ?_) | (with_reducible refine below_drewN ?_ _) | (with_reducible refine below_drew_step ?_) | (with_reducible assumption) | (with_reducible refine below_after (by assumption) ?_)))); have g0 := cell_step m1 f0; have g1 := cell_step m1 f1; have g2 := cell_step m1 f2; have g3 := cell_step m1 f3; have g4 := cell_step m1 f4; have g5 := cell_step m1 f5; have g6 := cell_step m1 f6; clear k)
    | (go_at_call 18; refine (Hey.out hc0 _ _ _ _ _ (s1.below (by (repeat (first | (with_reducible exact Below.refl _ _) | (with_reducible refine below_setCell ?_ (by first | (simp; done) | (simp; omega) | omega)) | (with_reducible refine below_alloc _ ?_) | (with_reducible refine below_drewN ?_ _) | (with_reducible refine below_drew_step ?_) | (with_reducible assumption) | (with_reducible refine below_after (by assumption) ?_))))) (s2.below (by (repeat (first | (with_reducible exact Below.refl _ _) | (with_reducible refine below_setCell ?_ (by first | (simp; done) | (simp; omega) | omega)) | (with_reducible refine below_alloc _ ?_) | (with_reducible refine below_drewN ?_ _) | (with_reducible refine below_drew_step ?_) | (with_reducible assumption) | (with_reducible refine below_after (by assumption) ?_))))) (r1.below (by (repeat (first | (with_reducible exact Below.refl _ _) | (with_reducible refine below_setCell ?_ (by first | (simp; done) | (simp; omega) | omega)) | (with_reducible refine below_alloc _ ?_) | (with_reducible refine below_drewN ?_ _) | (with_reducible refine below_drew_step ?_) | (with_reducible assumption) | (with_reducible refine below_after (by assumption) ?_))))) (r2.below (by (repeat (first | (with_reducible exact Below.refl _ _) | (with_reducible refine below_setCell ?_ (by first | (simp; done) | (simp; omega) | omega)) | (with_reducible refine below_alloc _ ?_) | (with_reducible refine below_drewN ?_ _) | (with_reducible refine below_drew_step ?_) | (with_reducible assumption) | (with_reducible refine below_after (by assumption) ?_)))))).mono ?_; rintro e x3 ⟨rfl, k⟩; replace m1 := below_after k (show Below u5.heap.size u5 _ from by (repeat (first | (with_reducible exact Below.refl _ _) | (with_reducible refine below_setCell ?_ (by first | (simp; done) | (simp; omega) | omega)) | (with_reducible refine below_alloc _ ?_) | (with_reducible refine below_drewN ?_ _) | (with_reducible refine below_drew_step ?_) | (with_reducible assumption) | (with_reducible refine below_after (by assumption) ?_)))); clear k))
  all_goals
    go_wp2
    go_ret
    exact ⟨rfl, b.trans ((show Below u5.heap.size u5 _ from by (repeat (first | (with_reducible exact Below.refl _ _) | (with_reducible refine below_setCell ?_ (by first | (simp; done) | (simp; omega) | omega)) | (with_reducible refine below_alloc _ ?_) | (with_reducible refine below_drewN ?_ _) | (with_reducible refine below_drew_step ?_) | (with_reducible assumption) | (with_reducible refine below_after (by assumption) ?_)))).mono b.size)⟩

end Go.Proofs.YtpiheobpobclgaaDoor.fnExactRecText
