/- The law FnExactSameRec walked. -/
import Derived.Test.YtkgnogdbojefkaaSameRec
import Derived.Test.YtkgnogdbojefkaaSzRec
import Derived.Test.YtkgnogdbojefkaaRecW
import Derived.Test.YtkgnogdbojefkaaEqRec
import Derived.Deep.RegionWith
import Derived.Deep.DeepCutAuto
namespace Go.Proofs.Ytkgnogdbojefkaa.fnExactSameRec
open Go.RowKit

set_option maxRecDepth 100000 in
set_option maxHeartbeats 12800000 in
theorem walk {w : World} (y z : RecD) (a b a' b' : Value) (ra : Rd Cod.str w a y.Reads) (rb : Rd Cod.write w b y.Writes) (ra' : Rd Cod.str w a' z.Reads) (rb' : Rd Cod.write w b' z.Writes)
    (i0 : I64 y.Kind) (i1 : I64 y.Txn) (i2 : I64 y.Time) (i3 : I64 y.Lead) (j0 : I64 z.Kind) (j1 : I64 z.Txn) (j2 : I64 z.Time) (j3 : I64 z.Lead) :
    Calls Try.prog 11 #[.agg #[.int .i64 y.Kind, .int .i64 y.Txn, .int .i64 y.Time, .int .i64 y.Lead, a, b, .bool y.Yes], .agg #[.int .i64 z.Kind, .int .i64 z.Txn, .int .i64 z.Time, .int .i64 z.Lead, a', b', .bool z.Yes]] w fun e w' => e = .returned (.bool true) ∧ Below w.heap.size w w' := by
  obtain ⟨pa, ca, rfl, _⟩ := ra.form
  obtain ⟨pb, cb, rfl, _⟩ := rb.form
  obtain ⟨pa', ca', rfl, _⟩ := ra'.form
  obtain ⟨pb', cb', rfl, _⟩ := rb'.form
  have Hsy := Lib.hid (fun (t : Int) (h0 : 0 ≤ t) (h1 : t ≤ 1048576) (u : World) r s => szRec_any y t h0 h1 u (.slice pa y.Reads.length ca) r (.slice pb y.Writes.length cb) s)
  have Hsz := Lib.hid (fun (t : Int) (h0 : 0 ≤ t) (h1 : t ≤ 1048576) (u : World) r s => szRec_any z t h0 h1 u (.slice pa' z.Reads.length ca') r (.slice pb' z.Writes.length cb') s)
  have Hty := Lib.hid (fun (c : costRec y ≤ 1048576) (u : World) r s => toRec_w y i0 i1 i2 i3 c u (.slice pa y.Reads.length ca) (.slice pb y.Writes.length cb) r s)
  have Htz := Lib.hid (fun (c : costRec z ≤ 1048576) (u : World) r s => toRec_w z j0 j1 j2 j3 c u (.slice pa' z.Reads.length ca') (.slice pb' z.Writes.length cb') r s)
  have Hlen : Hid (∀ x : RecD, costRec x ≤ 1048576 → x.Reads.length ≤ 1048576 ∧ x.Writes.length ≤ 1048576) := Lib.hid fun x h => by unfold costRec costStringS costWriteS at h; omega
  have HS := Lib.hid (fun (c : costRec y ≤ 1048576) (c' : costRec z ≤ 1048576) (u : World) p q p' q' r1 r2 r3 r4 => sameRecS_any y z (Hlen.out y c).1 (Hlen.out y c).2 (Hlen.out z c').1 (Hlen.out z c').2 u p q p' q' r1 r2 r3 r4)
  have HI := Lib.hid (fun (c : costRec y ≤ 1048576) (c' : costRec z ≤ 1048576) (u : World) p q p' q' r1 r2 r3 r4 => sameRec_any y z (Hlen.out y c).1 (Hlen.out y c).2 (Hlen.out z c').1 (Hlen.out z c').2 u p q p' q' r1 r2 r3 r4)
  have Hey := Lib.hid (fun (c : costRec y ≤ 1048576) (u : World) p q p' q' r1 r2 r3 r4 => eqRec_d y (Hlen.out y c).1 (Hlen.out y c).2 u p r1 q r2 p' r3 q' r4)
  have Hez := Lib.hid (fun (c : costRec z ≤ 1048576) (u : World) p q p' q' r1 r2 r3 r4 => eqRec_d z (Hlen.out z c).1 (Hlen.out z c).2 u p r1 q r2 p' r3 q' r4)
  generalize costRec y = n0 at *
  generalize costRec z = n1 at *
  generalize pB (y = z) = q at *
  clear i0 i1 i2 i3 j0 j1 j2 j3 Hlen
  go_enter Try.func11, Try.ntmps11
  go_wp2_with fail
  refine (Hsy.out _ (by omega) (by omega) _ (ra.below (by (repeat (first | (with_reducible exact Below.refl _ _) | (with_reducible refine below_setCell ?_ (by first | (simp; done) | (simp; omega) | omega)) | (with_reducible refine below_alloc _ ?_) | (with_reducible refine below_drewN ?_ _) | (with_reducible assumption) | (with_reducible refine below_after (by assumption) ?_))))) (rb.below (by (repeat (first | (with_reducible exact Below.refl _ _) | (with_reducible refine below_setCell ?_ (by first | (simp; done) | (simp; omega) | omega)) | (with_reducible refine below_alloc _ ?_) | (with_reducible refine below_drewN ?_ _) | (with_reducible assumption) | (with_reducible refine below_after (by assumption) ?_)))))).mono ?_
  rintro e u1 ⟨k1, ⟨rfl, hz0⟩ | ⟨rfl, hz0⟩⟩
  rotate_left
  · go_wp2
    go_ret
    exact ⟨rfl, by (repeat (first | (with_reducible exact Below.refl _ _) | (with_reducible refine below_setCell ?_ (by first | (simp; done) | (simp; omega) | omega)) | (with_reducible refine below_alloc _ ?_) | (with_reducible refine below_drewN ?_ _) | (with_reducible assumption) | (with_reducible refine below_after (by assumption) ?_)))⟩
  have b : Below w.heap.size w u1 := below_after k1 (by (repeat (first | (with_reducible exact Below.refl _ _) | (with_reducible refine below_setCell ?_ (by first | (simp; done) | (simp; omega) | omega)) | (with_reducible refine below_alloc _ ?_) | (with_reducible refine below_drewN ?_ _) | (with_reducible assumption) | (with_reducible refine below_after (by assumption) ?_))))
  have c0 : u1.cell? ⟨w.heap.size, 0, none⟩ = some (.int .i64 y.Kind) := by rw [(bcell k1).1 _ _ (by first | (simp; done) | (simp; omega))]; simp [go_sem]
  have c1 : u1.cell? ⟨w.heap.size, 1, none⟩ = some (.int .i64 y.Txn) := by rw [(bcell k1).1 _ _ (by first | (simp; done) | (simp; omega))]; simp [go_sem]
  have c2 : u1.cell? ⟨w.heap.size, 2, none⟩ = some (.int .i64 y.Time) := by rw [(bcell k1).1 _ _ (by first | (simp; done) | (simp; omega))]; simp [go_sem]
  have c3 : u1.cell? ⟨w.heap.size, 3, none⟩ = some (.int .i64 y.Lead) := by rw [(bcell k1).1 _ _ (by first | (simp; done) | (simp; omega))]; simp [go_sem]
  have c4 : u1.cell? ⟨w.heap.size, 4, none⟩ = some (.slice pa y.Reads.length ca) := by rw [(bcell k1).1 _ _ (by first | (simp; done) | (simp; omega))]; simp [go_sem]
  have c5 : u1.cell? ⟨w.heap.size, 5, none⟩ = some (.slice pb y.Writes.length cb) := by rw [(bcell k1).1 _ _ (by first | (simp; done) | (simp; omega))]; simp [go_sem]
  have c6 : u1.cell? ⟨w.heap.size, 6, none⟩ = some (.bool y.Yes) := by rw [(bcell k1).1 _ _ (by first | (simp; done) | (simp; omega))]; simp [go_sem]
  have d0 : u1.cell? ⟨w.heap.size + 1, 0, none⟩ = some (.int .i64 z.Kind) := by rw [(bcell k1).1 _ _ (by first | (simp; done) | (simp; omega))]; simp [go_sem]
  have d1 : u1.cell? ⟨w.heap.size + 1, 1, none⟩ = some (.int .i64 z.Txn) := by rw [(bcell k1).1 _ _ (by first | (simp; done) | (simp; omega))]; simp [go_sem]
  have d2 : u1.cell? ⟨w.heap.size + 1, 2, none⟩ = some (.int .i64 z.Time) := by rw [(bcell k1).1 _ _ (by first | (simp; done) | (simp; omega))]; simp [go_sem]
  have d3 : u1.cell? ⟨w.heap.size + 1, 3, none⟩ = some (.int .i64 z.Lead) := by rw [(bcell k1).1 _ _ (by first | (simp; done) | (simp; omega))]; simp [go_sem]
  have d4 : u1.cell? ⟨w.heap.size + 1, 4, none⟩ = some (.slice pa' z.Reads.length ca') := by rw [(bcell k1).1 _ _ (by first | (simp; done) | (simp; omega))]; simp [go_sem]
  have d5 : u1.cell? ⟨w.heap.size + 1, 5, none⟩ = some (.slice pb' z.Writes.length cb') := by rw [(bcell k1).1 _ _ (by first | (simp; done) | (simp; omega))]; simp [go_sem]
  have d6 : u1.cell? ⟨w.heap.size + 1, 6, none⟩ = some (.bool z.Yes) := by rw [(bcell k1).1 _ _ (by first | (simp; done) | (simp; omega))]; simp [go_sem]
  replace ra := ra.below b
  replace rb := rb.below b
  replace ra' := ra'.below b
  replace rb' := rb'.below b
  have q1 : w.heap.size + 1 < u1.heap.size := by have := k1.size; simp at this; omega
  have q0 : w.heap.size < u1.heap.size := by omega
  clear k1
  go_wp2_with fail
  refine (Hsz.out _ (by omega) (by omega) _ (ra'.below (by (repeat (first | (with_reducible exact Below.refl _ _) | (with_reducible refine below_setCell ?_ (by first | (simp; done) | (simp; omega) | omega)) | (with_reducible refine below_alloc _ ?_) | (with_reducible refine below_drewN ?_ _) | (with_reducible assumption) | (with_reducible refine below_after (by assumption) ?_))))) (rb'.below (by (repeat (first | (with_reducible exact Below.refl _ _) | (with_reducible refine below_setCell ?_ (by first | (simp; done) | (simp; omega) | omega)) | (with_reducible refine below_alloc _ ?_) | (with_reducible refine below_drewN ?_ _) | (with_reducible assumption) | (with_reducible refine below_after (by assumption) ?_)))))).mono ?_
  rintro e u2 ⟨k, ⟨rfl, hz1⟩ | ⟨rfl, hz1⟩⟩
  rotate_left
  · go_wp2
    go_ret
    exact ⟨rfl, below_after k b⟩
  have m : Below u1.heap.size u1 u2 := below_after k (by (repeat (first | (with_reducible exact Below.refl _ _) | (with_reducible refine below_setCell ?_ (by first | (simp; done) | (simp; omega) | omega)) | (with_reducible refine below_alloc _ ?_) | (with_reducible refine below_drewN ?_ _) | (with_reducible assumption) | (with_reducible refine below_after (by assumption) ?_))))
  replace ra := ra.below m
  replace rb := rb.below m
  replace ra' := ra'.below m
  replace rb' := rb'.below m
  replace c0 := cell_step m c0
  replace c1 := cell_step m c1
  replace c2 := cell_step m c2
  replace c3 := cell_step m c3
  replace c4 := cell_step m c4
  replace c5 := cell_step m c5
  replace c6 := cell_step m c6
  replace d0 := cell_step m d0
  replace d1 := cell_step m d1
  replace d2 := cell_step m d2
  replace d3 := cell_step m d3
  replace d4 := cell_step m d4
  replace d5 := cell_step m d5
  replace d6 := cell_step m d6
  replace b := b.trans (m.mono b.size)
  replace q0 := Nat.lt_of_lt_of_le q0 m.size
  replace q1 := Nat.lt_of_lt_of_le q1 m.size
  clear m k
  have hc0 : n0 ≤ 1048576 := by omega
  have hc1 : n1 ≤ 1048576 := by omega
  go_upto_region 8 with fail
  go_cut [6] (fun s wx => s = .bool q ∧ Below u2.heap.size u2 wx)
  case first =>
    go_region_with (first
      | (go_at_call 49; (with_reducible refine (Hty.out hc0 _ (ra.below (by (repeat (first | (with_reducible exact Below.refl _ _) | (with_reducible refine below_setCell ?_ (by first | (simp; done) | (simp; omega) | omega)) | (with_reducible refine below_alloc _ ?_) | (with_reducible refine below_drewN ?_ _) | (with_reducible refine below_drew_step ?_) | (with_reducible assumption) | (with_reducible refine below_after (by assumption) ?_))))) (rb.below (by (repeat (first | (with_reducible exact Below.refl _ _) | (with_reducible refine below_setCell ?_ (by first | (simp; done) | (simp; omega) | omega)) | (with_reducible refine below_alloc _ ?_) | (with_reducible refine below_drewN ?_ _) | (with_reducible refine below_drew_step ?_) | (with_reducible assumption) | (with_reducible refine below_after (by assumption) ?_)))))).mono ?_); rintro e x1 ⟨p1, e1, p2, e2, rfl, s1, s2, k⟩; have hx1 := bcell k; have m1 : Below u2.heap.size u2 x1 := below_after k (by (repeat (first | (with_reducible exact Below.refl _ _) | (with_reducible refine below_setCell ?_ (by first | (simp; done) | (simp; omega) | omega)) | (with_reducible refine below_alloc _ ?_) | (with_reducible refine below_drewN ?_ _) | (with_reducible refine below_drew_step ?_) | (with_reducible assumption) | (with_reducible refine below_after (by assumption) ?_)))); have g0 := cell_step m1 d0; have g1 := cell_step m1 d1; have g2 := cell_step m1 d2; have g3 := cell_step m1 d3; have g4 := cell_step m1 d4; have g5 := cell_step m1 d5; have g6 := cell_step m1 d6; clear k)
      | (go_at_call 49; (with_reducible refine (Htz.out hc1 _ (ra'.below (by (repeat (first | (with_reducible exact Below.refl _ _) | (with_reducible refine below_setCell ?_ (by first | (simp; done) | (simp; omega) | omega)) | (with_reducible refine below_alloc _ ?_) | (with_reducible refine below_drewN ?_ _) | (with_reducible refine below_drew_step ?_) | (with_reducible assumption) | (with_reducible refine below_after (by assumption) ?_))))) (rb'.below (by (repeat (first | (with_reducible exact Below.refl _ _) | (with_reducible refine below_setCell ?_ (by first | (simp; done) | (simp; omega) | omega)) | (with_reducible refine below_alloc _ ?_) | (with_reducible refine below_drewN ?_ _) | (with_reducible refine below_drew_step ?_) | (with_reducible assumption) | (with_reducible refine below_after (by assumption) ?_)))))).mono ?_); rintro e x2 ⟨p3, e3, p4, e4, rfl, s3, s4, k⟩; have hx2 := bcell k; replace s1 := s1.below (below_after k (by (repeat (first | (with_reducible exact Below.refl _ _) | (with_reducible refine below_setCell ?_ (by first | (simp; done) | (simp; omega) | omega)) | (with_reducible refine below_alloc _ ?_) | (with_reducible refine below_drewN ?_ _) | (with_reducible refine below_drew_step ?_) | (with_reducible assumption) | (with_reducible refine below_after (by assumption) ?_))))); replace s2 := s2.below (below_after k (by (repeat (first | (with_reducible exact Below.refl _ _) | (with_reducible refine below_setCell ?_ (by first | (simp; done) | (simp; omega) | omega)) | (with_reducible refine below_alloc _ ?_) | (with_reducible refine below_drewN ?_ _) | (with_reducible refine below_drew_step ?_) | (with_reducible assumption) | (with_reducible refine below_after (by assumption) ?_))))); replace m1 := below_after k (show Below u2.heap.size u2 _ from by (repeat (first | (with_reducible exact Below.refl _ _) | (with_reducible refine below_setCell ?_ (by first | (simp; done) | (simp; omega) | omega)) | (with_reducible refine below_alloc _ ?_) | (with_reducible refine below_drewN ?_ _) | (with_reducible refine below_drew_step ?_) | (with_reducible assumption) | (with_reducible refine below_after (by assumption) ?_)))); clear k)
      | (go_at_call 48; refine (HS.out hc0 hc1 _ _ _ _ _ (s1.below (by (repeat (first | (with_reducible exact Below.refl _ _) | (with_reducible refine below_setCell ?_ (by first | (simp; done) | (simp; omega) | omega)) | (with_reducible refine below_alloc _ ?_) | (with_reducible refine below_drewN ?_ _) | (with_reducible refine below_drew_step ?_) | (with_reducible assumption) | (with_reducible refine below_after (by assumption) ?_))))) (s2.below (by (repeat (first | (with_reducible exact Below.refl _ _) | (with_reducible refine below_setCell ?_ (by first | (simp; done) | (simp; omega) | omega)) | (with_reducible refine below_alloc _ ?_) | (with_reducible refine below_drewN ?_ _) | (with_reducible refine below_drew_step ?_) | (with_reducible assumption) | (with_reducible refine below_after (by assumption) ?_))))) (s3.below (by (repeat (first | (with_reducible exact Below.refl _ _) | (with_reducible refine below_setCell ?_ (by first | (simp; done) | (simp; omega) | omega)) | (with_reducible refine below_alloc _ ?_) | (with_reducible refine below_drewN ?_ _) | (with_reducible refine below_drew_step ?_) | (with_reducible assumption) | (with_reducible refine below_after (by assumption) ?_))))) (s4.below (by (repeat (first | (with_reducible exact Below.refl _ _) | (with_reducible refine below_setCell ?_ (by first | (simp; done) | (simp; omega) | omega)) | (with_reducible refine below_alloc _ ?_) | (with_reducible refine below_drewN ?_ _) | (with_reducible refine below_drew_step ?_) | (with_reducible assumption) | (with_reducible refine below_after (by assumption) ?_)))))).mono ?_; rintro e x3 ⟨rfl, k⟩; replace m1 := below_after k (show Below u2.heap.size u2 _ from by (repeat (first | (with_reducible exact Below.refl _ _) | (with_reducible refine below_setCell ?_ (by first | (simp; done) | (simp; omega) | omega)) | (with_reducible refine below_alloc _ ?_) | (with_reducible refine below_drewN ?_ _) | (with_reducible refine below_drew_step ?_) | (with_reducible assumption) | (with_reducible refine below_after (by assumption) ?_)))); clear k))
    all_goals (go_wp2_with fail; go_meet; exact ⟨rfl, by (repeat (first | (with_reducible exact Below.refl _ _) | (with_reducible refine below_setCell ?_ (by first | (simp; done) | (simp; omega) | omega)) | (with_reducible refine below_alloc _ ?_) | (with_reducible refine below_drewN ?_ _) | (with_reducible refine below_drew_step ?_) | (with_reducible assumption) | (with_reducible refine below_after (by assumption) ?_)))⟩)
  case rest =>
    obtain ⟨rfl, m⟩ := hcut
    replace ra := ra.below m
    replace rb := rb.below m
    replace ra' := ra'.below m
    replace rb' := rb'.below m
    replace c0 := cell_step m c0
    replace c1 := cell_step m c1
    replace c2 := cell_step m c2
    replace c3 := cell_step m c3
    replace c4 := cell_step m c4
    replace c5 := cell_step m c5
    replace c6 := cell_step m c6
    replace d0 := cell_step m d0
    replace d1 := cell_step m d1
    replace d2 := cell_step m d2
    replace d3 := cell_step m d3
    replace d4 := cell_step m d4
    replace d5 := cell_step m d5
    replace d6 := cell_step m d6
    replace b := b.trans (m.mono b.size)
    replace q0 := Nat.lt_of_lt_of_le q0 m.size
    replace q1 := Nat.lt_of_lt_of_le q1 m.size
    clear m
    go_wp2_with fail
    refine (Hty.out hc0 _ (ra.below (by (repeat (first | (with_reducible exact Below.refl _ _) | (with_reducible refine below_setCell ?_ (by first | (simp; done) | (simp; omega) | omega)) | (with_reducible refine below_alloc _ ?_) | (with_reducible refine below_drewN ?_ _) | (with_reducible assumption) | (with_reducible refine below_after (by assumption) ?_))))) (rb.below (by (repeat (first | (with_reducible exact Below.refl _ _) | (with_reducible refine below_setCell ?_ (by first | (simp; done) | (simp; omega) | omega)) | (with_reducible refine below_alloc _ ?_) | (with_reducible refine below_drewN ?_ _) | (with_reducible assumption) | (with_reducible refine below_after (by assumption) ?_)))))).mono ?_
    rintro e u3 ⟨p1, e1, p2, e2, rfl, s1, s2, k⟩
    have m : Below wc.heap.size wc u3 := below_after k (by (repeat (first | (with_reducible exact Below.refl _ _) | (with_reducible refine below_setCell ?_ (by first | (simp; done) | (simp; omega) | omega)) | (with_reducible refine below_alloc _ ?_) | (with_reducible refine below_drewN ?_ _) | (with_reducible assumption) | (with_reducible refine below_after (by assumption) ?_))))
    replace ra := ra.below m
    replace rb := rb.below m
    replace ra' := ra'.below m
    replace rb' := rb'.below m
    replace c0 := cell_step m c0
    replace c1 := cell_step m c1
    replace c2 := cell_step m c2
    replace c3 := cell_step m c3
    replace c4 := cell_step m c4
    replace c5 := cell_step m c5
    replace c6 := cell_step m c6
    replace d0 := cell_step m d0
    replace d1 := cell_step m d1
    replace d2 := cell_step m d2
    replace d3 := cell_step m d3
    replace d4 := cell_step m d4
    replace d5 := cell_step m d5
    replace d6 := cell_step m d6
    replace b := b.trans (m.mono b.size)
    replace q0 := Nat.lt_of_lt_of_le q0 m.size
    replace q1 := Nat.lt_of_lt_of_le q1 m.size
    clear m k
    go_wp2_with fail
    refine (Htz.out hc1 _ (ra'.below (by (repeat (first | (with_reducible exact Below.refl _ _) | (with_reducible refine below_setCell ?_ (by first | (simp; done) | (simp; omega) | omega)) | (with_reducible refine below_alloc _ ?_) | (with_reducible refine below_drewN ?_ _) | (with_reducible assumption) | (with_reducible refine below_after (by assumption) ?_))))) (rb'.below (by (repeat (first | (with_reducible exact Below.refl _ _) | (with_reducible refine below_setCell ?_ (by first | (simp; done) | (simp; omega) | omega)) | (with_reducible refine below_alloc _ ?_) | (with_reducible refine below_drewN ?_ _) | (with_reducible assumption) | (with_reducible refine below_after (by assumption) ?_)))))).mono ?_
    rintro e u4 ⟨p3, e3, p4, e4, rfl, s3, s4, k⟩
    have m : Below u3.heap.size u3 u4 := below_after k (by (repeat (first | (with_reducible exact Below.refl _ _) | (with_reducible refine below_setCell ?_ (by first | (simp; done) | (simp; omega) | omega)) | (with_reducible refine below_alloc _ ?_) | (with_reducible refine below_drewN ?_ _) | (with_reducible assumption) | (with_reducible refine below_after (by assumption) ?_))))
    have f0 : u4.cell? ⟨u3.heap.size, 0, none⟩ = some (.int .i64 y.Kind) := by rw [(bcell k).1 _ _ (by first | (simp; done) | (simp; omega))]; simp [go_sem]
    have f1 : u4.cell? ⟨u3.heap.size, 1, none⟩ = some (.int .i64 y.Txn) := by rw [(bcell k).1 _ _ (by first | (simp; done) | (simp; omega))]; simp [go_sem]
    have f2 : u4.cell? ⟨u3.heap.size, 2, none⟩ = some (.int .i64 y.Time) := by rw [(bcell k).1 _ _ (by first | (simp; done) | (simp; omega))]; simp [go_sem]
    have f3 : u4.cell? ⟨u3.heap.size, 3, none⟩ = some (.int .i64 y.Lead) := by rw [(bcell k).1 _ _ (by first | (simp; done) | (simp; omega))]; simp [go_sem]
    have f4 : u4.cell? ⟨u3.heap.size, 4, none⟩ = some (.slice p1 y.Reads.length e1) := by rw [(bcell k).1 _ _ (by first | (simp; done) | (simp; omega))]; simp [go_sem]
    have f5 : u4.cell? ⟨u3.heap.size, 5, none⟩ = some (.slice p2 y.Writes.length e2) := by rw [(bcell k).1 _ _ (by first | (simp; done) | (simp; omega))]; simp [go_sem]
    have f6 : u4.cell? ⟨u3.heap.size, 6, none⟩ = some (.bool y.Yes) := by rw [(bcell k).1 _ _ (by first | (simp; done) | (simp; omega))]; simp [go_sem]
    have q2 : u3.heap.size < u4.heap.size := by have := k.size; simp at this; omega
    replace ra := ra.below m
    replace rb := rb.below m
    replace ra' := ra'.below m
    replace rb' := rb'.below m
    replace s1 := s1.below m
    replace s2 := s2.below m
    replace c0 := cell_step m c0
    replace c1 := cell_step m c1
    replace c2 := cell_step m c2
    replace c3 := cell_step m c3
    replace c4 := cell_step m c4
    replace c5 := cell_step m c5
    replace c6 := cell_step m c6
    replace d0 := cell_step m d0
    replace d1 := cell_step m d1
    replace d2 := cell_step m d2
    replace d3 := cell_step m d3
    replace d4 := cell_step m d4
    replace d5 := cell_step m d5
    replace d6 := cell_step m d6
    replace b := b.trans (m.mono b.size)
    replace q0 := Nat.lt_of_lt_of_le q0 m.size
    replace q1 := Nat.lt_of_lt_of_le q1 m.size
    clear m k
    go_wp2_with fail
    refine (HI.out hc0 hc1 _ _ _ _ _ (s1.below (by (repeat (first | (with_reducible exact Below.refl _ _) | (with_reducible refine below_setCell ?_ (by first | (simp; done) | (simp; omega) | omega)) | (with_reducible refine below_alloc _ ?_) | (with_reducible refine below_drewN ?_ _) | (with_reducible assumption) | (with_reducible refine below_after (by assumption) ?_))))) (s2.below (by (repeat (first | (with_reducible exact Below.refl _ _) | (with_reducible refine below_setCell ?_ (by first | (simp; done) | (simp; omega) | omega)) | (with_reducible refine below_alloc _ ?_) | (with_reducible refine below_drewN ?_ _) | (with_reducible assumption) | (with_reducible refine below_after (by assumption) ?_))))) (s3.below (by (repeat (first | (with_reducible exact Below.refl _ _) | (with_reducible refine below_setCell ?_ (by first | (simp; done) | (simp; omega) | omega)) | (with_reducible refine below_alloc _ ?_) | (with_reducible refine below_drewN ?_ _) | (with_reducible assumption) | (with_reducible refine below_after (by assumption) ?_))))) (s4.below (by (repeat (first | (with_reducible exact Below.refl _ _) | (with_reducible refine below_setCell ?_ (by first | (simp; done) | (simp; omega) | omega)) | (with_reducible refine below_alloc _ ?_) | (with_reducible refine below_drewN ?_ _) | (with_reducible assumption) | (with_reducible refine below_after (by assumption) ?_)))))).mono ?_
    rintro e u5 ⟨rfl, k⟩
    have m : Below u4.heap.size u4 u5 := below_after k (by (repeat (first | (with_reducible exact Below.refl _ _) | (with_reducible refine below_setCell ?_ (by first | (simp; done) | (simp; omega) | omega)) | (with_reducible refine below_alloc _ ?_) | (with_reducible refine below_drewN ?_ _) | (with_reducible assumption) | (with_reducible refine below_after (by assumption) ?_))))
    have h0 : u5.cell? ⟨u4.heap.size, 0, none⟩ = some (.int .i64 z.Kind) := by rw [(bcell k).1 _ _ (by first | (simp; done) | (simp; omega))]; simp [go_sem]
    have h1 : u5.cell? ⟨u4.heap.size, 1, none⟩ = some (.int .i64 z.Txn) := by rw [(bcell k).1 _ _ (by first | (simp; done) | (simp; omega))]; simp [go_sem]
    have h2 : u5.cell? ⟨u4.heap.size, 2, none⟩ = some (.int .i64 z.Time) := by rw [(bcell k).1 _ _ (by first | (simp; done) | (simp; omega))]; simp [go_sem]
    have h3 : u5.cell? ⟨u4.heap.size, 3, none⟩ = some (.int .i64 z.Lead) := by rw [(bcell k).1 _ _ (by first | (simp; done) | (simp; omega))]; simp [go_sem]
    have h4 : u5.cell? ⟨u4.heap.size, 4, none⟩ = some (.slice p3 z.Reads.length e3) := by rw [(bcell k).1 _ _ (by first | (simp; done) | (simp; omega))]; simp [go_sem]
    have h5 : u5.cell? ⟨u4.heap.size, 5, none⟩ = some (.slice p4 z.Writes.length e4) := by rw [(bcell k).1 _ _ (by first | (simp; done) | (simp; omega))]; simp [go_sem]
    have h6 : u5.cell? ⟨u4.heap.size, 6, none⟩ = some (.bool z.Yes) := by rw [(bcell k).1 _ _ (by first | (simp; done) | (simp; omega))]; simp [go_sem]
    have q3 : u4.heap.size < u5.heap.size := by have := k.size; simp at this; omega
    replace ra := ra.below m
    replace rb := rb.below m
    replace ra' := ra'.below m
    replace rb' := rb'.below m
    replace s1 := s1.below m
    replace s2 := s2.below m
    replace s3 := s3.below m
    replace s4 := s4.below m
    replace c0 := cell_step m c0
    replace c1 := cell_step m c1
    replace c2 := cell_step m c2
    replace c3 := cell_step m c3
    replace c4 := cell_step m c4
    replace c5 := cell_step m c5
    replace c6 := cell_step m c6
    replace d0 := cell_step m d0
    replace d1 := cell_step m d1
    replace d2 := cell_step m d2
    replace d3 := cell_step m d3
    replace d4 := cell_step m d4
    replace d5 := cell_step m d5
    replace d6 := cell_step m d6
    replace f0 := cell_step m f0
    replace f1 := cell_step m f1
    replace f2 := cell_step m f2
    replace f3 := cell_step m f3
    replace f4 := cell_step m f4
    replace f5 := cell_step m f5
    replace f6 := cell_step m f6
    replace b := b.trans (m.mono b.size)
    replace q0 := Nat.lt_of_lt_of_le q0 m.size
    replace q1 := Nat.lt_of_lt_of_le q1 m.size
    replace q2 := Nat.lt_of_lt_of_le q2 m.size
    clear m k
    go_upto_region 14 with fail
    go_cut [39] (fun s wx => s = .bool false ∧ Below u5.heap.size u5 wx)
    case first =>
      go_region_with (first
        | (go_at_call 49; (with_reducible refine (Hty.out hc0 _ (ra.below (by (repeat (first | (with_reducible exact Below.refl _ _) | (with_reducible refine below_setCell ?_ (by first | (simp; done) | (simp; omega) | omega)) | (with_reducible refine below_alloc _ ?_) | (with_reducible refine below_drewN ?_ _) | (with_reducible refine below_drew_step ?_) | (with_reducible assumption) | (with_reducible refine below_after (by assumption) ?_))))) (rb.below (by (repeat (first | (with_reducible exact Below.refl _ _) | (with_reducible refine below_setCell ?_ (by first | (simp; done) | (simp; omega) | omega)) | (with_reducible refine below_alloc _ ?_) | (with_reducible refine below_drewN ?_ _) | (with_reducible refine below_drew_step ?_) | (with_reducible assumption) | (with_reducible refine below_after (by assumption) ?_)))))).mono ?_); rintro e x1 ⟨t1, v1, t2, v2, rfl, r1, r2, k⟩; have hx1 := bcell k; have m1 : Below u5.heap.size u5 x1 := below_after k (by (repeat (first | (with_reducible exact Below.refl _ _) | (with_reducible refine below_setCell ?_ (by first | (simp; done) | (simp; omega) | omega)) | (with_reducible refine below_alloc _ ?_) | (with_reducible refine below_drewN ?_ _) | (with_reducible refine below_drew_step ?_) | (with_reducible assumption) | (with_reducible refine below_after (by assumption) ?_)))); have g0 := cell_step m1 f0; have g1 := cell_step m1 f1; have g2 := cell_step m1 f2; have g3 := cell_step m1 f3; have g4 := cell_step m1 f4; have g5 := cell_step m1 f5; have g6 := cell_step m1 f6; clear k)
        | (go_at_call 51; refine (Hey.out hc0 _ _ _ _ _ (s1.below (by (repeat (first | (with_reducible exact Below.refl _ _) | (with_reducible refine below_setCell ?_ (by first | (simp; done) | (simp; omega) | omega)) | (with_reducible refine below_alloc _ ?_) | (with_reducible refine below_drewN ?_ _) | (with_reducible refine below_drew_step ?_) | (with_reducible assumption) | (with_reducible refine below_after (by assumption) ?_))))) (s2.below (by (repeat (first | (with_reducible exact Below.refl _ _) | (with_reducible refine below_setCell ?_ (by first | (simp; done) | (simp; omega) | omega)) | (with_reducible refine below_alloc _ ?_) | (with_reducible refine below_drewN ?_ _) | (with_reducible refine below_drew_step ?_) | (with_reducible assumption) | (with_reducible refine below_after (by assumption) ?_))))) (r1.below (by (repeat (first | (with_reducible exact Below.refl _ _) | (with_reducible refine below_setCell ?_ (by first | (simp; done) | (simp; omega) | omega)) | (with_reducible refine below_alloc _ ?_) | (with_reducible refine below_drewN ?_ _) | (with_reducible refine below_drew_step ?_) | (with_reducible assumption) | (with_reducible refine below_after (by assumption) ?_))))) (r2.below (by (repeat (first | (with_reducible exact Below.refl _ _) | (with_reducible refine below_setCell ?_ (by first | (simp; done) | (simp; omega) | omega)) | (with_reducible refine below_alloc _ ?_) | (with_reducible refine below_drewN ?_ _) | (with_reducible refine below_drew_step ?_) | (with_reducible assumption) | (with_reducible refine below_after (by assumption) ?_)))))).mono ?_; rintro e x3 ⟨rfl, k⟩; replace m1 := below_after k (show Below u5.heap.size u5 _ from by (repeat (first | (with_reducible exact Below.refl _ _) | (with_reducible refine below_setCell ?_ (by first | (simp; done) | (simp; omega) | omega)) | (with_reducible refine below_alloc _ ?_) | (with_reducible refine below_drewN ?_ _) | (with_reducible refine below_drew_step ?_) | (with_reducible assumption) | (with_reducible refine below_after (by assumption) ?_)))); clear k))
      all_goals (go_wp2_with fail; go_meet; exact ⟨rfl, by (repeat (first | (with_reducible exact Below.refl _ _) | (with_reducible refine below_setCell ?_ (by first | (simp; done) | (simp; omega) | omega)) | (with_reducible refine below_alloc _ ?_) | (with_reducible refine below_drewN ?_ _) | (with_reducible refine below_drew_step ?_) | (with_reducible assumption) | (with_reducible refine below_after (by assumption) ?_)))⟩)
    case rest =>
      obtain ⟨rfl, m⟩ := hcut
      replace ra := ra.below m
      replace rb := rb.below m
      replace ra' := ra'.below m
      replace rb' := rb'.below m
      replace s3 := s3.below m
      replace s4 := s4.below m
      replace c0 := cell_step m c0
      replace c1 := cell_step m c1
      replace c2 := cell_step m c2
      replace c3 := cell_step m c3
      replace c4 := cell_step m c4
      replace c5 := cell_step m c5
      replace c6 := cell_step m c6
      replace d0 := cell_step m d0
      replace d1 := cell_step m d1
      replace d2 := cell_step m d2
      replace d3 := cell_step m d3
      replace d4 := cell_step m d4
      replace d5 := cell_step m d5
      replace d6 := cell_step m d6
      replace h0 := cell_step m h0
      replace h1 := cell_step m h1
      replace h2 := cell_step m h2
      replace h3 := cell_step m h3
      replace h4 := cell_step m h4
      replace h5 := cell_step m h5
      replace h6 := cell_step m h6
      replace b := b.trans (m.mono b.size)
      replace q1 := Nat.lt_of_lt_of_le q1 m.size
      replace q3 := Nat.lt_of_lt_of_le q3 m.size
      clear m
      go_upto_region 16 with fail
      go_cut [44] (fun s wx => s = .bool false ∧ Below wc.heap.size wc wx)
      case first =>
        go_region_with (first
          | (go_at_call 49; (with_reducible refine (Htz.out hc1 _ (ra'.below (by (repeat (first | (with_reducible exact Below.refl _ _) | (with_reducible refine below_setCell ?_ (by first | (simp; done) | (simp; omega) | omega)) | (with_reducible refine below_alloc _ ?_) | (with_reducible refine below_drewN ?_ _) | (with_reducible refine below_drew_step ?_) | (with_reducible assumption) | (with_reducible refine below_after (by assumption) ?_))))) (rb'.below (by (repeat (first | (with_reducible exact Below.refl _ _) | (with_reducible refine below_setCell ?_ (by first | (simp; done) | (simp; omega) | omega)) | (with_reducible refine below_alloc _ ?_) | (with_reducible refine below_drewN ?_ _) | (with_reducible refine below_drew_step ?_) | (with_reducible assumption) | (with_reducible refine below_after (by assumption) ?_)))))).mono ?_); rintro e x1 ⟨t1, v1, t2, v2, rfl, r1, r2, k⟩; have hx1 := bcell k; have m1 : Below wc.heap.size wc x1 := below_after k (by (repeat (first | (with_reducible exact Below.refl _ _) | (with_reducible refine below_setCell ?_ (by first | (simp; done) | (simp; omega) | omega)) | (with_reducible refine below_alloc _ ?_) | (with_reducible refine below_drewN ?_ _) | (with_reducible refine below_drew_step ?_) | (with_reducible assumption) | (with_reducible refine below_after (by assumption) ?_)))); have g0 := cell_step m1 h0; have g1 := cell_step m1 h1; have g2 := cell_step m1 h2; have g3 := cell_step m1 h3; have g4 := cell_step m1 h4; have g5 := cell_step m1 h5; have g6 := cell_step m1 h6; clear k)
          | (go_at_call 51; refine (Hez.out hc1 _ _ _ _ _ (s3.below (by (repeat (first | (with_reducible exact Below.refl _ _) | (with_reducible refine below_setCell ?_ (by first | (simp; done) | (simp; omega) | omega)) | (with_reducible refine below_alloc _ ?_) | (with_reducible refine below_drewN ?_ _) | (with_reducible refine below_drew_step ?_) | (with_reducible assumption) | (with_reducible refine below_after (by assumption) ?_))))) (s4.below (by (repeat (first | (with_reducible exact Below.refl _ _) | (with_reducible refine below_setCell ?_ (by first | (simp; done) | (simp; omega) | omega)) | (with_reducible refine below_alloc _ ?_) | (with_reducible refine below_drewN ?_ _) | (with_reducible refine below_drew_step ?_) | (with_reducible assumption) | (with_reducible refine below_after (by assumption) ?_))))) (r1.below (by (repeat (first | (with_reducible exact Below.refl _ _) | (with_reducible refine below_setCell ?_ (by first | (simp; done) | (simp; omega) | omega)) | (with_reducible refine below_alloc _ ?_) | (with_reducible refine below_drewN ?_ _) | (with_reducible refine below_drew_step ?_) | (with_reducible assumption) | (with_reducible refine below_after (by assumption) ?_))))) (r2.below (by (repeat (first | (with_reducible exact Below.refl _ _) | (with_reducible refine below_setCell ?_ (by first | (simp; done) | (simp; omega) | omega)) | (with_reducible refine below_alloc _ ?_) | (with_reducible refine below_drewN ?_ _) | (with_reducible refine below_drew_step ?_) | (with_reducible assumption) | (with_reducible refine below_after (by assumption) ?_)))))).mono ?_; rintro e x3 ⟨rfl, k⟩; replace m1 := below_after k (show Below wc.heap.size wc _ from by (repeat (first | (with_reducible exact Below.refl _ _) | (with_reducible refine below_setCell ?_ (by first | (simp; done) | (simp; omega) | omega)) | (with_reducible refine below_alloc _ ?_) | (with_reducible refine below_drewN ?_ _) | (with_reducible refine below_drew_step ?_) | (with_reducible assumption) | (with_reducible refine below_after (by assumption) ?_)))); clear k))
        all_goals (go_wp2_with fail; go_meet; exact ⟨rfl, by (repeat (first | (with_reducible exact Below.refl _ _) | (with_reducible refine below_setCell ?_ (by first | (simp; done) | (simp; omega) | omega)) | (with_reducible refine below_alloc _ ?_) | (with_reducible refine below_drewN ?_ _) | (with_reducible refine below_drew_step ?_) | (with_reducible assumption) | (with_reducible refine below_after (by assumption) ?_)))⟩)
      case rest =>
        obtain ⟨rfl, m⟩ := hcut
        replace b := b.trans (m.mono b.size)
        go_wp2
        go_ret
        exact ⟨rfl, b⟩

end Go.Proofs.Ytkgnogdbojefkaa.fnExactSameRec
