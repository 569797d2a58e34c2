/- The law FnExactIsSafe walked. Printed by mkgl.py. -/
import Derived.Test.YtogdbjalgledpaaSafeS
import Derived.Test.YtogdbjalgledpaaSizes
import Derived.Test.YtogdbjalgledpaaDArgsGrp
import Derived.Test.YtogdbjalgledpaaEqs
import Derived.Deep.RegionWith
namespace Go.Proofs.Ytogdbjalgledpaa.fnExactIsSafe
open Go.RowKit

set_option maxRecDepth 100000 in
set_option maxHeartbeats 12800000 in
theorem walk {w : World} (y : GroupD) (a : Value) (ra : Rd Cod.replica w a y.Reps) (i0 : I64 y.Term) (i1 : I64 y.Lead) :
    Calls Try.prog 3 #[.agg #[a, .int .i64 y.Term, .int .i64 y.Lead]] w fun e w' => e = .returned (.bool true) ∧ Below w.heap.size w w' := by
  obtain ⟨pa, ca, rfl, _⟩ := ra.form
  have Hsy := Lib.hid (fun (t : Int) (h0 : 0 ≤ t) (h1 : t ≤ 1048576) (u : World) r => szGroup_any y t h0 h1 u (.slice pa y.Reps.length ca) r)
  have Hty := Lib.hid (fun (c : costGroup y ≤ 1048576) (u : World) r => toGroup_w y i0 i1 c u (.slice pa y.Reps.length ca) r)
  have HS := Lib.hid (fun (c : costGroup y ≤ 1048576) (u : World) p r => isSafeS_any p y.Reps y.Term y.Lead i0 i1 c u r)
  have HI := Lib.hid (fun (c : costGroup y ≤ 1048576) (u : World) p r => isSafe_any p y.Reps y.Term y.Lead i0 i1 c u r)
  have Hey := Lib.hid (fun (c : costGroup y ≤ 1048576) (u : World) p q r1 r2 => eqGroup_d y c u p r1 q r2)
  generalize costGroup y = n0 at *
  generalize (goodGB y.Reps y.Term y.Lead && pB (Safe ⟨y.Reps, y.Term, y.Lead⟩)) = q at *
  clear i0 i1
  go_enter Try.func3, Try.ntmps3
  go_wp2_with fail
  refine (Hsy.out _ (by omega) (by omega) _ (ra.below (by (repeat (first | (with_reducible exact Below.refl _ _) | (with_reducible refine below_setCell ?_ (by first | (simp; done) | (simp; omega) | omega)) | (with_reducible refine below_alloc _ ?_) | (with_reducible refine below_drewN ?_ _) | (with_reducible assumption) | (with_reducible refine below_after (by assumption) ?_)))))).mono ?_
  rintro e u1 ⟨k, ⟨rfl, hz0⟩ | ⟨rfl, hz0⟩⟩
  rotate_left
  · go_wp2
    go_ret
    exact ⟨rfl, by (repeat (first | (with_reducible exact Below.refl _ _) | (with_reducible refine below_setCell ?_ (by first | (simp; done) | (simp; omega) | omega)) | (with_reducible refine below_alloc _ ?_) | (with_reducible refine below_drewN ?_ _) | (with_reducible assumption) | (with_reducible refine below_after (by assumption) ?_)))⟩
  have b : Below w.heap.size w u1 := below_after k (by (repeat (first | (with_reducible exact Below.refl _ _) | (with_reducible refine below_setCell ?_ (by first | (simp; done) | (simp; omega) | omega)) | (with_reducible refine below_alloc _ ?_) | (with_reducible refine below_drewN ?_ _) | (with_reducible assumption) | (with_reducible refine below_after (by assumption) ?_))))
  have c0 : u1.cell? ⟨w.heap.size, 0, none⟩ = some (.slice pa y.Reps.length ca) := by rw [(bcell k).1 _ _ (by first | (simp; done) | (simp; omega))]; simp [go_sem]
  have c1 : u1.cell? ⟨w.heap.size, 1, none⟩ = some (.int .i64 y.Term) := by rw [(bcell k).1 _ _ (by first | (simp; done) | (simp; omega))]; simp [go_sem]
  have c2 : u1.cell? ⟨w.heap.size, 2, none⟩ = some (.int .i64 y.Lead) := by rw [(bcell k).1 _ _ (by first | (simp; done) | (simp; omega))]; simp [go_sem]
  have q0 : w.heap.size < u1.heap.size := by have := k.size; simp at this; omega
  replace ra := ra.below b
  clear k
  have hc0 : n0 ≤ 1048576 := by omega
  go_wp2_with fail
  refine (Hty.out hc0 _ (ra.below (by (repeat (first | (with_reducible exact Below.refl _ _) | (with_reducible refine below_setCell ?_ (by first | (simp; done) | (simp; omega) | omega)) | (with_reducible refine below_alloc _ ?_) | (with_reducible refine below_drewN ?_ _) | (with_reducible assumption) | (with_reducible refine below_after (by assumption) ?_)))))).mono ?_
  rintro e u2 ⟨p1, e1, rfl, o1, k⟩
  have m : Below u1.heap.size u1 u2 := below_after k (by (repeat (first | (with_reducible exact Below.refl _ _) | (with_reducible refine below_setCell ?_ (by first | (simp; done) | (simp; omega) | omega)) | (with_reducible refine below_alloc _ ?_) | (with_reducible refine below_drewN ?_ _) | (with_reducible assumption) | (with_reducible refine below_after (by assumption) ?_))))
  replace ra := ra.below m
  replace c0 := cell_step m c0
  replace c1 := cell_step m c1
  replace c2 := cell_step m c2
  have s1 := o1.rd
  clear o1
  replace b := b.trans (m.mono b.size)
  replace q0 := Nat.lt_of_lt_of_le q0 m.size
  clear m k
  go_wp2_with fail
  refine (HS.out hc0 _ _ (s1.below (by (repeat (first | (with_reducible exact Below.refl _ _) | (with_reducible refine below_setCell ?_ (by first | (simp; done) | (simp; omega) | omega)) | (with_reducible refine below_alloc _ ?_) | (with_reducible refine below_drewN ?_ _) | (with_reducible assumption) | (with_reducible refine below_after (by assumption) ?_)))))).mono ?_
  rintro e u3 ⟨rfl, k⟩
  have m : Below u2.heap.size u2 u3 := below_after k (by (repeat (first | (with_reducible exact Below.refl _ _) | (with_reducible refine below_setCell ?_ (by first | (simp; done) | (simp; omega) | omega)) | (with_reducible refine below_alloc _ ?_) | (with_reducible refine below_drewN ?_ _) | (with_reducible assumption) | (with_reducible refine below_after (by assumption) ?_))))
  replace ra := ra.below m
  replace c0 := cell_step m c0
  replace c1 := cell_step m c1
  replace c2 := cell_step m c2
  clear s1
  replace b := b.trans (m.mono b.size)
  replace q0 := Nat.lt_of_lt_of_le q0 m.size
  clear m k
  go_wp2_with fail
  refine (Hty.out hc0 _ (ra.below (by (repeat (first | (with_reducible exact Below.refl _ _) | (with_reducible refine below_setCell ?_ (by first | (simp; done) | (simp; omega) | omega)) | (with_reducible refine below_alloc _ ?_) | (with_reducible refine below_drewN ?_ _) | (with_reducible assumption) | (with_reducible refine below_after (by assumption) ?_)))))).mono ?_
  rintro e u4 ⟨p2, e2, rfl, o1, k⟩
  have m : Below u3.heap.size u3 u4 := below_after k (by (repeat (first | (with_reducible exact Below.refl _ _) | (with_reducible refine below_setCell ?_ (by first | (simp; done) | (simp; omega) | omega)) | (with_reducible refine below_alloc _ ?_) | (with_reducible refine below_drewN ?_ _) | (with_reducible assumption) | (with_reducible refine below_after (by assumption) ?_))))
  replace ra := ra.below m
  replace c0 := cell_step m c0
  replace c1 := cell_step m c1
  replace c2 := cell_step m c2
  have s1 := o1.rd
  clear o1
  replace b := b.trans (m.mono b.size)
  replace q0 := Nat.lt_of_lt_of_le q0 m.size
  clear m k
  go_wp2_with fail
  refine (HI.out hc0 _ _ (s1.below (by (repeat (first | (with_reducible exact Below.refl _ _) | (with_reducible refine below_setCell ?_ (by first | (simp; done) | (simp; omega) | omega)) | (with_reducible refine below_alloc _ ?_) | (with_reducible refine below_drewN ?_ _) | (with_reducible assumption) | (with_reducible refine below_after (by assumption) ?_)))))).mono ?_
  rintro e u5 ⟨rfl, k⟩
  have m : Below u4.heap.size u4 u5 := below_after k (by (repeat (first | (with_reducible exact Below.refl _ _) | (with_reducible refine below_setCell ?_ (by first | (simp; done) | (simp; omega) | omega)) | (with_reducible refine below_alloc _ ?_) | (with_reducible refine below_drewN ?_ _) | (with_reducible assumption) | (with_reducible refine below_after (by assumption) ?_))))
  have f0 : u5.cell? ⟨u4.heap.size, 0, none⟩ = some (.slice p2 y.Reps.length e2) := by rw [(bcell k).1 _ _ (by first | (simp; done) | (simp; omega))]; simp [go_sem]
  have f1 : u5.cell? ⟨u4.heap.size, 1, none⟩ = some (.int .i64 y.Term) := by rw [(bcell k).1 _ _ (by first | (simp; done) | (simp; omega))]; simp [go_sem]
  have f2 : u5.cell? ⟨u4.heap.size, 2, none⟩ = some (.int .i64 y.Lead) := by rw [(bcell k).1 _ _ (by first | (simp; done) | (simp; omega))]; simp [go_sem]
  replace ra := ra.below m
  replace c0 := cell_step m c0
  replace c1 := cell_step m c1
  replace c2 := cell_step m c2
  replace s1 := s1.below m
  have q2 : u4.heap.size < u5.heap.size := by have := k.size; simp at this; omega
  replace b := b.trans (m.mono b.size)
  replace q0 := Nat.lt_of_lt_of_le q0 m.size
  clear m k
  go_wp2_with fail
  go_region_with (first
    | (go_at_call 12; (with_reducible refine (Hty.out hc0 _ (ra.below (by (repeat (first | (with_reducible exact Below.refl _ _) | (with_reducible refine below_setCell ?_ (by first | (simp; done) | (simp; omega) | omega)) | (with_reducible refine below_alloc _ ?_) | (with_reducible refine below_drewN ?_ _) | (with_reducible refine below_drew_step ?_) | (with_reducible assumption) | (with_reducible refine below_after (by assumption) ?_)))))).mono ?_); rintro e x1 ⟨t1, v1, rfl, o1, k⟩; have hx1 := bcell k; have m1 : Below u5.heap.size u5 x1 := below_after k (by (repeat (first | (with_reducible exact Below.refl _ _) | (with_reducible refine below_setCell ?_ (by first | (simp; done) | (simp; omega) | omega)) | (with_reducible refine below_alloc _ ?_) | (with_reducible refine below_drewN ?_ _) | (with_reducible refine below_drew_step ?_) | (with_reducible assumption) | (with_reducible refine below_after (by assumption) ?_)))); have r1 := o1.rd; have g0 := cell_step m1 f0; have g1 := cell_step m1 f1; have g2 := cell_step m1 f2; clear o1 k)
    | (go_at_call 14; refine (Hey.out hc0 _ _ _ (s1.below (by (repeat (first | (with_reducible exact Below.refl _ _) | (with_reducible refine below_setCell ?_ (by first | (simp; done) | (simp; omega) | omega)) | (with_reducible refine below_alloc _ ?_) | (with_reducible refine below_drewN ?_ _) | (with_reducible refine below_drew_step ?_) | (with_reducible assumption) | (with_reducible refine below_after (by assumption) ?_))))) (r1.below (by (repeat (first | (with_reducible exact Below.refl _ _) | (with_reducible refine below_setCell ?_ (by first | (simp; done) | (simp; omega) | omega)) | (with_reducible refine below_alloc _ ?_) | (with_reducible refine below_drewN ?_ _) | (with_reducible refine below_drew_step ?_) | (with_reducible assumption) | (with_reducible refine below_after (by assumption) ?_)))))).mono ?_; rintro e x3 ⟨rfl, k⟩; replace m1 := below_after k (show Below u5.heap.size u5 _ from by (repeat (first | (with_reducible exact Below.refl _ _) | (with_reducible refine below_setCell ?_ (by first | (simp; done) | (simp; omega) | omega)) | (with_reducible refine below_alloc _ ?_) | (with_reducible refine below_drewN ?_ _) | (with_reducible refine below_drew_step ?_) | (with_reducible assumption) | (with_reducible refine below_after (by assumption) ?_)))); clear k))
  all_goals
    go_wp2
    go_ret
    exact ⟨rfl, b.trans ((show Below u5.heap.size u5 _ from by (repeat (first | (with_reducible exact Below.refl _ _) | (with_reducible refine below_setCell ?_ (by first | (simp; done) | (simp; omega) | omega)) | (with_reducible refine below_alloc _ ?_) | (with_reducible refine below_drewN ?_ _) | (with_reducible refine below_drew_step ?_) | (with_reducible assumption) | (with_reducible refine below_after (by assumption) ?_)))).mono b.size)⟩

end Go.Proofs.Ytogdbjalgledpaa.fnExactIsSafe
