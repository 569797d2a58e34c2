/- The law FnExactStartRep walked: it returns true, and nothing that was there has turned. Printed by mkgrp.py. -/
import Derived.Test.YtcmmdgopmiojjaaStartS
import Derived.Test.YtcmmdgopmiojjaaStart
import Derived.Test.YtcmmdgopmiojjaaGcopy
import Derived.Test.YtcmmdgopmiojjaaGroupM
import Derived.Test.YtcmmdgopmiojjaaSizes
import Derived.Test.YtcmmdgopmiojjaaDArgsGrp
import Derived.Test.YtcmmdgopmiojjaaEqs
import Derived.Deep.RegionWith
import Derived.Deep.DeepCutAuto
namespace Go.Proofs.Ytcmmdgopmiojjaa.fnExactStartRep
open Go.RowKit

set_option maxRecDepth 100000 in
set_option maxHeartbeats 12800000 in
theorem walk {w : World} (y0 : GroupD) (v0 : Value) (s0 : Rd Cod.replica w v0 y0.Reps) (i0a : I64 y0.Term) (i0b : I64 y0.Lead) (y1 : Int) (i1 : I64 y1) (_ : True) : Calls Try.prog 7 #[.agg #[v0, .int .i64 y0.Term, .int .i64 y0.Lead], .int .i64 y1] w fun e w' => e = .returned (.bool true) ∧ Below w.heap.size w w' := by
  obtain ⟨p0, e0, rfl, -⟩ := s0.form
  have Hs0 := Lib.hid (fun (z : Int) (h0 : 0 ≤ z) (h1 : z ≤ 1048576) (u : World) r => szGroup_any y0 z h0 h1 u (.slice p0 y0.Reps.length e0) r)
  have Ht0 := Lib.hid (fun (c : costGroup y0 ≤ 1048576) (u : World) r => toGroup_w y0 i0a i0b c u (.slice p0 y0.Reps.length e0) r)
  have He0 := Lib.hid (fun (c : costGroup y0 ≤ 1048576) (u : World) p q r1 r2 => eqGroup_d y0 c u p r1 q r2)
  have Hk0 := Lib.hid (fun (k0 : Nat) (h0 : 0 < k0) (c : k0 + sumN LReplica y0.Reps ≤ 1073741824) (a : Value) (lo hi : Nat) (u : World) r => markGroup_l k0 h0 a y0.Reps y0.Term y0.Lead lo hi u r c)
  have hL0 := lenReplica y0.Reps
  have HS := Lib.hid (fun (c0 : costGroup y0 ≤ 1048576) (u : World) v0 r0 => startS_any v0 y0.Reps y0.Term y0.Lead y1 i0a i0b c0 u r0)
  have HI := Lib.hid (fun (c0 : costGroup y0 ≤ 1048576) (u : World) v0 r0 => start_any v0 y0.Reps y0.Term y0.Lead y1 i0a i0b c0 u r0)
  have Hcr : Hid (costGroup y0 ≤ 1048576 → costGroup (pickG (goodGB y0.Reps y0.Term y0.Lead && upIs y0.Reps y1 false) ⟨startL y0.Reps y1, y0.Term, y0.Lead⟩) ≤ 1048576) := Lib.hid (fun c0 => Nat.le_trans (pick_costGroup _ _) (by show costReplicaS _ ≤ _; rw [startL_cost]; exact c0))
  generalize pickG (goodGB y0.Reps y0.Term y0.Lead && upIs y0.Reps y1 false) ⟨startL y0.Reps y1, y0.Term, y0.Lead⟩ = res at *
  generalize (goodGB y0.Reps y0.Term y0.Lead && upIs y0.Reps y1 false) = q at *
  have HeR := Lib.hid (fun (c : costGroup res ≤ 1048576) (u : World) a b r1 r2 => eqGroup_d res c u a r1 b r2)
  have hLR := lenReplica res.Reps
  obtain ⟨LR, eLR⟩ : ∃ LR, sumN LReplica res.Reps = LR := ⟨_, rfl⟩
  rw [eLR] at hLR
  have HkR := Lib.hid (fun (c : 1 + LR ≤ 1073741824) (a : Value) (lo hi : Nat) (u : World) r => eLR ▸ markGroup_l 1 (by decide) a res.Reps res.Term res.Lead lo hi u r (by rw [eLR]; exact c))
  have HhR := Lib.hid (fun (c : 1 + LR ≤ 1073741824) (a : Value) (u : World) (r : HeldS PT.treplica u a 1 LR) => heldGroup_any 1 (by decide) a res.Term res.Lead LR u r c)
  clear eLR
  change _ ≤ 6 * costGroup y0 at hL0
  generalize costGroup y0 = n0 at *
  generalize sumN LReplica y0.Reps = l0 at *
  clear i0a i0b
  change _ ≤ 6 * costGroup res at hLR
  generalize costGroup res = nR at *
  cases q
  all_goals
    go_enter Try.func7, Try.ntmps7
    replace s0 := s0.within
    go_wp2_with fail
    refine (Hs0.out _ (by omega) (by omega) _ (s0.below (by (repeat (first | (with_reducible exact Below.refl _ _) | (with_reducible refine below_setCell ?_ (by first | (simp; done) | (simp; omega) | omega)) | (with_reducible refine below_alloc _ ?_) | (with_reducible refine below_drewN ?_ _) | (with_reducible assumption) | (with_reducible refine below_after (by assumption) ?_))))).rd).mono ?_
    rintro e u1 ⟨k1, ⟨rfl, hz0⟩ | ⟨rfl, hz0⟩⟩
    rotate_left
    · go_wp2
      go_ret
      exact ⟨rfl, by (repeat (first | (with_reducible exact Below.refl _ _) | (with_reducible refine below_setCell ?_ (by first | (simp; done) | (simp; omega) | omega)) | (with_reducible refine below_alloc _ ?_) | (with_reducible refine below_drewN ?_ _) | (with_reducible assumption) | (with_reducible refine below_after (by assumption) ?_)))⟩
    have m1 : Below w.heap.size w u1 := below_after k1 (by (repeat (first | (with_reducible exact Below.refl _ _) | (with_reducible refine below_setCell ?_ (by first | (simp; done) | (simp; omega) | omega)) | (with_reducible refine below_alloc _ ?_) | (with_reducible refine below_drewN ?_ _) | (with_reducible assumption) | (with_reducible refine below_after (by assumption) ?_))))
    replace s0 := s0.below m1
    have qxa0 : w.heap.size < u1.heap.size := by have := k1.size; simp at this; omega
    have yqxa0 := qxa0
    have xa0_0 : u1.cell? ⟨w.heap.size, 0, none⟩ = some (.slice p0 y0.Reps.length e0) := by rw [(bcell k1).1 _ _ (by first | (simp; done) | (simp; omega))]; simp [go_sem]
    have xa0_1 : u1.cell? ⟨w.heap.size, 1, none⟩ = some (.int .i64 y0.Term) := by rw [(bcell k1).1 _ _ (by first | (simp; done) | (simp; omega))]; simp [go_sem]
    have xa0_2 : u1.cell? ⟨w.heap.size, 2, none⟩ = some (.int .i64 y0.Lead) := by rw [(bcell k1).1 _ _ (by first | (simp; done) | (simp; omega))]; simp [go_sem]
    have z1 : w.heap.size ≤ u1.heap.size := m1.size
    have b := m1
    clear m1 k1
    have hc0 : n0 ≤ 1048576 := by omega
    have hcR : nR ≤ 1048576 := Hcr.out hc0
    go_wp2_with fail
    refine (Ht0.out hc0 _ (s0.below (by (repeat (first | (with_reducible exact Below.refl _ _) | (with_reducible refine below_setCell ?_ (by first | (simp; done) | (simp; omega) | omega)) | (with_reducible refine below_alloc _ ?_) | (with_reducible refine below_drewN ?_ _) | (with_reducible assumption) | (with_reducible refine below_after (by assumption) ?_))))).rd).mono ?_
    rintro e u2 ⟨paw0, eaw0, rfl, oaw0, k2⟩
    have aw0 := (Own.mono oaw0 (Below.size (B := u1.heap.size) (w := u1) (by (repeat (first | (with_reducible exact Below.refl _ _) | (with_reducible refine below_setCell ?_ (by first | (simp; done) | (simp; omega) | omega)) | (with_reducible refine below_alloc _ ?_) | (with_reducible refine below_drewN ?_ _) | (with_reducible assumption) | (with_reducible refine below_after (by assumption) ?_)))))).within
    clear oaw0
    have m2 : Below u1.heap.size u1 u2 := below_after k2 (by (repeat (first | (with_reducible exact Below.refl _ _) | (with_reducible refine below_setCell ?_ (by first | (simp; done) | (simp; omega) | omega)) | (with_reducible refine below_alloc _ ?_) | (with_reducible refine below_drewN ?_ _) | (with_reducible assumption) | (with_reducible refine below_after (by assumption) ?_))))
    replace s0 := s0.below m2
    replace xa0_0 := cell_step m2 xa0_0
    replace xa0_1 := cell_step m2 xa0_1
    replace xa0_2 := cell_step m2 xa0_2
    replace qxa0 := Nat.lt_of_lt_of_le qxa0 m2.size
    have z2 : u1.heap.size ≤ u2.heap.size := m2.size
    replace b := m2.mono b.size |> b.trans
    clear m2 k2
    go_wp2_with fail
    refine (HS.out hc0 _ _ (aw0.below (by (repeat (first | (with_reducible exact Below.refl _ _) | (with_reducible refine below_setCell ?_ (by first | (simp; done) | (simp; omega) | omega)) | (with_reducible refine below_alloc _ ?_) | (with_reducible refine below_drewN ?_ _) | (with_reducible assumption) | (with_reducible refine below_after (by assumption) ?_))))).rd).mono ?_
    rintro e u3 ⟨vrw, rfl, orw, k3⟩
    obtain ⟨prw, erw, rfl⟩ := orw.form
    have rw := (Own.mono orw (Below.size (B := u2.heap.size) (w := u2) (by (repeat (first | (with_reducible exact Below.refl _ _) | (with_reducible refine below_setCell ?_ (by first | (simp; done) | (simp; omega) | omega)) | (with_reducible refine below_alloc _ ?_) | (with_reducible refine below_drewN ?_ _) | (with_reducible assumption) | (with_reducible refine below_after (by assumption) ?_)))))).within
    clear orw
    have m3 : Below u2.heap.size u2 u3 := below_after k3 (by (repeat (first | (with_reducible exact Below.refl _ _) | (with_reducible refine below_setCell ?_ (by first | (simp; done) | (simp; omega) | omega)) | (with_reducible refine below_alloc _ ?_) | (with_reducible refine below_drewN ?_ _) | (with_reducible assumption) | (with_reducible refine below_after (by assumption) ?_))))
    replace s0 := s0.below m3
    replace aw0 := aw0.below m3
    replace xa0_0 := cell_step m3 xa0_0
    replace xa0_1 := cell_step m3 xa0_1
    replace xa0_2 := cell_step m3 xa0_2
    replace qxa0 := Nat.lt_of_lt_of_le qxa0 m3.size
    have z3 : u2.heap.size ≤ u3.heap.size := m3.size
    replace b := m3.mono b.size |> b.trans
    clear m3 k3
    clear aw0
    go_wp2_with fail
    refine (Ht0.out hc0 _ (s0.below (by (repeat (first | (with_reducible exact Below.refl _ _) | (with_reducible refine below_setCell ?_ (by first | (simp; done) | (simp; omega) | omega)) | (with_reducible refine below_alloc _ ?_) | (with_reducible refine below_drewN ?_ _) | (with_reducible assumption) | (with_reducible refine below_after (by assumption) ?_))))).rd).mono ?_
    rintro e u4 ⟨pax0, eax0, rfl, oax0, k4⟩
    have ax0 := (Own.mono oax0 (base' := u3.heap.size + 1) (by first | (simp; done) | (simp; omega) | omega)).within
    clear oax0
    have m4 : Below u3.heap.size u3 u4 := below_after k4 (by (repeat (first | (with_reducible exact Below.refl _ _) | (with_reducible refine below_setCell ?_ (by first | (simp; done) | (simp; omega) | omega)) | (with_reducible refine below_alloc _ ?_) | (with_reducible refine below_drewN ?_ _) | (with_reducible assumption) | (with_reducible refine below_after (by assumption) ?_))))
    replace s0 := s0.below m4
    replace rw := rw.below m4
    replace xa0_0 := cell_step m4 xa0_0
    replace xa0_1 := cell_step m4 xa0_1
    replace xa0_2 := cell_step m4 xa0_2
    replace qxa0 := Nat.lt_of_lt_of_le qxa0 m4.size
    have qxrw : u3.heap.size < u4.heap.size := by have := k4.size; simp at this; omega
    have yqxrw := qxrw
    have xrw_0 : u4.cell? ⟨u3.heap.size, 0, none⟩ = some (.slice prw res.Reps.length erw) := by rw [(bcell k4).1 _ _ (by first | (simp; done) | (simp; omega))]; simp [go_sem]
    have xrw_1 : u4.cell? ⟨u3.heap.size, 1, none⟩ = some (.int .i64 res.Term) := by rw [(bcell k4).1 _ _ (by first | (simp; done) | (simp; omega))]; simp [go_sem]
    have xrw_2 : u4.cell? ⟨u3.heap.size, 2, none⟩ = some (.int .i64 res.Lead) := by rw [(bcell k4).1 _ _ (by first | (simp; done) | (simp; omega))]; simp [go_sem]
    have z4 : u3.heap.size ≤ u4.heap.size := m4.size
    replace b := m4.mono b.size |> b.trans
    clear m4 k4
    go_wp2_with fail
    refine (HI.out hc0 _ _ (ax0.below (by (repeat (first | (with_reducible exact Below.refl _ _) | (with_reducible refine below_setCell ?_ (by first | (simp; done) | (simp; omega) | omega)) | (with_reducible refine below_alloc _ ?_) | (with_reducible refine below_drewN ?_ _) | (with_reducible assumption) | (with_reducible refine below_after (by assumption) ?_))))).rd).mono ?_
    rintro e u5 ⟨vrg, rfl, org, k5⟩
    obtain ⟨prg, erg, rfl⟩ := org.form
    have rg := (Own.mono org (base' := u4.heap.size + 1) (by first | (simp; done) | (simp; omega) | omega)).within
    clear org
    have m5 : Below u4.heap.size u4 u5 := below_after k5 (by (repeat (first | (with_reducible exact Below.refl _ _) | (with_reducible refine below_setCell ?_ (by first | (simp; done) | (simp; omega) | omega)) | (with_reducible refine below_alloc _ ?_) | (with_reducible refine below_drewN ?_ _) | (with_reducible assumption) | (with_reducible refine below_after (by assumption) ?_))))
    replace s0 := s0.below m5
    replace rw := rw.below m5
    replace ax0 := ax0.below m5
    replace xa0_0 := cell_step m5 xa0_0
    replace xa0_1 := cell_step m5 xa0_1
    replace xa0_2 := cell_step m5 xa0_2
    replace xrw_0 := cell_step m5 xrw_0
    replace xrw_1 := cell_step m5 xrw_1
    replace xrw_2 := cell_step m5 xrw_2
    replace qxa0 := Nat.lt_of_lt_of_le qxa0 m5.size
    replace qxrw := Nat.lt_of_lt_of_le qxrw m5.size
    have qxax0 : u4.heap.size < u5.heap.size := by have := k5.size; simp at this; omega
    have yqxax0 := qxax0
    have xax0_0 : u5.cell? ⟨u4.heap.size, 0, none⟩ = some (.slice pax0 y0.Reps.length eax0) := by rw [(bcell k5).1 _ _ (by first | (simp; done) | (simp; omega))]; simp [go_sem]
    have xax0_1 : u5.cell? ⟨u4.heap.size, 1, none⟩ = some (.int .i64 y0.Term) := by rw [(bcell k5).1 _ _ (by first | (simp; done) | (simp; omega))]; simp [go_sem]
    have xax0_2 : u5.cell? ⟨u4.heap.size, 2, none⟩ = some (.int .i64 y0.Lead) := by rw [(bcell k5).1 _ _ (by first | (simp; done) | (simp; omega))]; simp [go_sem]
    have z5 : u4.heap.size ≤ u5.heap.size := m5.size
    replace b := m5.mono b.size |> b.trans
    clear m5 k5
    go_wp2_with fail
    refine (HeR.out hcR _ _ _ (rg.below (by (repeat (first | (with_reducible exact Below.refl _ _) | (with_reducible refine below_setCell ?_ (by first | (simp; done) | (simp; omega) | omega)) | (with_reducible refine below_alloc _ ?_) | (with_reducible refine below_drewN ?_ _) | (with_reducible assumption) | (with_reducible refine below_after (by assumption) ?_))))).rd (rw.below (by (repeat (first | (with_reducible exact Below.refl _ _) | (with_reducible refine below_setCell ?_ (by first | (simp; done) | (simp; omega) | omega)) | (with_reducible refine below_alloc _ ?_) | (with_reducible refine below_drewN ?_ _) | (with_reducible assumption) | (with_reducible refine below_after (by assumption) ?_))))).rd).mono ?_
    rintro e u6 ⟨rfl, k6⟩
    have m6 : Below u5.heap.size u5 u6 := below_after k6 (by (repeat (first | (with_reducible exact Below.refl _ _) | (with_reducible refine below_setCell ?_ (by first | (simp; done) | (simp; omega) | omega)) | (with_reducible refine below_alloc _ ?_) | (with_reducible refine below_drewN ?_ _) | (with_reducible assumption) | (with_reducible refine below_after (by assumption) ?_))))
    replace s0 := s0.below m6
    replace rw := rw.below m6
    replace ax0 := ax0.below m6
    replace rg := rg.below m6
    replace xa0_0 := cell_step m6 xa0_0
    replace xa0_1 := cell_step m6 xa0_1
    replace xa0_2 := cell_step m6 xa0_2
    replace xrw_0 := cell_step m6 xrw_0
    replace xrw_1 := cell_step m6 xrw_1
    replace xrw_2 := cell_step m6 xrw_2
    replace xax0_0 := cell_step m6 xax0_0
    replace xax0_1 := cell_step m6 xax0_1
    replace xax0_2 := cell_step m6 xax0_2
    replace qxa0 := Nat.lt_of_lt_of_le qxa0 m6.size
    replace qxrw := Nat.lt_of_lt_of_le qxrw m6.size
    replace qxax0 := Nat.lt_of_lt_of_le qxax0 m6.size
    have qxrg : u5.heap.size < u6.heap.size := by have := k6.size; simp at this; omega
    have yqxrg := qxrg
    have xrg_0 : u6.cell? ⟨u5.heap.size, 0, none⟩ = some (.slice prg res.Reps.length erg) := by rw [(bcell k6).1 _ _ (by first | (simp; done) | (simp; omega))]; simp [go_sem]
    have xrg_1 : u6.cell? ⟨u5.heap.size, 1, none⟩ = some (.int .i64 res.Term) := by rw [(bcell k6).1 _ _ (by first | (simp; done) | (simp; omega))]; simp [go_sem]
    have xrg_2 : u6.cell? ⟨u5.heap.size, 2, none⟩ = some (.int .i64 res.Lead) := by rw [(bcell k6).1 _ _ (by first | (simp; done) | (simp; omega))]; simp [go_sem]
    have z6 : u5.heap.size ≤ u6.heap.size := m6.size
    replace b := m6.mono b.size |> b.trans
    clear m6 k6
    go_upto_region 10 with fail
    go_cut [49] (fun s wx => s = .bool false ∧ Below u6.heap.size u6 wx)
    case first =>
      go_region_with (first
        | (go_at_call 16; (with_reducible refine (Ht0.out hc0 _ (s0.below (by (repeat (first | (with_reducible exact Below.refl _ _) | (with_reducible refine below_setCell ?_ (by first | (simp; done) | (simp; omega) | omega)) | (with_reducible refine below_alloc _ ?_) | (with_reducible refine below_drewN ?_ _) | (with_reducible refine below_drew_step ?_) | (with_reducible assumption) | (with_reducible refine below_after (by assumption) ?_))))).rd).mono ?_); rintro e x1 ⟨tt1, vv1, rfl, o1, k⟩; have hx1 := bcell k; have m1 : Below u6.heap.size u6 x1 := below_after k (by (repeat (first | (with_reducible exact Below.refl _ _) | (with_reducible refine below_setCell ?_ (by first | (simp; done) | (simp; omega) | omega)) | (with_reducible refine below_alloc _ ?_) | (with_reducible refine below_drewN ?_ _) | (with_reducible refine below_drew_step ?_) | (with_reducible assumption) | (with_reducible refine below_after (by assumption) ?_)))); have r1 := o1.rd; have g0 := cell_step m1 xax0_0; have g1 := cell_step m1 xax0_1; have g2 := cell_step m1 xax0_2; clear o1 k)
        | (go_at_call 19; refine (He0.out hc0 _ _ _ (ax0.below (by (repeat (first | (with_reducible exact Below.refl _ _) | (with_reducible refine below_setCell ?_ (by first | (simp; done) | (simp; omega) | omega)) | (with_reducible refine below_alloc _ ?_) | (with_reducible refine below_drewN ?_ _) | (with_reducible refine below_drew_step ?_) | (with_reducible assumption) | (with_reducible refine below_after (by assumption) ?_))))).rd (r1.below (by (repeat (first | (with_reducible exact Below.refl _ _) | (with_reducible refine below_setCell ?_ (by first | (simp; done) | (simp; omega) | omega)) | (with_reducible refine below_alloc _ ?_) | (with_reducible refine below_drewN ?_ _) | (with_reducible refine below_drew_step ?_) | (with_reducible assumption) | (with_reducible refine below_after (by assumption) ?_)))))).mono ?_; rintro e x3 ⟨rfl, k⟩; replace m1 := below_after k (show Below u6.heap.size u6 _ from by (repeat (first | (with_reducible exact Below.refl _ _) | (with_reducible refine below_setCell ?_ (by first | (simp; done) | (simp; omega) | omega)) | (with_reducible refine below_alloc _ ?_) | (with_reducible refine below_drewN ?_ _) | (with_reducible refine below_drew_step ?_) | (with_reducible assumption) | (with_reducible refine below_after (by assumption) ?_)))); clear k))
      all_goals (go_wp2_with fail; go_meet; exact ⟨rfl, by (repeat (first | (with_reducible exact Below.refl _ _) | (with_reducible refine below_setCell ?_ (by first | (simp; done) | (simp; omega) | omega)) | (with_reducible refine below_alloc _ ?_) | (with_reducible refine below_drewN ?_ _) | (with_reducible refine below_drew_step ?_) | (with_reducible assumption) | (with_reducible refine below_after (by assumption) ?_)))⟩)
    case rest =>
      obtain ⟨rfl, k7⟩ := hcut
      obtain ⟨u7, rfl⟩ : ∃ u7 : World, u7 = wc := ⟨_, rfl⟩
      have m7 : Below u6.heap.size u6 u7 := below_after k7 (by (repeat (first | (with_reducible exact Below.refl _ _) | (with_reducible refine below_setCell ?_ (by first | (simp; done) | (simp; omega) | omega)) | (with_reducible refine below_alloc _ ?_) | (with_reducible refine below_drewN ?_ _) | (with_reducible assumption) | (with_reducible refine below_after (by assumption) ?_))))
      replace s0 := s0.below m7
      replace rw := rw.below m7
      replace ax0 := ax0.below m7
      replace rg := rg.below m7
      replace xa0_0 := cell_step m7 xa0_0
      replace xa0_1 := cell_step m7 xa0_1
      replace xa0_2 := cell_step m7 xa0_2
      replace xrw_0 := cell_step m7 xrw_0
      replace xrw_1 := cell_step m7 xrw_1
      replace xrw_2 := cell_step m7 xrw_2
      replace xax0_0 := cell_step m7 xax0_0
      replace xax0_1 := cell_step m7 xax0_1
      replace xax0_2 := cell_step m7 xax0_2
      replace xrg_0 := cell_step m7 xrg_0
      replace xrg_1 := cell_step m7 xrg_1
      replace xrg_2 := cell_step m7 xrg_2
      replace qxa0 := Nat.lt_of_lt_of_le qxa0 m7.size
      replace qxrw := Nat.lt_of_lt_of_le qxrw m7.size
      replace qxax0 := Nat.lt_of_lt_of_le qxax0 m7.size
      replace qxrg := Nat.lt_of_lt_of_le qxrg m7.size
      have z7 : u6.heap.size ≤ u7.heap.size := m7.size
      replace b := m7.mono b.size |> b.trans
      clear m7 k7
      go_wp2_with fail
      refine (Hk0.out 1 (by omega) (by omega) _ _ _ _ (ax0.below (by (repeat (first | (with_reducible exact Below.refl _ _) | (with_reducible refine below_setCell ?_ (by first | (simp; done) | (simp; omega) | omega)) | (with_reducible refine below_alloc _ ?_) | (with_reducible refine below_drewN ?_ _) | (with_reducible assumption) | (with_reducible refine below_after (by assumption) ?_)))))).mono ?_
      rintro e u8 ⟨rfl, hhax0, t8⟩
      replace s0 := (s0.below (by (repeat (first | (with_reducible exact Below.refl _ _) | (with_reducible refine below_setCell ?_ (by first | (simp; done) | (simp; omega) | omega)) | (with_reducible refine below_alloc _ ?_) | (with_reducible refine below_drewN ?_ _) | (with_reducible assumption) | (with_reducible refine below_after (by assumption) ?_))))).turn t8 (by omega)
      replace rw := (rw.below (by (repeat (first | (with_reducible exact Below.refl _ _) | (with_reducible refine below_setCell ?_ (by first | (simp; done) | (simp; omega) | omega)) | (with_reducible refine below_alloc _ ?_) | (with_reducible refine below_drewN ?_ _) | (with_reducible assumption) | (with_reducible refine below_after (by assumption) ?_))))).turn t8 (by omega)
      replace rg := (rg.below (by (repeat (first | (with_reducible exact Below.refl _ _) | (with_reducible refine below_setCell ?_ (by first | (simp; done) | (simp; omega) | omega)) | (with_reducible refine below_alloc _ ?_) | (with_reducible refine below_drewN ?_ _) | (with_reducible assumption) | (with_reducible refine below_after (by assumption) ?_))))).turn t8 (by omega)
      replace xa0_0 := t8.cell (cell_step (by (repeat (first | (with_reducible exact Below.refl _ _) | (with_reducible refine below_setCell ?_ (by first | (simp; done) | (simp; omega) | omega)) | (with_reducible refine below_alloc _ ?_) | (with_reducible refine below_drewN ?_ _) | (with_reducible assumption) | (with_reducible refine below_after (by assumption) ?_)))) xa0_0) (by omega)
      replace xa0_1 := t8.cell (cell_step (by (repeat (first | (with_reducible exact Below.refl _ _) | (with_reducible refine below_setCell ?_ (by first | (simp; done) | (simp; omega) | omega)) | (with_reducible refine below_alloc _ ?_) | (with_reducible refine below_drewN ?_ _) | (with_reducible assumption) | (with_reducible refine below_after (by assumption) ?_)))) xa0_1) (by omega)
      replace xa0_2 := t8.cell (cell_step (by (repeat (first | (with_reducible exact Below.refl _ _) | (with_reducible refine below_setCell ?_ (by first | (simp; done) | (simp; omega) | omega)) | (with_reducible refine below_alloc _ ?_) | (with_reducible refine below_drewN ?_ _) | (with_reducible assumption) | (with_reducible refine below_after (by assumption) ?_)))) xa0_2) (by omega)
      replace xrw_0 := t8.cell (cell_step (by (repeat (first | (with_reducible exact Below.refl _ _) | (with_reducible refine below_setCell ?_ (by first | (simp; done) | (simp; omega) | omega)) | (with_reducible refine below_alloc _ ?_) | (with_reducible refine below_drewN ?_ _) | (with_reducible assumption) | (with_reducible refine below_after (by assumption) ?_)))) xrw_0) (by omega)
      replace xrw_1 := t8.cell (cell_step (by (repeat (first | (with_reducible exact Below.refl _ _) | (with_reducible refine below_setCell ?_ (by first | (simp; done) | (simp; omega) | omega)) | (with_reducible refine below_alloc _ ?_) | (with_reducible refine below_drewN ?_ _) | (with_reducible assumption) | (with_reducible refine below_after (by assumption) ?_)))) xrw_1) (by omega)
      replace xrw_2 := t8.cell (cell_step (by (repeat (first | (with_reducible exact Below.refl _ _) | (with_reducible refine below_setCell ?_ (by first | (simp; done) | (simp; omega) | omega)) | (with_reducible refine below_alloc _ ?_) | (with_reducible refine below_drewN ?_ _) | (with_reducible assumption) | (with_reducible refine below_after (by assumption) ?_)))) xrw_2) (by omega)
      replace xax0_0 := t8.cell (cell_step (by (repeat (first | (with_reducible exact Below.refl _ _) | (with_reducible refine below_setCell ?_ (by first | (simp; done) | (simp; omega) | omega)) | (with_reducible refine below_alloc _ ?_) | (with_reducible refine below_drewN ?_ _) | (with_reducible assumption) | (with_reducible refine below_after (by assumption) ?_)))) xax0_0) (by omega)
      replace xax0_1 := t8.cell (cell_step (by (repeat (first | (with_reducible exact Below.refl _ _) | (with_reducible refine below_setCell ?_ (by first | (simp; done) | (simp; omega) | omega)) | (with_reducible refine below_alloc _ ?_) | (with_reducible refine below_drewN ?_ _) | (with_reducible assumption) | (with_reducible refine below_after (by assumption) ?_)))) xax0_1) (by omega)
      replace xax0_2 := t8.cell (cell_step (by (repeat (first | (with_reducible exact Below.refl _ _) | (with_reducible refine below_setCell ?_ (by first | (simp; done) | (simp; omega) | omega)) | (with_reducible refine below_alloc _ ?_) | (with_reducible refine below_drewN ?_ _) | (with_reducible assumption) | (with_reducible refine below_after (by assumption) ?_)))) xax0_2) (by omega)
      replace xrg_0 := t8.cell (cell_step (by (repeat (first | (with_reducible exact Below.refl _ _) | (with_reducible refine below_setCell ?_ (by first | (simp; done) | (simp; omega) | omega)) | (with_reducible refine below_alloc _ ?_) | (with_reducible refine below_drewN ?_ _) | (with_reducible assumption) | (with_reducible refine below_after (by assumption) ?_)))) xrg_0) (by omega)
      replace xrg_1 := t8.cell (cell_step (by (repeat (first | (with_reducible exact Below.refl _ _) | (with_reducible refine below_setCell ?_ (by first | (simp; done) | (simp; omega) | omega)) | (with_reducible refine below_alloc _ ?_) | (with_reducible refine below_drewN ?_ _) | (with_reducible assumption) | (with_reducible refine below_after (by assumption) ?_)))) xrg_1) (by omega)
      replace xrg_2 := t8.cell (cell_step (by (repeat (first | (with_reducible exact Below.refl _ _) | (with_reducible refine below_setCell ?_ (by first | (simp; done) | (simp; omega) | omega)) | (with_reducible refine below_alloc _ ?_) | (with_reducible refine below_drewN ?_ _) | (with_reducible assumption) | (with_reducible refine below_after (by assumption) ?_)))) xrg_2) (by omega)
      replace b := Turn.below t8 (by omega) (below_after (by (repeat (first | (with_reducible exact Below.refl _ _) | (with_reducible refine below_setCell ?_ (by first | (simp; done) | (simp; omega) | omega)) | (with_reducible refine below_alloc _ ?_) | (with_reducible refine below_drewN ?_ _) | (with_reducible assumption) | (with_reducible refine below_after (by assumption) ?_)))) b)
      have z8 : u7.heap.size ≤ u8.heap.size := Nat.le_trans (Below.size (B := u7.heap.size) (w := u7) (by (repeat (first | (with_reducible exact Below.refl _ _) | (with_reducible refine below_setCell ?_ (by first | (simp; done) | (simp; omega) | omega)) | (with_reducible refine below_alloc _ ?_) | (with_reducible refine below_drewN ?_ _) | (with_reducible assumption) | (with_reducible refine below_after (by assumption) ?_))))) t8.size
      replace qxa0 := Nat.lt_of_lt_of_le qxa0 z8
      replace qxrw := Nat.lt_of_lt_of_le qxrw z8
      replace qxax0 := Nat.lt_of_lt_of_le qxax0 z8
      replace qxrg := Nat.lt_of_lt_of_le qxrg z8
      clear t8 ax0 hhax0
      obtain ⟨K0, hK0⟩ : ∃ K0 : Nat, 1 + l0 = K0 := ⟨_, rfl⟩
      rw [hK0]
      have hK0n : (0 : Int) ≤ (K0 : Int) := by omega
      have hK0u : K0 ≤ 18874376 := by omega
      have hK0p : 0 < K0 := by omega
      clear hK0
      go_wp2_with fail
      refine (HeR.out hcR _ _ _ (rg.below (by (repeat (first | (with_reducible exact Below.refl _ _) | (with_reducible refine below_setCell ?_ (by first | (simp; done) | (simp; omega) | omega)) | (with_reducible refine below_alloc _ ?_) | (with_reducible refine below_drewN ?_ _) | (with_reducible assumption) | (with_reducible refine below_after (by assumption) ?_))))).rd (rw.below (by (repeat (first | (with_reducible exact Below.refl _ _) | (with_reducible refine below_setCell ?_ (by first | (simp; done) | (simp; omega) | omega)) | (with_reducible refine below_alloc _ ?_) | (with_reducible refine below_drewN ?_ _) | (with_reducible assumption) | (with_reducible refine below_after (by assumption) ?_))))).rd).mono ?_
      rintro e u9 ⟨rfl, k9⟩
      have m9 : Below u8.heap.size u8 u9 := below_after k9 (by (repeat (first | (with_reducible exact Below.refl _ _) | (with_reducible refine below_setCell ?_ (by first | (simp; done) | (simp; omega) | omega)) | (with_reducible refine below_alloc _ ?_) | (with_reducible refine below_drewN ?_ _) | (with_reducible assumption) | (with_reducible refine below_after (by assumption) ?_))))
      replace s0 := s0.below m9
      replace rw := rw.below m9
      replace rg := rg.below m9
      replace xa0_0 := cell_step m9 xa0_0
      replace xa0_1 := cell_step m9 xa0_1
      replace xa0_2 := cell_step m9 xa0_2
      replace xrw_0 := cell_step m9 xrw_0
      replace xrw_1 := cell_step m9 xrw_1
      replace xrw_2 := cell_step m9 xrw_2
      replace xax0_0 := cell_step m9 xax0_0
      replace xax0_1 := cell_step m9 xax0_1
      replace xax0_2 := cell_step m9 xax0_2
      replace xrg_0 := cell_step m9 xrg_0
      replace xrg_1 := cell_step m9 xrg_1
      replace xrg_2 := cell_step m9 xrg_2
      replace qxa0 := Nat.lt_of_lt_of_le qxa0 m9.size
      replace qxrw := Nat.lt_of_lt_of_le qxrw m9.size
      replace qxax0 := Nat.lt_of_lt_of_le qxax0 m9.size
      replace qxrg := Nat.lt_of_lt_of_le qxrg m9.size
      have z9 : u8.heap.size ≤ u9.heap.size := m9.size
      replace b := m9.mono b.size |> b.trans
      clear m9 k9
      go_wp2_with fail
      refine (HkR.out (by omega) _ _ _ _ (rg.below (by (repeat (first | (with_reducible exact Below.refl _ _) | (with_reducible refine below_setCell ?_ (by first | (simp; done) | (simp; omega) | omega)) | (with_reducible refine below_alloc _ ?_) | (with_reducible refine below_drewN ?_ _) | (with_reducible assumption) | (with_reducible refine below_after (by assumption) ?_)))))).mono ?_
      rintro e u10 ⟨rfl, hhrg, t10⟩
      replace s0 := (s0.below (by (repeat (first | (with_reducible exact Below.refl _ _) | (with_reducible refine below_setCell ?_ (by first | (simp; done) | (simp; omega) | omega)) | (with_reducible refine below_alloc _ ?_) | (with_reducible refine below_drewN ?_ _) | (with_reducible assumption) | (with_reducible refine below_after (by assumption) ?_))))).turn t10 (by omega)
      replace rw := (rw.below (by (repeat (first | (with_reducible exact Below.refl _ _) | (with_reducible refine below_setCell ?_ (by first | (simp; done) | (simp; omega) | omega)) | (with_reducible refine below_alloc _ ?_) | (with_reducible refine below_drewN ?_ _) | (with_reducible assumption) | (with_reducible refine below_after (by assumption) ?_))))).turn t10 (by omega)
      replace xa0_0 := t10.cell (cell_step (by (repeat (first | (with_reducible exact Below.refl _ _) | (with_reducible refine below_setCell ?_ (by first | (simp; done) | (simp; omega) | omega)) | (with_reducible refine below_alloc _ ?_) | (with_reducible refine below_drewN ?_ _) | (with_reducible assumption) | (with_reducible refine below_after (by assumption) ?_)))) xa0_0) (by omega)
      replace xa0_1 := t10.cell (cell_step (by (repeat (first | (with_reducible exact Below.refl _ _) | (with_reducible refine below_setCell ?_ (by first | (simp; done) | (simp; omega) | omega)) | (with_reducible refine below_alloc _ ?_) | (with_reducible refine below_drewN ?_ _) | (with_reducible assumption) | (with_reducible refine below_after (by assumption) ?_)))) xa0_1) (by omega)
      replace xa0_2 := t10.cell (cell_step (by (repeat (first | (with_reducible exact Below.refl _ _) | (with_reducible refine below_setCell ?_ (by first | (simp; done) | (simp; omega) | omega)) | (with_reducible refine below_alloc _ ?_) | (with_reducible refine below_drewN ?_ _) | (with_reducible assumption) | (with_reducible refine below_after (by assumption) ?_)))) xa0_2) (by omega)
      replace xrw_0 := t10.cell (cell_step (by (repeat (first | (with_reducible exact Below.refl _ _) | (with_reducible refine below_setCell ?_ (by first | (simp; done) | (simp; omega) | omega)) | (with_reducible refine below_alloc _ ?_) | (with_reducible refine below_drewN ?_ _) | (with_reducible assumption) | (with_reducible refine below_after (by assumption) ?_)))) xrw_0) (by omega)
      replace xrw_1 := t10.cell (cell_step (by (repeat (first | (with_reducible exact Below.refl _ _) | (with_reducible refine below_setCell ?_ (by first | (simp; done) | (simp; omega) | omega)) | (with_reducible refine below_alloc _ ?_) | (with_reducible refine below_drewN ?_ _) | (with_reducible assumption) | (with_reducible refine below_after (by assumption) ?_)))) xrw_1) (by omega)
      replace xrw_2 := t10.cell (cell_step (by (repeat (first | (with_reducible exact Below.refl _ _) | (with_reducible refine below_setCell ?_ (by first | (simp; done) | (simp; omega) | omega)) | (with_reducible refine below_alloc _ ?_) | (with_reducible refine below_drewN ?_ _) | (with_reducible assumption) | (with_reducible refine below_after (by assumption) ?_)))) xrw_2) (by omega)
      replace xax0_0 := t10.cell (cell_step (by (repeat (first | (with_reducible exact Below.refl _ _) | (with_reducible refine below_setCell ?_ (by first | (simp; done) | (simp; omega) | omega)) | (with_reducible refine below_alloc _ ?_) | (with_reducible refine below_drewN ?_ _) | (with_reducible assumption) | (with_reducible refine below_after (by assumption) ?_)))) xax0_0) (by omega)
      replace xax0_1 := t10.cell (cell_step (by (repeat (first | (with_reducible exact Below.refl _ _) | (with_reducible refine below_setCell ?_ (by first | (simp; done) | (simp; omega) | omega)) | (with_reducible refine below_alloc _ ?_) | (with_reducible refine below_drewN ?_ _) | (with_reducible assumption) | (with_reducible refine below_after (by assumption) ?_)))) xax0_1) (by omega)
      replace xax0_2 := t10.cell (cell_step (by (repeat (first | (with_reducible exact Below.refl _ _) | (with_reducible refine below_setCell ?_ (by first | (simp; done) | (simp; omega) | omega)) | (with_reducible refine below_alloc _ ?_) | (with_reducible refine below_drewN ?_ _) | (with_reducible assumption) | (with_reducible refine below_after (by assumption) ?_)))) xax0_2) (by omega)
      replace xrg_0 := t10.cell (cell_step (by (repeat (first | (with_reducible exact Below.refl _ _) | (with_reducible refine below_setCell ?_ (by first | (simp; done) | (simp; omega) | omega)) | (with_reducible refine below_alloc _ ?_) | (with_reducible refine below_drewN ?_ _) | (with_reducible assumption) | (with_reducible refine below_after (by assumption) ?_)))) xrg_0) (by omega)
      replace xrg_1 := t10.cell (cell_step (by (repeat (first | (with_reducible exact Below.refl _ _) | (with_reducible refine below_setCell ?_ (by first | (simp; done) | (simp; omega) | omega)) | (with_reducible refine below_alloc _ ?_) | (with_reducible refine below_drewN ?_ _) | (with_reducible assumption) | (with_reducible refine below_after (by assumption) ?_)))) xrg_1) (by omega)
      replace xrg_2 := t10.cell (cell_step (by (repeat (first | (with_reducible exact Below.refl _ _) | (with_reducible refine below_setCell ?_ (by first | (simp; done) | (simp; omega) | omega)) | (with_reducible refine below_alloc _ ?_) | (with_reducible refine below_drewN ?_ _) | (with_reducible assumption) | (with_reducible refine below_after (by assumption) ?_)))) xrg_2) (by omega)
      replace b := Turn.below t10 (by omega) (below_after (by (repeat (first | (with_reducible exact Below.refl _ _) | (with_reducible refine below_setCell ?_ (by first | (simp; done) | (simp; omega) | omega)) | (with_reducible refine below_alloc _ ?_) | (with_reducible refine below_drewN ?_ _) | (with_reducible assumption) | (with_reducible refine below_after (by assumption) ?_)))) b)
      have z10 : u9.heap.size ≤ u10.heap.size := Nat.le_trans (Below.size (B := u9.heap.size) (w := u9) (by (repeat (first | (with_reducible exact Below.refl _ _) | (with_reducible refine below_setCell ?_ (by first | (simp; done) | (simp; omega) | omega)) | (with_reducible refine below_alloc _ ?_) | (with_reducible refine below_drewN ?_ _) | (with_reducible assumption) | (with_reducible refine below_after (by assumption) ?_))))) t10.size
      replace qxa0 := Nat.lt_of_lt_of_le qxa0 z10
      replace qxrw := Nat.lt_of_lt_of_le qxrw z10
      replace qxax0 := Nat.lt_of_lt_of_le qxax0 z10
      replace qxrg := Nat.lt_of_lt_of_le qxrg z10
      clear t10 rg
      obtain ⟨KR, hKR⟩ : ∃ KR : Nat, 1 + LR = KR := ⟨_, rfl⟩
      have hKRn : (0 : Int) ≤ (KR : Int) := by omega
      rw [hKR] at HhR ⊢
      have hKRu : KR ≤ 1073741824 := by omega
      clear hKR
      go_wp2_with fail
      refine (HhR.out hKRu _ _ (hhrg.below (by (repeat (first | (with_reducible exact Below.refl _ _) | (with_reducible refine below_setCell ?_ (by first | (simp; done) | (simp; omega) | omega)) | (with_reducible refine below_alloc _ ?_) | (with_reducible refine below_drewN ?_ _) | (with_reducible assumption) | (with_reducible refine below_after (by assumption) ?_)))))).mono ?_
      rintro e u11 ⟨rfl, k11⟩
      have m11 : Below u10.heap.size u10 u11 := below_after k11 (by (repeat (first | (with_reducible exact Below.refl _ _) | (with_reducible refine below_setCell ?_ (by first | (simp; done) | (simp; omega) | omega)) | (with_reducible refine below_alloc _ ?_) | (with_reducible refine below_drewN ?_ _) | (with_reducible assumption) | (with_reducible refine below_after (by assumption) ?_))))
      replace s0 := s0.below m11
      replace rw := rw.below m11
      replace hhrg := hhrg.below m11
      replace xa0_0 := cell_step m11 xa0_0
      replace xa0_1 := cell_step m11 xa0_1
      replace xa0_2 := cell_step m11 xa0_2
      replace xrw_0 := cell_step m11 xrw_0
      replace xrw_1 := cell_step m11 xrw_1
      replace xrw_2 := cell_step m11 xrw_2
      replace xax0_0 := cell_step m11 xax0_0
      replace xax0_1 := cell_step m11 xax0_1
      replace xax0_2 := cell_step m11 xax0_2
      replace xrg_0 := cell_step m11 xrg_0
      replace xrg_1 := cell_step m11 xrg_1
      replace xrg_2 := cell_step m11 xrg_2
      replace qxa0 := Nat.lt_of_lt_of_le qxa0 m11.size
      replace qxrw := Nat.lt_of_lt_of_le qxrw m11.size
      replace qxax0 := Nat.lt_of_lt_of_le qxax0 m11.size
      replace qxrg := Nat.lt_of_lt_of_le qxrg m11.size
      have z11 : u10.heap.size ≤ u11.heap.size := m11.size
      replace b := m11.mono b.size |> b.trans
      clear m11 k11
      go_wp2_with fail
      refine (Ht0.out hc0 _ (s0.below (by (repeat (first | (with_reducible exact Below.refl _ _) | (with_reducible refine below_setCell ?_ (by first | (simp; done) | (simp; omega) | omega)) | (with_reducible refine below_alloc _ ?_) | (with_reducible refine below_drewN ?_ _) | (with_reducible assumption) | (with_reducible refine below_after (by assumption) ?_))))).rd).mono ?_
      rintro e u12 ⟨pay0, eay0, rfl, oay0, k12⟩
      have ay0 := (Own.mono oay0 (Below.size (B := u11.heap.size) (w := u11) (by (repeat (first | (with_reducible exact Below.refl _ _) | (with_reducible refine below_setCell ?_ (by first | (simp; done) | (simp; omega) | omega)) | (with_reducible refine below_alloc _ ?_) | (with_reducible refine below_drewN ?_ _) | (with_reducible assumption) | (with_reducible refine below_after (by assumption) ?_)))))).within
      clear oay0
      have m12 : Below u11.heap.size u11 u12 := below_after k12 (by (repeat (first | (with_reducible exact Below.refl _ _) | (with_reducible refine below_setCell ?_ (by first | (simp; done) | (simp; omega) | omega)) | (with_reducible refine below_alloc _ ?_) | (with_reducible refine below_drewN ?_ _) | (with_reducible assumption) | (with_reducible refine below_after (by assumption) ?_))))
      replace s0 := s0.below m12
      replace rw := rw.below m12
      replace hhrg := hhrg.below m12
      replace xa0_0 := cell_step m12 xa0_0
      replace xa0_1 := cell_step m12 xa0_1
      replace xa0_2 := cell_step m12 xa0_2
      replace xrw_0 := cell_step m12 xrw_0
      replace xrw_1 := cell_step m12 xrw_1
      replace xrw_2 := cell_step m12 xrw_2
      replace xax0_0 := cell_step m12 xax0_0
      replace xax0_1 := cell_step m12 xax0_1
      replace xax0_2 := cell_step m12 xax0_2
      replace xrg_0 := cell_step m12 xrg_0
      replace xrg_1 := cell_step m12 xrg_1
      replace xrg_2 := cell_step m12 xrg_2
      replace qxa0 := Nat.lt_of_lt_of_le qxa0 m12.size
      replace qxrw := Nat.lt_of_lt_of_le qxrw m12.size
      replace qxax0 := Nat.lt_of_lt_of_le qxax0 m12.size
      replace qxrg := Nat.lt_of_lt_of_le qxrg m12.size
      have z12 : u11.heap.size ≤ u12.heap.size := m12.size
      replace b := m12.mono b.size |> b.trans
      clear m12 k12
      go_wp2_with fail
      refine (HI.out hc0 _ _ (ay0.below (by (repeat (first | (with_reducible exact Below.refl _ _) | (with_reducible refine below_setCell ?_ (by first | (simp; done) | (simp; omega) | omega)) | (with_reducible refine below_alloc _ ?_) | (with_reducible refine below_drewN ?_ _) | (with_reducible assumption) | (with_reducible refine below_after (by assumption) ?_))))).rd).mono ?_
      rintro e u13 ⟨vrh, rfl, orh, k13⟩
      obtain ⟨prh, erh, rfl⟩ := orh.form
      have rh := (Own.mono orh (Below.size (B := u12.heap.size) (w := u12) (by (repeat (first | (with_reducible exact Below.refl _ _) | (with_reducible refine below_setCell ?_ (by first | (simp; done) | (simp; omega) | omega)) | (with_reducible refine below_alloc _ ?_) | (with_reducible refine below_drewN ?_ _) | (with_reducible assumption) | (with_reducible refine below_after (by assumption) ?_)))))).within
      clear orh
      have m13 : Below u12.heap.size u12 u13 := below_after k13 (by (repeat (first | (with_reducible exact Below.refl _ _) | (with_reducible refine below_setCell ?_ (by first | (simp; done) | (simp; omega) | omega)) | (with_reducible refine below_alloc _ ?_) | (with_reducible refine below_drewN ?_ _) | (with_reducible assumption) | (with_reducible refine below_after (by assumption) ?_))))
      replace s0 := s0.below m13
      replace rw := rw.below m13
      replace hhrg := hhrg.below m13
      replace ay0 := ay0.below m13
      replace xa0_0 := cell_step m13 xa0_0
      replace xa0_1 := cell_step m13 xa0_1
      replace xa0_2 := cell_step m13 xa0_2
      replace xrw_0 := cell_step m13 xrw_0
      replace xrw_1 := cell_step m13 xrw_1
      replace xrw_2 := cell_step m13 xrw_2
      replace xax0_0 := cell_step m13 xax0_0
      replace xax0_1 := cell_step m13 xax0_1
      replace xax0_2 := cell_step m13 xax0_2
      replace xrg_0 := cell_step m13 xrg_0
      replace xrg_1 := cell_step m13 xrg_1
      replace xrg_2 := cell_step m13 xrg_2
      replace qxa0 := Nat.lt_of_lt_of_le qxa0 m13.size
      replace qxrw := Nat.lt_of_lt_of_le qxrw m13.size
      replace qxax0 := Nat.lt_of_lt_of_le qxax0 m13.size
      replace qxrg := Nat.lt_of_lt_of_le qxrg m13.size
      have z13 : u12.heap.size ≤ u13.heap.size := m13.size
      replace b := m13.mono b.size |> b.trans
      clear m13 k13
      clear ay0
      go_wp2_with fail
      refine (HeR.out hcR _ _ _ (rh.below (by (repeat (first | (with_reducible exact Below.refl _ _) | (with_reducible refine below_setCell ?_ (by first | (simp; done) | (simp; omega) | omega)) | (with_reducible refine below_alloc _ ?_) | (with_reducible refine below_drewN ?_ _) | (with_reducible assumption) | (with_reducible refine below_after (by assumption) ?_))))).rd (rw.below (by (repeat (first | (with_reducible exact Below.refl _ _) | (with_reducible refine below_setCell ?_ (by first | (simp; done) | (simp; omega) | omega)) | (with_reducible refine below_alloc _ ?_) | (with_reducible refine below_drewN ?_ _) | (with_reducible assumption) | (with_reducible refine below_after (by assumption) ?_))))).rd).mono ?_
      rintro e u14 ⟨rfl, k14⟩
      have m14 : Below u13.heap.size u13 u14 := below_after k14 (by (repeat (first | (with_reducible exact Below.refl _ _) | (with_reducible refine below_setCell ?_ (by first | (simp; done) | (simp; omega) | omega)) | (with_reducible refine below_alloc _ ?_) | (with_reducible refine below_drewN ?_ _) | (with_reducible assumption) | (with_reducible refine below_after (by assumption) ?_))))
      replace s0 := s0.below m14
      replace rw := rw.below m14
      replace hhrg := hhrg.below m14
      replace rh := rh.below m14
      replace xa0_0 := cell_step m14 xa0_0
      replace xa0_1 := cell_step m14 xa0_1
      replace xa0_2 := cell_step m14 xa0_2
      replace xrw_0 := cell_step m14 xrw_0
      replace xrw_1 := cell_step m14 xrw_1
      replace xrw_2 := cell_step m14 xrw_2
      replace xax0_0 := cell_step m14 xax0_0
      replace xax0_1 := cell_step m14 xax0_1
      replace xax0_2 := cell_step m14 xax0_2
      replace xrg_0 := cell_step m14 xrg_0
      replace xrg_1 := cell_step m14 xrg_1
      replace xrg_2 := cell_step m14 xrg_2
      replace qxa0 := Nat.lt_of_lt_of_le qxa0 m14.size
      replace qxrw := Nat.lt_of_lt_of_le qxrw m14.size
      replace qxax0 := Nat.lt_of_lt_of_le qxax0 m14.size
      replace qxrg := Nat.lt_of_lt_of_le qxrg m14.size
      have qxrh : u13.heap.size < u14.heap.size := by have := k14.size; simp at this; omega
      have yqxrh := qxrh
      have xrh_0 : u14.cell? ⟨u13.heap.size, 0, none⟩ = some (.slice prh res.Reps.length erh) := by rw [(bcell k14).1 _ _ (by first | (simp; done) | (simp; omega))]; simp [go_sem]
      have xrh_1 : u14.cell? ⟨u13.heap.size, 1, none⟩ = some (.int .i64 res.Term) := by rw [(bcell k14).1 _ _ (by first | (simp; done) | (simp; omega))]; simp [go_sem]
      have xrh_2 : u14.cell? ⟨u13.heap.size, 2, none⟩ = some (.int .i64 res.Lead) := by rw [(bcell k14).1 _ _ (by first | (simp; done) | (simp; omega))]; simp [go_sem]
      have z14 : u13.heap.size ≤ u14.heap.size := m14.size
      replace b := m14.mono b.size |> b.trans
      clear m14 k14
      go_wp2_with fail
      refine (HhR.out hKRu _ _ (hhrg.below (by (repeat (first | (with_reducible exact Below.refl _ _) | (with_reducible refine below_setCell ?_ (by first | (simp; done) | (simp; omega) | omega)) | (with_reducible refine below_alloc _ ?_) | (with_reducible refine below_drewN ?_ _) | (with_reducible assumption) | (with_reducible refine below_after (by assumption) ?_)))))).mono ?_
      rintro e u15 ⟨rfl, k15⟩
      have m15 : Below u14.heap.size u14 u15 := below_after k15 (by (repeat (first | (with_reducible exact Below.refl _ _) | (with_reducible refine below_setCell ?_ (by first | (simp; done) | (simp; omega) | omega)) | (with_reducible refine below_alloc _ ?_) | (with_reducible refine below_drewN ?_ _) | (with_reducible assumption) | (with_reducible refine below_after (by assumption) ?_))))
      replace s0 := s0.below m15
      replace rw := rw.below m15
      replace hhrg := hhrg.below m15
      replace rh := rh.below m15
      replace xa0_0 := cell_step m15 xa0_0
      replace xa0_1 := cell_step m15 xa0_1
      replace xa0_2 := cell_step m15 xa0_2
      replace xrw_0 := cell_step m15 xrw_0
      replace xrw_1 := cell_step m15 xrw_1
      replace xrw_2 := cell_step m15 xrw_2
      replace xax0_0 := cell_step m15 xax0_0
      replace xax0_1 := cell_step m15 xax0_1
      replace xax0_2 := cell_step m15 xax0_2
      replace xrg_0 := cell_step m15 xrg_0
      replace xrg_1 := cell_step m15 xrg_1
      replace xrg_2 := cell_step m15 xrg_2
      replace xrh_0 := cell_step m15 xrh_0
      replace xrh_1 := cell_step m15 xrh_1
      replace xrh_2 := cell_step m15 xrh_2
      replace qxa0 := Nat.lt_of_lt_of_le qxa0 m15.size
      replace qxrw := Nat.lt_of_lt_of_le qxrw m15.size
      replace qxax0 := Nat.lt_of_lt_of_le qxax0 m15.size
      replace qxrg := Nat.lt_of_lt_of_le qxrg m15.size
      replace qxrh := Nat.lt_of_lt_of_le qxrh m15.size
      have z15 : u14.heap.size ≤ u15.heap.size := m15.size
      replace b := m15.mono b.size |> b.trans
      clear m15 k15
      go_wp2
      go_ret
      exact ⟨rfl, below_after (by (repeat (first | (with_reducible exact Below.refl _ _) | (with_reducible refine below_setCell ?_ (by first | (simp; done) | (simp; omega) | omega)) | (with_reducible refine below_alloc _ ?_) | (with_reducible refine below_drewN ?_ _) | (with_reducible assumption) | (with_reducible refine below_after (by assumption) ?_)))) b⟩

end Go.Proofs.Ytcmmdgopmiojjaa.fnExactStartRep
