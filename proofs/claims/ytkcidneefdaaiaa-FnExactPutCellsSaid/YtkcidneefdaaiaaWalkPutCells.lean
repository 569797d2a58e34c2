/- The law FnExactPutCells walked: it returns true, and nothing that was there has turned. Printed by mkfresh.py. -/
import Derived.Test.YtkcidneefdaaiaaPutCC
import Derived.Test.YtkcidneefdaaiaaSzCell
import Derived.Test.YtkcidneefdaaiaaSizes
import Derived.Test.YtkcidneefdaaiaaToCell
import Derived.Test.YtkcidneefdaaiaaTos
import Derived.Test.YtkcidneefdaaiaaEqCell
import Derived.Test.YtkcidneefdaaiaaEqs
import Derived.Test.YtkcidneefdaaiaaMarkLCell
import Derived.Test.YtkcidneefdaaiaaRecm
namespace Go.Proofs.Ytkcidneefdaaiaa.fnExactPutCells
open Go.RowKit

set_option maxRecDepth 100000 in
set_option maxHeartbeats 6400000 in
theorem walk {w : World} (v0 : Value) (y0 : List CellD) (s0 : Rd Cod.cell w v0 y0) (v1 : Value) (y1 : List WriteD) (s1 : Rd Cod.write w v1 y1) (y2 : Int) (iy2 : I64 y2) (_ : True) : Calls Try.prog 4 #[v0, v1, .int .i64 y2] w fun e w' => e = .returned (.bool true) ∧ Below w.heap.size w w' := by
  have Hs0 := Lib.hid (fun (z : Int) (h0 : 0 ≤ z) (h1 : z ≤ 1048576) (u : World) r => szCellS_any v0 y0 z h0 h1 u r)
  have Ht0 := Lib.hid (fun (c : costCellS y0 ≤ 1048576) (u : World) r => toCellS_any v0 y0 c u r)
  have He0 := Lib.hid (fun (c : costCellS y0 ≤ 1048576) (a b : Value) (u : World) r1 r2 => eqCellS_any a b y0 u r1 r2 c)
  have Hk0 := Lib.hid (fun (k0 : Nat) (h0 : 0 < k0) (c : k0 + sumN LCell y0 ≤ 1073741824) (a : Value) (lo hi : Nat) (u : World) r => markCellS_l k0 h0 a y0 lo hi u r c)
  have hL0 := lenCell y0
  have Hs1 := Lib.hid (fun (z : Int) (h0 : 0 ≤ z) (h1 : z ≤ 1048576) (u : World) r => szWriteS_any v1 y1 z h0 h1 u r)
  have Ht1 := Lib.hid (fun (c : costWriteS y1 ≤ 1048576) (u : World) r => toWriteS_any v1 y1 c u r)
  have He1 := Lib.hid (fun (c : costWriteS y1 ≤ 1048576) (a b : Value) (u : World) r1 r2 => eqWriteS_any a b y1 u r1 r2 (by unfold costWriteS at c; omega))
  have Hk1 := Lib.hid (fun (k0 : Nat) (h0 : 0 < k0) (c : k0 + sumN LWrite y1 ≤ 1073741824) (a : Value) (lo hi : Nat) (u : World) r => markWriteS_l k0 h0 a y1 lo hi u r c)
  have hL1 := lenWrite y1
  have HS := Lib.hid (fun (c0 : costCellS y0 ≤ 1048576) (c1 : costWriteS y1 ≤ 1048576) (u : World) (x0 : Value) (x1 : Value) r0 r1 => expPutCellsS_any x0 x1 y0 y1 y2 (by omega) (by unfold costWriteS at c1; omega) u r0 r1)
  have HI := Lib.hid (fun (c0 : costCellS y0 ≤ 1048576) (c1 : costWriteS y1 ≤ 1048576) (u : World) (x0 : Value) (x1 : Value) r0 r1 => expPutCells_any x0 x1 y0 y1 y2 (by omega) (by unfold costWriteS at c1; omega) u r0 r1)
  have Hcr : Hid (costCellS y0 ≤ 1048576 → costWriteS y1 ≤ 1048576 → costCellS (pickL (cellsB y2 y0 y1) (outR y2 y0 y1)) ≤ 1048576) := Lib.hid (fun c0 c1 => cellsB_cost y2 y0 y1)
  unfold CellsPost at HS HI
  generalize pickL (cellsB y2 y0 y1) (outR y2 y0 y1) = res at *
  generalize (cellsB y2 y0 y1) = q at *
  have HeR := Lib.hid (fun (c : costCellS res ≤ 1048576) (a b : Value) (u : World) r1 r2 => eqCellS_any a b res u r1 r2 c)
  have hLR := lenCell res
  obtain ⟨LR, eLR⟩ : ∃ LR, sumN LCell res = LR := ⟨_, rfl⟩
  rw [eLR] at hLR
  have HkR := Lib.hid (fun (c : 1 + LR ≤ 1073741824) (a : Value) (lo hi : Nat) (u : World) r => eLR ▸ markCellS_l 1 (by decide) a res lo hi u r (by rw [eLR]; exact c))
  have HhR := Lib.hid (fun (c : 1 + LR ≤ 1073741824) (a : Value) (u : World) (r : HeldS PT.tcell u a 1 LR) => heldCellS_p 1 (by decide) a LR u r c)
  clear eLR
  generalize hcost0 : costCellS y0 = n0 at *
  generalize hlen0 : sumN LCell y0 = l0 at *
  generalize hcost1 : costWriteS y1 = n1 at *
  generalize hlen1 : sumN LWrite y1 = l1 at *
  generalize hcostR : costCellS res = nR at *
  clear hcost0 hlen0
  clear hcost1 hlen1
  clear hcostR
  cases q
  all_goals
    go_enter Try.func4, Try.ntmps4
    replace s0 := s0.within
    replace s1 := s1.within
    go_wp2_with fail
    refine (Hs0.out _ (by omega) (by omega) _ (s0.below (by (repeat (first | (with_reducible exact Below.refl _ _) | (with_reducible refine below_setCell ?_ (by first | (simp; done) | (simp; omega) | omega)) | (with_reducible refine below_alloc _ ?_) | (with_reducible refine below_drewN ?_ _) | (with_reducible assumption) | (with_reducible refine below_after (by assumption) ?_))))).rd).mono ?_
    rintro e u1 ⟨k1, ⟨rfl, hz0⟩ | ⟨rfl, hz0⟩⟩
    rotate_left
    · go_wp2
      go_ret
      exact ⟨rfl, below_after k1 (by (repeat (first | (with_reducible exact Below.refl _ _) | (with_reducible refine below_setCell ?_ (by first | (simp; done) | (simp; omega) | omega)) | (with_reducible refine below_alloc _ ?_) | (with_reducible refine below_drewN ?_ _) | (with_reducible assumption) | (with_reducible refine below_after (by assumption) ?_))))⟩
    have m1 : Below w.heap.size w u1 := below_after k1 (by (repeat (first | (with_reducible exact Below.refl _ _) | (with_reducible refine below_setCell ?_ (by first | (simp; done) | (simp; omega) | omega)) | (with_reducible refine below_alloc _ ?_) | (with_reducible refine below_drewN ?_ _) | (with_reducible assumption) | (with_reducible refine below_after (by assumption) ?_))))
    replace s0 := s0.below m1
    replace s1 := s1.below m1
    have z1 : w.heap.size ≤ u1.heap.size := m1.size
    have b := m1
    clear m1 k1
    go_wp2_with fail
    refine (Hs1.out _ (by omega) (by omega) _ (s1.below (by (repeat (first | (with_reducible exact Below.refl _ _) | (with_reducible refine below_setCell ?_ (by first | (simp; done) | (simp; omega) | omega)) | (with_reducible refine below_alloc _ ?_) | (with_reducible refine below_drewN ?_ _) | (with_reducible assumption) | (with_reducible refine below_after (by assumption) ?_))))).rd).mono ?_
    rintro e u2 ⟨k2, ⟨rfl, hz1⟩ | ⟨rfl, hz1⟩⟩
    rotate_left
    · go_wp2
      go_ret
      exact ⟨rfl, below_after (below_after k2 (by (repeat (first | (with_reducible exact Below.refl _ _) | (with_reducible refine below_setCell ?_ (by first | (simp; done) | (simp; omega) | omega)) | (with_reducible refine below_alloc _ ?_) | (with_reducible refine below_drewN ?_ _) | (with_reducible assumption) | (with_reducible refine below_after (by assumption) ?_))))) b⟩
    have m2 : Below u1.heap.size u1 u2 := below_after k2 (by (repeat (first | (with_reducible exact Below.refl _ _) | (with_reducible refine below_setCell ?_ (by first | (simp; done) | (simp; omega) | omega)) | (with_reducible refine below_alloc _ ?_) | (with_reducible refine below_drewN ?_ _) | (with_reducible assumption) | (with_reducible refine below_after (by assumption) ?_))))
    replace s0 := s0.below m2
    replace s1 := s1.below m2
    have z2 : u1.heap.size ≤ u2.heap.size := m2.size
    replace b := m2.mono b.size |> b.trans
    clear m2 k2
    have hc0 : n0 ≤ 1048576 := by omega
    have hc1 : n1 ≤ 1048576 := by omega
    have hcR : nR ≤ 1048576 := Hcr.out hc0 hc1
    go_wp2_with fail
    refine (Ht0.out hc0 _ (s0.below (by (repeat (first | (with_reducible exact Below.refl _ _) | (with_reducible refine below_setCell ?_ (by first | (simp; done) | (simp; omega) | omega)) | (with_reducible refine below_alloc _ ?_) | (with_reducible refine below_drewN ?_ _) | (with_reducible assumption) | (with_reducible refine below_after (by assumption) ?_))))).rd).mono ?_
    rintro e u3 ⟨vaw0, rfl, oaw0, k3⟩
    have aw0 := (Own.mono oaw0 (Below.size (B := u2.heap.size) (w := u2) (by (repeat (first | (with_reducible exact Below.refl _ _) | (with_reducible refine below_setCell ?_ (by first | (simp; done) | (simp; omega) | omega)) | (with_reducible refine below_alloc _ ?_) | (with_reducible refine below_drewN ?_ _) | (with_reducible assumption) | (with_reducible refine below_after (by assumption) ?_)))))).within
    clear oaw0
    have m3 : Below u2.heap.size u2 u3 := below_after k3 (by (repeat (first | (with_reducible exact Below.refl _ _) | (with_reducible refine below_setCell ?_ (by first | (simp; done) | (simp; omega) | omega)) | (with_reducible refine below_alloc _ ?_) | (with_reducible refine below_drewN ?_ _) | (with_reducible assumption) | (with_reducible refine below_after (by assumption) ?_))))
    replace s0 := s0.below m3
    replace s1 := s1.below m3
    have z3 : u2.heap.size ≤ u3.heap.size := m3.size
    replace b := m3.mono b.size |> b.trans
    clear m3 k3
    go_wp2_with fail
    refine (Ht1.out hc1 _ (s1.below (by (repeat (first | (with_reducible exact Below.refl _ _) | (with_reducible refine below_setCell ?_ (by first | (simp; done) | (simp; omega) | omega)) | (with_reducible refine below_alloc _ ?_) | (with_reducible refine below_drewN ?_ _) | (with_reducible assumption) | (with_reducible refine below_after (by assumption) ?_))))).rd).mono ?_
    rintro e u4 ⟨vaw1, rfl, oaw1, k4⟩
    have aw1 := (Own.mono oaw1 (Below.size (B := u3.heap.size) (w := u3) (by (repeat (first | (with_reducible exact Below.refl _ _) | (with_reducible refine below_setCell ?_ (by first | (simp; done) | (simp; omega) | omega)) | (with_reducible refine below_alloc _ ?_) | (with_reducible refine below_drewN ?_ _) | (with_reducible assumption) | (with_reducible refine below_after (by assumption) ?_)))))).within
    clear oaw1
    have m4 : Below u3.heap.size u3 u4 := below_after k4 (by (repeat (first | (with_reducible exact Below.refl _ _) | (with_reducible refine below_setCell ?_ (by first | (simp; done) | (simp; omega) | omega)) | (with_reducible refine below_alloc _ ?_) | (with_reducible refine below_drewN ?_ _) | (with_reducible assumption) | (with_reducible refine below_after (by assumption) ?_))))
    replace s0 := s0.below m4
    replace s1 := s1.below m4
    replace aw0 := aw0.below m4
    have z4 : u3.heap.size ≤ u4.heap.size := m4.size
    replace b := m4.mono b.size |> b.trans
    clear m4 k4
    go_wp2_with fail
    refine (HS.out hc0 hc1 _ _ _ (aw0.below (by (repeat (first | (with_reducible exact Below.refl _ _) | (with_reducible refine below_setCell ?_ (by first | (simp; done) | (simp; omega) | omega)) | (with_reducible refine below_alloc _ ?_) | (with_reducible refine below_drewN ?_ _) | (with_reducible assumption) | (with_reducible refine below_after (by assumption) ?_))))).rd (aw1.below (by (repeat (first | (with_reducible exact Below.refl _ _) | (with_reducible refine below_setCell ?_ (by first | (simp; done) | (simp; omega) | omega)) | (with_reducible refine below_alloc _ ?_) | (with_reducible refine below_drewN ?_ _) | (with_reducible assumption) | (with_reducible refine below_after (by assumption) ?_))))).rd).mono ?_
    rintro e u5 ⟨vrw, rfl, orw, k5⟩
    have rw := (Own.mono orw (Below.size (B := u4.heap.size) (w := u4) (by (repeat (first | (with_reducible exact Below.refl _ _) | (with_reducible refine below_setCell ?_ (by first | (simp; done) | (simp; omega) | omega)) | (with_reducible refine below_alloc _ ?_) | (with_reducible refine below_drewN ?_ _) | (with_reducible assumption) | (with_reducible refine below_after (by assumption) ?_)))))).within
    clear orw
    have m5 : Below u4.heap.size u4 u5 := below_after k5 (by (repeat (first | (with_reducible exact Below.refl _ _) | (with_reducible refine below_setCell ?_ (by first | (simp; done) | (simp; omega) | omega)) | (with_reducible refine below_alloc _ ?_) | (with_reducible refine below_drewN ?_ _) | (with_reducible assumption) | (with_reducible refine below_after (by assumption) ?_))))
    replace s0 := s0.below m5
    replace s1 := s1.below m5
    replace aw0 := aw0.below m5
    replace aw1 := aw1.below m5
    have z5 : u4.heap.size ≤ u5.heap.size := m5.size
    replace b := m5.mono b.size |> b.trans
    clear m5 k5
    clear aw0
    clear aw1
    go_wp2_with fail
    refine (Ht0.out hc0 _ (s0.below (by (repeat (first | (with_reducible exact Below.refl _ _) | (with_reducible refine below_setCell ?_ (by first | (simp; done) | (simp; omega) | omega)) | (with_reducible refine below_alloc _ ?_) | (with_reducible refine below_drewN ?_ _) | (with_reducible assumption) | (with_reducible refine below_after (by assumption) ?_))))).rd).mono ?_
    rintro e u6 ⟨vax0, rfl, oax0, k6⟩
    have ax0 := (Own.mono oax0 (Below.size (B := u5.heap.size) (w := u5) (by (repeat (first | (with_reducible exact Below.refl _ _) | (with_reducible refine below_setCell ?_ (by first | (simp; done) | (simp; omega) | omega)) | (with_reducible refine below_alloc _ ?_) | (with_reducible refine below_drewN ?_ _) | (with_reducible assumption) | (with_reducible refine below_after (by assumption) ?_)))))).within
    clear oax0
    have m6 : Below u5.heap.size u5 u6 := below_after k6 (by (repeat (first | (with_reducible exact Below.refl _ _) | (with_reducible refine below_setCell ?_ (by first | (simp; done) | (simp; omega) | omega)) | (with_reducible refine below_alloc _ ?_) | (with_reducible refine below_drewN ?_ _) | (with_reducible assumption) | (with_reducible refine below_after (by assumption) ?_))))
    replace s0 := s0.below m6
    replace s1 := s1.below m6
    replace rw := rw.below m6
    have z6 : u5.heap.size ≤ u6.heap.size := m6.size
    replace b := m6.mono b.size |> b.trans
    clear m6 k6
    go_wp2_with fail
    refine (Ht1.out hc1 _ (s1.below (by (repeat (first | (with_reducible exact Below.refl _ _) | (with_reducible refine below_setCell ?_ (by first | (simp; done) | (simp; omega) | omega)) | (with_reducible refine below_alloc _ ?_) | (with_reducible refine below_drewN ?_ _) | (with_reducible assumption) | (with_reducible refine below_after (by assumption) ?_))))).rd).mono ?_
    rintro e u7 ⟨vax1, rfl, oax1, k7⟩
    have ax1 := (Own.mono oax1 (Below.size (B := u6.heap.size) (w := u6) (by (repeat (first | (with_reducible exact Below.refl _ _) | (with_reducible refine below_setCell ?_ (by first | (simp; done) | (simp; omega) | omega)) | (with_reducible refine below_alloc _ ?_) | (with_reducible refine below_drewN ?_ _) | (with_reducible assumption) | (with_reducible refine below_after (by assumption) ?_)))))).within
    clear oax1
    have m7 : Below u6.heap.size u6 u7 := below_after k7 (by (repeat (first | (with_reducible exact Below.refl _ _) | (with_reducible refine below_setCell ?_ (by first | (simp; done) | (simp; omega) | omega)) | (with_reducible refine below_alloc _ ?_) | (with_reducible refine below_drewN ?_ _) | (with_reducible assumption) | (with_reducible refine below_after (by assumption) ?_))))
    replace s0 := s0.below m7
    replace s1 := s1.below m7
    replace rw := rw.below m7
    replace ax0 := ax0.below m7
    have z7 : u6.heap.size ≤ u7.heap.size := m7.size
    replace b := m7.mono b.size |> b.trans
    clear m7 k7
    go_wp2_with fail
    refine (HI.out hc0 hc1 _ _ _ (ax0.below (by (repeat (first | (with_reducible exact Below.refl _ _) | (with_reducible refine below_setCell ?_ (by first | (simp; done) | (simp; omega) | omega)) | (with_reducible refine below_alloc _ ?_) | (with_reducible refine below_drewN ?_ _) | (with_reducible assumption) | (with_reducible refine below_after (by assumption) ?_))))).rd (ax1.below (by (repeat (first | (with_reducible exact Below.refl _ _) | (with_reducible refine below_setCell ?_ (by first | (simp; done) | (simp; omega) | omega)) | (with_reducible refine below_alloc _ ?_) | (with_reducible refine below_drewN ?_ _) | (with_reducible assumption) | (with_reducible refine below_after (by assumption) ?_))))).rd).mono ?_
    rintro e u8 ⟨vrg, rfl, org, k8⟩
    have rg := (Own.mono org (Below.size (B := u7.heap.size) (w := u7) (by (repeat (first | (with_reducible exact Below.refl _ _) | (with_reducible refine below_setCell ?_ (by first | (simp; done) | (simp; omega) | omega)) | (with_reducible refine below_alloc _ ?_) | (with_reducible refine below_drewN ?_ _) | (with_reducible assumption) | (with_reducible refine below_after (by assumption) ?_)))))).within
    clear org
    have m8 : Below u7.heap.size u7 u8 := below_after k8 (by (repeat (first | (with_reducible exact Below.refl _ _) | (with_reducible refine below_setCell ?_ (by first | (simp; done) | (simp; omega) | omega)) | (with_reducible refine below_alloc _ ?_) | (with_reducible refine below_drewN ?_ _) | (with_reducible assumption) | (with_reducible refine below_after (by assumption) ?_))))
    replace s0 := s0.below m8
    replace s1 := s1.below m8
    replace rw := rw.below m8
    replace ax0 := ax0.below m8
    replace ax1 := ax1.below m8
    have z8 : u7.heap.size ≤ u8.heap.size := m8.size
    replace b := m8.mono b.size |> b.trans
    clear m8 k8
    go_wp2_with fail
    refine (HeR.out hcR _ _ _ (rg.below (by (repeat (first | (with_reducible exact Below.refl _ _) | (with_reducible refine below_setCell ?_ (by first | (simp; done) | (simp; omega) | omega)) | (with_reducible refine below_alloc _ ?_) | (with_reducible refine below_drewN ?_ _) | (with_reducible assumption) | (with_reducible refine below_after (by assumption) ?_))))).rd (rw.below (by (repeat (first | (with_reducible exact Below.refl _ _) | (with_reducible refine below_setCell ?_ (by first | (simp; done) | (simp; omega) | omega)) | (with_reducible refine below_alloc _ ?_) | (with_reducible refine below_drewN ?_ _) | (with_reducible assumption) | (with_reducible refine below_after (by assumption) ?_))))).rd).mono ?_
    rintro e u9 ⟨rfl, k9⟩
    have m9 : Below u8.heap.size u8 u9 := below_after k9 (by (repeat (first | (with_reducible exact Below.refl _ _) | (with_reducible refine below_setCell ?_ (by first | (simp; done) | (simp; omega) | omega)) | (with_reducible refine below_alloc _ ?_) | (with_reducible refine below_drewN ?_ _) | (with_reducible assumption) | (with_reducible refine below_after (by assumption) ?_))))
    replace s0 := s0.below m9
    replace s1 := s1.below m9
    replace rw := rw.below m9
    replace ax0 := ax0.below m9
    replace ax1 := ax1.below m9
    replace rg := rg.below m9
    have z9 : u8.heap.size ≤ u9.heap.size := m9.size
    replace b := m9.mono b.size |> b.trans
    clear m9 k9
    go_wp2_with fail
    refine (Ht0.out hc0 _ (s0.below (by (repeat (first | (with_reducible exact Below.refl _ _) | (with_reducible refine below_setCell ?_ (by first | (simp; done) | (simp; omega) | omega)) | (with_reducible refine below_alloc _ ?_) | (with_reducible refine below_drewN ?_ _) | (with_reducible assumption) | (with_reducible refine below_after (by assumption) ?_))))).rd).mono ?_
    rintro e u10 ⟨vae0, rfl, oae0, k10⟩
    have ae0 := (Own.mono oae0 (Below.size (B := u9.heap.size) (w := u9) (by (repeat (first | (with_reducible exact Below.refl _ _) | (with_reducible refine below_setCell ?_ (by first | (simp; done) | (simp; omega) | omega)) | (with_reducible refine below_alloc _ ?_) | (with_reducible refine below_drewN ?_ _) | (with_reducible assumption) | (with_reducible refine below_after (by assumption) ?_)))))).within
    clear oae0
    have m10 : Below u9.heap.size u9 u10 := below_after k10 (by (repeat (first | (with_reducible exact Below.refl _ _) | (with_reducible refine below_setCell ?_ (by first | (simp; done) | (simp; omega) | omega)) | (with_reducible refine below_alloc _ ?_) | (with_reducible refine below_drewN ?_ _) | (with_reducible assumption) | (with_reducible refine below_after (by assumption) ?_))))
    replace s0 := s0.below m10
    replace s1 := s1.below m10
    replace rw := rw.below m10
    replace ax0 := ax0.below m10
    replace ax1 := ax1.below m10
    replace rg := rg.below m10
    have z10 : u9.heap.size ≤ u10.heap.size := m10.size
    replace b := m10.mono b.size |> b.trans
    clear m10 k10
    go_wp2_with fail
    refine (He0.out hc0 _ _ _ (ax0.below (by (repeat (first | (with_reducible exact Below.refl _ _) | (with_reducible refine below_setCell ?_ (by first | (simp; done) | (simp; omega) | omega)) | (with_reducible refine below_alloc _ ?_) | (with_reducible refine below_drewN ?_ _) | (with_reducible assumption) | (with_reducible refine below_after (by assumption) ?_))))).rd (ae0.below (by (repeat (first | (with_reducible exact Below.refl _ _) | (with_reducible refine below_setCell ?_ (by first | (simp; done) | (simp; omega) | omega)) | (with_reducible refine below_alloc _ ?_) | (with_reducible refine below_drewN ?_ _) | (with_reducible assumption) | (with_reducible refine below_after (by assumption) ?_))))).rd).mono ?_
    rintro e u11 ⟨rfl, k11⟩
    have m11 : Below u10.heap.size u10 u11 := below_after k11 (by (repeat (first | (with_reducible exact Below.refl _ _) | (with_reducible refine below_setCell ?_ (by first | (simp; done) | (simp; omega) | omega)) | (with_reducible refine below_alloc _ ?_) | (with_reducible refine below_drewN ?_ _) | (with_reducible assumption) | (with_reducible refine below_after (by assumption) ?_))))
    replace s0 := s0.below m11
    replace s1 := s1.below m11
    replace rw := rw.below m11
    replace ax0 := ax0.below m11
    replace ax1 := ax1.below m11
    replace rg := rg.below m11
    replace ae0 := ae0.below m11
    have z11 : u10.heap.size ≤ u11.heap.size := m11.size
    replace b := m11.mono b.size |> b.trans
    clear m11 k11
    clear ae0
    go_wp2_with fail
    refine (Ht1.out hc1 _ (s1.below (by (repeat (first | (with_reducible exact Below.refl _ _) | (with_reducible refine below_setCell ?_ (by first | (simp; done) | (simp; omega) | omega)) | (with_reducible refine below_alloc _ ?_) | (with_reducible refine below_drewN ?_ _) | (with_reducible assumption) | (with_reducible refine below_after (by assumption) ?_))))).rd).mono ?_
    rintro e u12 ⟨vae1, rfl, oae1, k12⟩
    have ae1 := (Own.mono oae1 (Below.size (B := u11.heap.size) (w := u11) (by (repeat (first | (with_reducible exact Below.refl _ _) | (with_reducible refine below_setCell ?_ (by first | (simp; done) | (simp; omega) | omega)) | (with_reducible refine below_alloc _ ?_) | (with_reducible refine below_drewN ?_ _) | (with_reducible assumption) | (with_reducible refine below_after (by assumption) ?_)))))).within
    clear oae1
    have m12 : Below u11.heap.size u11 u12 := below_after k12 (by (repeat (first | (with_reducible exact Below.refl _ _) | (with_reducible refine below_setCell ?_ (by first | (simp; done) | (simp; omega) | omega)) | (with_reducible refine below_alloc _ ?_) | (with_reducible refine below_drewN ?_ _) | (with_reducible assumption) | (with_reducible refine below_after (by assumption) ?_))))
    replace s0 := s0.below m12
    replace s1 := s1.below m12
    replace rw := rw.below m12
    replace ax0 := ax0.below m12
    replace ax1 := ax1.below m12
    replace rg := rg.below m12
    have z12 : u11.heap.size ≤ u12.heap.size := m12.size
    replace b := m12.mono b.size |> b.trans
    clear m12 k12
    go_wp2_with fail
    refine (He1.out hc1 _ _ _ (ax1.below (by (repeat (first | (with_reducible exact Below.refl _ _) | (with_reducible refine below_setCell ?_ (by first | (simp; done) | (simp; omega) | omega)) | (with_reducible refine below_alloc _ ?_) | (with_reducible refine below_drewN ?_ _) | (with_reducible assumption) | (with_reducible refine below_after (by assumption) ?_))))).rd (ae1.below (by (repeat (first | (with_reducible exact Below.refl _ _) | (with_reducible refine below_setCell ?_ (by first | (simp; done) | (simp; omega) | omega)) | (with_reducible refine below_alloc _ ?_) | (with_reducible refine below_drewN ?_ _) | (with_reducible assumption) | (with_reducible refine below_after (by assumption) ?_))))).rd).mono ?_
    rintro e u13 ⟨rfl, k13⟩
    have m13 : Below u12.heap.size u12 u13 := below_after k13 (by (repeat (first | (with_reducible exact Below.refl _ _) | (with_reducible refine below_setCell ?_ (by first | (simp; done) | (simp; omega) | omega)) | (with_reducible refine below_alloc _ ?_) | (with_reducible refine below_drewN ?_ _) | (with_reducible assumption) | (with_reducible refine below_after (by assumption) ?_))))
    replace s0 := s0.below m13
    replace s1 := s1.below m13
    replace rw := rw.below m13
    replace ax0 := ax0.below m13
    replace ax1 := ax1.below m13
    replace rg := rg.below m13
    replace ae1 := ae1.below m13
    have z13 : u12.heap.size ≤ u13.heap.size := m13.size
    replace b := m13.mono b.size |> b.trans
    clear m13 k13
    clear ae1
    go_wp2_with fail
    refine (Hk0.out 1 (by omega) (by omega) _ _ _ _ (ax0.below (by (repeat (first | (with_reducible exact Below.refl _ _) | (with_reducible refine below_setCell ?_ (by first | (simp; done) | (simp; omega) | omega)) | (with_reducible refine below_alloc _ ?_) | (with_reducible refine below_drewN ?_ _) | (with_reducible assumption) | (with_reducible refine below_after (by assumption) ?_)))))).mono ?_
    rintro e u14 ⟨rfl, hhax0, t14⟩
    replace s0 := (s0.below (by (repeat (first | (with_reducible exact Below.refl _ _) | (with_reducible refine below_setCell ?_ (by first | (simp; done) | (simp; omega) | omega)) | (with_reducible refine below_alloc _ ?_) | (with_reducible refine below_drewN ?_ _) | (with_reducible assumption) | (with_reducible refine below_after (by assumption) ?_))))).turn t14 (by omega)
    replace s1 := (s1.below (by (repeat (first | (with_reducible exact Below.refl _ _) | (with_reducible refine below_setCell ?_ (by first | (simp; done) | (simp; omega) | omega)) | (with_reducible refine below_alloc _ ?_) | (with_reducible refine below_drewN ?_ _) | (with_reducible assumption) | (with_reducible refine below_after (by assumption) ?_))))).turn t14 (by omega)
    replace rw := (rw.below (by (repeat (first | (with_reducible exact Below.refl _ _) | (with_reducible refine below_setCell ?_ (by first | (simp; done) | (simp; omega) | omega)) | (with_reducible refine below_alloc _ ?_) | (with_reducible refine below_drewN ?_ _) | (with_reducible assumption) | (with_reducible refine below_after (by assumption) ?_))))).turn t14 (by omega)
    replace ax1 := (ax1.below (by (repeat (first | (with_reducible exact Below.refl _ _) | (with_reducible refine below_setCell ?_ (by first | (simp; done) | (simp; omega) | omega)) | (with_reducible refine below_alloc _ ?_) | (with_reducible refine below_drewN ?_ _) | (with_reducible assumption) | (with_reducible refine below_after (by assumption) ?_))))).turn t14 (by omega)
    replace rg := (rg.below (by (repeat (first | (with_reducible exact Below.refl _ _) | (with_reducible refine below_setCell ?_ (by first | (simp; done) | (simp; omega) | omega)) | (with_reducible refine below_alloc _ ?_) | (with_reducible refine below_drewN ?_ _) | (with_reducible assumption) | (with_reducible refine below_after (by assumption) ?_))))).turn t14 (by omega)
    replace b := Turn.below t14 (by omega) (below_after (by (repeat (first | (with_reducible exact Below.refl _ _) | (with_reducible refine below_setCell ?_ (by first | (simp; done) | (simp; omega) | omega)) | (with_reducible refine below_alloc _ ?_) | (with_reducible refine below_drewN ?_ _) | (with_reducible assumption) | (with_reducible refine below_after (by assumption) ?_)))) b)
    have z14 : u13.heap.size ≤ u14.heap.size := Nat.le_trans (Below.size (B := u13.heap.size) (w := u13) (by (repeat (first | (with_reducible exact Below.refl _ _) | (with_reducible refine below_setCell ?_ (by first | (simp; done) | (simp; omega) | omega)) | (with_reducible refine below_alloc _ ?_) | (with_reducible refine below_drewN ?_ _) | (with_reducible assumption) | (with_reducible refine below_after (by assumption) ?_))))) t14.size
    clear t14 ax0 hhax0
    obtain ⟨K0, hK0⟩ : ∃ K0 : Nat, 1 + l0 = K0 := ⟨_, rfl⟩
    rw [hK0]
    have hK0n : (0 : Int) ≤ (K0 : Int) := by omega
    have hK0b : K0 = 1 + l0 := hK0.symm
    have HK0 := Lib.hid hK0b
    have hK0u : K0 ≤ 12582920 := by omega
    have hK0p : 0 < K0 := by omega
    clear hK0 hK0b
    go_wp2_with fail
    refine (Hk1.out K0 (by omega) (by omega) _ _ _ _ (ax1.below (by (repeat (first | (with_reducible exact Below.refl _ _) | (with_reducible refine below_setCell ?_ (by first | (simp; done) | (simp; omega) | omega)) | (with_reducible refine below_alloc _ ?_) | (with_reducible refine below_drewN ?_ _) | (with_reducible assumption) | (with_reducible refine below_after (by assumption) ?_)))))).mono ?_
    rintro e u15 ⟨rfl, hhax1, t15⟩
    replace s0 := (s0.below (by (repeat (first | (with_reducible exact Below.refl _ _) | (with_reducible refine below_setCell ?_ (by first | (simp; done) | (simp; omega) | omega)) | (with_reducible refine below_alloc _ ?_) | (with_reducible refine below_drewN ?_ _) | (with_reducible assumption) | (with_reducible refine below_after (by assumption) ?_))))).turn t15 (by omega)
    replace s1 := (s1.below (by (repeat (first | (with_reducible exact Below.refl _ _) | (with_reducible refine below_setCell ?_ (by first | (simp; done) | (simp; omega) | omega)) | (with_reducible refine below_alloc _ ?_) | (with_reducible refine below_drewN ?_ _) | (with_reducible assumption) | (with_reducible refine below_after (by assumption) ?_))))).turn t15 (by omega)
    replace rw := (rw.below (by (repeat (first | (with_reducible exact Below.refl _ _) | (with_reducible refine below_setCell ?_ (by first | (simp; done) | (simp; omega) | omega)) | (with_reducible refine below_alloc _ ?_) | (with_reducible refine below_drewN ?_ _) | (with_reducible assumption) | (with_reducible refine below_after (by assumption) ?_))))).turn t15 (by omega)
    replace rg := (rg.below (by (repeat (first | (with_reducible exact Below.refl _ _) | (with_reducible refine below_setCell ?_ (by first | (simp; done) | (simp; omega) | omega)) | (with_reducible refine below_alloc _ ?_) | (with_reducible refine below_drewN ?_ _) | (with_reducible assumption) | (with_reducible refine below_after (by assumption) ?_))))).turn t15 (by omega)
    replace b := Turn.below t15 (by omega) (below_after (by (repeat (first | (with_reducible exact Below.refl _ _) | (with_reducible refine below_setCell ?_ (by first | (simp; done) | (simp; omega) | omega)) | (with_reducible refine below_alloc _ ?_) | (with_reducible refine below_drewN ?_ _) | (with_reducible assumption) | (with_reducible refine below_after (by assumption) ?_)))) b)
    have z15 : u14.heap.size ≤ u15.heap.size := Nat.le_trans (Below.size (B := u14.heap.size) (w := u14) (by (repeat (first | (with_reducible exact Below.refl _ _) | (with_reducible refine below_setCell ?_ (by first | (simp; done) | (simp; omega) | omega)) | (with_reducible refine below_alloc _ ?_) | (with_reducible refine below_drewN ?_ _) | (with_reducible assumption) | (with_reducible refine below_after (by assumption) ?_))))) t15.size
    clear t15 ax1 hhax1
    obtain ⟨K1, hK1⟩ : ∃ K1 : Nat, K0 + l1 = K1 := ⟨_, rfl⟩
    rw [hK1]
    have hK1n : (0 : Int) ≤ (K1 : Int) := by omega
    have hK1b : K1 = K0 + l1 := hK1.symm
    have HK1 := Lib.hid hK1b
    have hK1u : K1 ≤ 25165840 := by omega
    have hK1p : 0 < K1 := by omega
    clear hK1 hK1b
    go_wp2_with fail
    refine (HeR.out hcR _ _ _ (rg.below (by (repeat (first | (with_reducible exact Below.refl _ _) | (with_reducible refine below_setCell ?_ (by first | (simp; done) | (simp; omega) | omega)) | (with_reducible refine below_alloc _ ?_) | (with_reducible refine below_drewN ?_ _) | (with_reducible assumption) | (with_reducible refine below_after (by assumption) ?_))))).rd (rw.below (by (repeat (first | (with_reducible exact Below.refl _ _) | (with_reducible refine below_setCell ?_ (by first | (simp; done) | (simp; omega) | omega)) | (with_reducible refine below_alloc _ ?_) | (with_reducible refine below_drewN ?_ _) | (with_reducible assumption) | (with_reducible refine below_after (by assumption) ?_))))).rd).mono ?_
    rintro e u16 ⟨rfl, k16⟩
    have m16 : Below u15.heap.size u15 u16 := below_after k16 (by (repeat (first | (with_reducible exact Below.refl _ _) | (with_reducible refine below_setCell ?_ (by first | (simp; done) | (simp; omega) | omega)) | (with_reducible refine below_alloc _ ?_) | (with_reducible refine below_drewN ?_ _) | (with_reducible assumption) | (with_reducible refine below_after (by assumption) ?_))))
    replace s0 := s0.below m16
    replace s1 := s1.below m16
    replace rw := rw.below m16
    replace rg := rg.below m16
    have z16 : u15.heap.size ≤ u16.heap.size := m16.size
    replace b := m16.mono b.size |> b.trans
    clear m16 k16
    go_wp2_with fail
    refine (HkR.out (by omega) _ _ _ _ (rg.below (by (repeat (first | (with_reducible exact Below.refl _ _) | (with_reducible refine below_setCell ?_ (by first | (simp; done) | (simp; omega) | omega)) | (with_reducible refine below_alloc _ ?_) | (with_reducible refine below_drewN ?_ _) | (with_reducible assumption) | (with_reducible refine below_after (by assumption) ?_)))))).mono ?_
    rintro e u17 ⟨rfl, hhrg, t17⟩
    replace s0 := (s0.below (by (repeat (first | (with_reducible exact Below.refl _ _) | (with_reducible refine below_setCell ?_ (by first | (simp; done) | (simp; omega) | omega)) | (with_reducible refine below_alloc _ ?_) | (with_reducible refine below_drewN ?_ _) | (with_reducible assumption) | (with_reducible refine below_after (by assumption) ?_))))).turn t17 (by omega)
    replace s1 := (s1.below (by (repeat (first | (with_reducible exact Below.refl _ _) | (with_reducible refine below_setCell ?_ (by first | (simp; done) | (simp; omega) | omega)) | (with_reducible refine below_alloc _ ?_) | (with_reducible refine below_drewN ?_ _) | (with_reducible assumption) | (with_reducible refine below_after (by assumption) ?_))))).turn t17 (by omega)
    replace rw := (rw.below (by (repeat (first | (with_reducible exact Below.refl _ _) | (with_reducible refine below_setCell ?_ (by first | (simp; done) | (simp; omega) | omega)) | (with_reducible refine below_alloc _ ?_) | (with_reducible refine below_drewN ?_ _) | (with_reducible assumption) | (with_reducible refine below_after (by assumption) ?_))))).turn t17 (by omega)
    replace b := Turn.below t17 (by omega) (below_after (by (repeat (first | (with_reducible exact Below.refl _ _) | (with_reducible refine below_setCell ?_ (by first | (simp; done) | (simp; omega) | omega)) | (with_reducible refine below_alloc _ ?_) | (with_reducible refine below_drewN ?_ _) | (with_reducible assumption) | (with_reducible refine below_after (by assumption) ?_)))) b)
    have z17 : u16.heap.size ≤ u17.heap.size := Nat.le_trans (Below.size (B := u16.heap.size) (w := u16) (by (repeat (first | (with_reducible exact Below.refl _ _) | (with_reducible refine below_setCell ?_ (by first | (simp; done) | (simp; omega) | omega)) | (with_reducible refine below_alloc _ ?_) | (with_reducible refine below_drewN ?_ _) | (with_reducible assumption) | (with_reducible refine below_after (by assumption) ?_))))) t17.size
    clear t17 rg
    obtain ⟨KR, hKR⟩ : ∃ KR : Nat, 1 + LR = KR := ⟨_, rfl⟩
    have hKRn : (0 : Int) ≤ (KR : Int) := by omega
    rw [hKR] at HhR ⊢
    have hKRu : KR ≤ 1073741824 := by omega
    clear hKR
    go_wp2_with fail
    refine (HhR.out hKRu _ _ (hhrg.below (by (repeat (first | (with_reducible exact Below.refl _ _) | (with_reducible refine below_setCell ?_ (by first | (simp; done) | (simp; omega) | omega)) | (with_reducible refine below_alloc _ ?_) | (with_reducible refine below_drewN ?_ _) | (with_reducible assumption) | (with_reducible refine below_after (by assumption) ?_)))))).mono ?_
    rintro e u18 ⟨rfl, k18⟩
    have m18 : Below u17.heap.size u17 u18 := below_after k18 (by (repeat (first | (with_reducible exact Below.refl _ _) | (with_reducible refine below_setCell ?_ (by first | (simp; done) | (simp; omega) | omega)) | (with_reducible refine below_alloc _ ?_) | (with_reducible refine below_drewN ?_ _) | (with_reducible assumption) | (with_reducible refine below_after (by assumption) ?_))))
    replace s0 := s0.below m18
    replace s1 := s1.below m18
    replace rw := rw.below m18
    replace hhrg := hhrg.below m18
    have z18 : u17.heap.size ≤ u18.heap.size := m18.size
    replace b := m18.mono b.size |> b.trans
    clear m18 k18
    go_wp2_with fail
    refine (Ht0.out hc0 _ (s0.below (by (repeat (first | (with_reducible exact Below.refl _ _) | (with_reducible refine below_setCell ?_ (by first | (simp; done) | (simp; omega) | omega)) | (with_reducible refine below_alloc _ ?_) | (with_reducible refine below_drewN ?_ _) | (with_reducible assumption) | (with_reducible refine below_after (by assumption) ?_))))).rd).mono ?_
    rintro e u19 ⟨vay0, rfl, oay0, k19⟩
    have ay0 := (Own.mono oay0 (Below.size (B := u18.heap.size) (w := u18) (by (repeat (first | (with_reducible exact Below.refl _ _) | (with_reducible refine below_setCell ?_ (by first | (simp; done) | (simp; omega) | omega)) | (with_reducible refine below_alloc _ ?_) | (with_reducible refine below_drewN ?_ _) | (with_reducible assumption) | (with_reducible refine below_after (by assumption) ?_)))))).within
    clear oay0
    have m19 : Below u18.heap.size u18 u19 := below_after k19 (by (repeat (first | (with_reducible exact Below.refl _ _) | (with_reducible refine below_setCell ?_ (by first | (simp; done) | (simp; omega) | omega)) | (with_reducible refine below_alloc _ ?_) | (with_reducible refine below_drewN ?_ _) | (with_reducible assumption) | (with_reducible refine below_after (by assumption) ?_))))
    replace s0 := s0.below m19
    replace s1 := s1.below m19
    replace rw := rw.below m19
    replace hhrg := hhrg.below m19
    have z19 : u18.heap.size ≤ u19.heap.size := m19.size
    replace b := m19.mono b.size |> b.trans
    clear m19 k19
    go_wp2_with fail
    refine (Ht1.out hc1 _ (s1.below (by (repeat (first | (with_reducible exact Below.refl _ _) | (with_reducible refine below_setCell ?_ (by first | (simp; done) | (simp; omega) | omega)) | (with_reducible refine below_alloc _ ?_) | (with_reducible refine below_drewN ?_ _) | (with_reducible assumption) | (with_reducible refine below_after (by assumption) ?_))))).rd).mono ?_
    rintro e u20 ⟨vay1, rfl, oay1, k20⟩
    have ay1 := (Own.mono oay1 (Below.size (B := u19.heap.size) (w := u19) (by (repeat (first | (with_reducible exact Below.refl _ _) | (with_reducible refine below_setCell ?_ (by first | (simp; done) | (simp; omega) | omega)) | (with_reducible refine below_alloc _ ?_) | (with_reducible refine below_drewN ?_ _) | (with_reducible assumption) | (with_reducible refine below_after (by assumption) ?_)))))).within
    clear oay1
    have m20 : Below u19.heap.size u19 u20 := below_after k20 (by (repeat (first | (with_reducible exact Below.refl _ _) | (with_reducible refine below_setCell ?_ (by first | (simp; done) | (simp; omega) | omega)) | (with_reducible refine below_alloc _ ?_) | (with_reducible refine below_drewN ?_ _) | (with_reducible assumption) | (with_reducible refine below_after (by assumption) ?_))))
    replace s0 := s0.below m20
    replace s1 := s1.below m20
    replace rw := rw.below m20
    replace hhrg := hhrg.below m20
    replace ay0 := ay0.below m20
    have z20 : u19.heap.size ≤ u20.heap.size := m20.size
    replace b := m20.mono b.size |> b.trans
    clear m20 k20
    go_wp2_with fail
    refine (HI.out hc0 hc1 _ _ _ (ay0.below (by (repeat (first | (with_reducible exact Below.refl _ _) | (with_reducible refine below_setCell ?_ (by first | (simp; done) | (simp; omega) | omega)) | (with_reducible refine below_alloc _ ?_) | (with_reducible refine below_drewN ?_ _) | (with_reducible assumption) | (with_reducible refine below_after (by assumption) ?_))))).rd (ay1.below (by (repeat (first | (with_reducible exact Below.refl _ _) | (with_reducible refine below_setCell ?_ (by first | (simp; done) | (simp; omega) | omega)) | (with_reducible refine below_alloc _ ?_) | (with_reducible refine below_drewN ?_ _) | (with_reducible assumption) | (with_reducible refine below_after (by assumption) ?_))))).rd).mono ?_
    rintro e u21 ⟨vrh, rfl, orh, k21⟩
    have rh := (Own.mono orh (Below.size (B := u20.heap.size) (w := u20) (by (repeat (first | (with_reducible exact Below.refl _ _) | (with_reducible refine below_setCell ?_ (by first | (simp; done) | (simp; omega) | omega)) | (with_reducible refine below_alloc _ ?_) | (with_reducible refine below_drewN ?_ _) | (with_reducible assumption) | (with_reducible refine below_after (by assumption) ?_)))))).within
    clear orh
    have m21 : Below u20.heap.size u20 u21 := below_after k21 (by (repeat (first | (with_reducible exact Below.refl _ _) | (with_reducible refine below_setCell ?_ (by first | (simp; done) | (simp; omega) | omega)) | (with_reducible refine below_alloc _ ?_) | (with_reducible refine below_drewN ?_ _) | (with_reducible assumption) | (with_reducible refine below_after (by assumption) ?_))))
    replace s0 := s0.below m21
    replace s1 := s1.below m21
    replace rw := rw.below m21
    replace hhrg := hhrg.below m21
    replace ay0 := ay0.below m21
    replace ay1 := ay1.below m21
    have z21 : u20.heap.size ≤ u21.heap.size := m21.size
    replace b := m21.mono b.size |> b.trans
    clear m21 k21
    clear ay0
    clear ay1
    go_wp2_with fail
    refine (HeR.out hcR _ _ _ (rh.below (by (repeat (first | (with_reducible exact Below.refl _ _) | (with_reducible refine below_setCell ?_ (by first | (simp; done) | (simp; omega) | omega)) | (with_reducible refine below_alloc _ ?_) | (with_reducible refine below_drewN ?_ _) | (with_reducible assumption) | (with_reducible refine below_after (by assumption) ?_))))).rd (rw.below (by (repeat (first | (with_reducible exact Below.refl _ _) | (with_reducible refine below_setCell ?_ (by first | (simp; done) | (simp; omega) | omega)) | (with_reducible refine below_alloc _ ?_) | (with_reducible refine below_drewN ?_ _) | (with_reducible assumption) | (with_reducible refine below_after (by assumption) ?_))))).rd).mono ?_
    rintro e u22 ⟨rfl, k22⟩
    have m22 : Below u21.heap.size u21 u22 := below_after k22 (by (repeat (first | (with_reducible exact Below.refl _ _) | (with_reducible refine below_setCell ?_ (by first | (simp; done) | (simp; omega) | omega)) | (with_reducible refine below_alloc _ ?_) | (with_reducible refine below_drewN ?_ _) | (with_reducible assumption) | (with_reducible refine below_after (by assumption) ?_))))
    replace s0 := s0.below m22
    replace s1 := s1.below m22
    replace rw := rw.below m22
    replace hhrg := hhrg.below m22
    replace rh := rh.below m22
    have z22 : u21.heap.size ≤ u22.heap.size := m22.size
    replace b := m22.mono b.size |> b.trans
    clear m22 k22
    go_wp2_with fail
    refine (HhR.out hKRu _ _ (hhrg.below (by (repeat (first | (with_reducible exact Below.refl _ _) | (with_reducible refine below_setCell ?_ (by first | (simp; done) | (simp; omega) | omega)) | (with_reducible refine below_alloc _ ?_) | (with_reducible refine below_drewN ?_ _) | (with_reducible assumption) | (with_reducible refine below_after (by assumption) ?_)))))).mono ?_
    rintro e u23 ⟨rfl, k23⟩
    have m23 : Below u22.heap.size u22 u23 := below_after k23 (by (repeat (first | (with_reducible exact Below.refl _ _) | (with_reducible refine below_setCell ?_ (by first | (simp; done) | (simp; omega) | omega)) | (with_reducible refine below_alloc _ ?_) | (with_reducible refine below_drewN ?_ _) | (with_reducible assumption) | (with_reducible refine below_after (by assumption) ?_))))
    replace s0 := s0.below m23
    replace s1 := s1.below m23
    replace rw := rw.below m23
    replace hhrg := hhrg.below m23
    replace rh := rh.below m23
    have z23 : u22.heap.size ≤ u23.heap.size := m23.size
    replace b := m23.mono b.size |> b.trans
    clear m23 k23
    go_wp2
    go_ret
    exact ⟨rfl, below_after (by (repeat (first | (with_reducible exact Below.refl _ _) | (with_reducible refine below_setCell ?_ (by first | (simp; done) | (simp; omega) | omega)) | (with_reducible refine below_alloc _ ?_) | (with_reducible refine below_drewN ?_ _) | (with_reducible assumption) | (with_reducible refine below_after (by assumption) ?_)))) b⟩

end Go.Proofs.Ytkcidneefdaaiaa.fnExactPutCells
