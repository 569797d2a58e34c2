/- The law FnExactOpsText walked: it returns true, and nothing that was there has turned. Printed by mkopst.py. -/
import Derived.Test.YtpiheobpobclgaaDoorOpsT4
import Derived.Test.YtpiheobpobclgaaDoorSzOp
import Derived.Test.YtpiheobpobclgaaDoorToOp
import Derived.Test.YtpiheobpobclgaaDoorEqOp
namespace Go.Proofs.YtpiheobpobclgaaDoor.fnExactOpsText
open Go.RowKit

set_option maxRecDepth 100000 in
set_option maxHeartbeats 3200000 in
theorem walk {w : World} (v0 : Value) (y0 : List OpD) (s0 : Rd Cod.op w v0 y0) (hTab : TabW w) : Calls Tryd.prog 3 #[v0] w fun e w' => e = .returned (.bool true) ∧ Below w.heap.size w w' := by
  have Hs0 := Lib.hid (fun (z : Int) (h0 : 0 ≤ z) (h1 : z ≤ 1048576) (u : World) r => szOpS_any v0 y0 z h0 h1 u r)
  have Ht0 := Lib.hid (fun (c : costOpS y0 ≤ 1048576) (u : World) r => toOpS_any v0 y0 c u r)
  have He0 := Lib.hid (fun (c : costOpS y0 ≤ 1048576) (a b : Value) (u : World) r1 r2 => eqOpS_any a b y0 u r1 r2 (by unfold costOpS at c; omega))
  have HS := Lib.hid (fun (c0 : costOpS y0 ≤ 1048576) (u : World) (x0 : Value) r0 => expOpsTextS_any x0 y0 c0 u r0)
  have HI := Lib.hid (fun (c0 : costOpS y0 ≤ 1048576) (u : World) (k : Below w.heap.size w u) (x0 : Value) r0 => expOpsText_any x0 y0 c0 u (hTab.on k) r0)
  generalize hcost0 : costOpS y0 = n0 at *
  generalize goodOB y0 = q at *
  generalize opsTR y0 = tr at *
  clear hTab
  cases q
  all_goals
    go_enter Tryd.func3, Tryd.ntmps3
    go_wp2_with fail
    refine (Hs0.out _ (by omega) (by omega) _ (s0.below (by (repeat (first | (with_reducible exact Below.refl _ _) | (with_reducible refine below_setCell ?_ (by first | (simp; done) | (simp; omega) | omega)) | (with_reducible refine below_alloc _ ?_) | (with_reducible refine below_drewN ?_ _) | (with_reducible assumption) | (with_reducible refine below_after (by assumption) ?_)))))).mono ?_
    rintro e u1 ⟨k1, ⟨rfl, hz0⟩ | ⟨rfl, hz0⟩⟩
    rotate_left
    · go_wp2
      go_ret
      exact ⟨rfl, below_after k1 (by (repeat (first | (with_reducible exact Below.refl _ _) | (with_reducible refine below_setCell ?_ (by first | (simp; done) | (simp; omega) | omega)) | (with_reducible refine below_alloc _ ?_) | (with_reducible refine below_drewN ?_ _) | (with_reducible assumption) | (with_reducible refine below_after (by assumption) ?_))))⟩
    have m1 : Below w.heap.size w u1 := below_after k1 (by (repeat (first | (with_reducible exact Below.refl _ _) | (with_reducible refine below_setCell ?_ (by first | (simp; done) | (simp; omega) | omega)) | (with_reducible refine below_alloc _ ?_) | (with_reducible refine below_drewN ?_ _) | (with_reducible assumption) | (with_reducible refine below_after (by assumption) ?_))))
    replace s0 := s0.below m1
    have b := m1
    clear m1 k1
    have hc0 : n0 ≤ 1048576 := by omega
    go_wp2_with fail
    refine (Ht0.out hc0 _ (s0.below (by (repeat (first | (with_reducible exact Below.refl _ _) | (with_reducible refine below_setCell ?_ (by first | (simp; done) | (simp; omega) | omega)) | (with_reducible refine below_alloc _ ?_) | (with_reducible refine below_drewN ?_ _) | (with_reducible assumption) | (with_reducible refine below_after (by assumption) ?_)))))).mono ?_
    rintro e u2 ⟨xw0, rfl, ow0, k2⟩
    have aw0 := ow0.rd
    clear ow0
    have m2 : Below u1.heap.size u1 u2 := below_after k2 (by (repeat (first | (with_reducible exact Below.refl _ _) | (with_reducible refine below_setCell ?_ (by first | (simp; done) | (simp; omega) | omega)) | (with_reducible refine below_alloc _ ?_) | (with_reducible refine below_drewN ?_ _) | (with_reducible assumption) | (with_reducible refine below_after (by assumption) ?_))))
    replace s0 := s0.below m2
    replace b := m2.mono b.size |> b.trans
    clear m2 k2
    go_wp2_with fail
    refine (HS.out hc0 _ _ (aw0.below (by (repeat (first | (with_reducible exact Below.refl _ _) | (with_reducible refine below_setCell ?_ (by first | (simp; done) | (simp; omega) | omega)) | (with_reducible refine below_alloc _ ?_) | (with_reducible refine below_drewN ?_ _) | (with_reducible assumption) | (with_reducible refine below_after (by assumption) ?_)))))).mono ?_
    rintro e u3 ⟨rfl, k3⟩
    have m3 : Below u2.heap.size u2 u3 := below_after k3 (by (repeat (first | (with_reducible exact Below.refl _ _) | (with_reducible refine below_setCell ?_ (by first | (simp; done) | (simp; omega) | omega)) | (with_reducible refine below_alloc _ ?_) | (with_reducible refine below_drewN ?_ _) | (with_reducible assumption) | (with_reducible refine below_after (by assumption) ?_))))
    replace s0 := s0.below m3
    replace aw0 := aw0.below m3
    replace b := m3.mono b.size |> b.trans
    clear m3 k3
    go_wp2_with fail
    refine (Ht0.out hc0 _ (s0.below (by (repeat (first | (with_reducible exact Below.refl _ _) | (with_reducible refine below_setCell ?_ (by first | (simp; done) | (simp; omega) | omega)) | (with_reducible refine below_alloc _ ?_) | (with_reducible refine below_drewN ?_ _) | (with_reducible assumption) | (with_reducible refine below_after (by assumption) ?_)))))).mono ?_
    rintro e u4 ⟨xg0, rfl, og0, k4⟩
    have ag0 := og0.rd
    clear og0
    have m4 : Below u3.heap.size u3 u4 := below_after k4 (by (repeat (first | (with_reducible exact Below.refl _ _) | (with_reducible refine below_setCell ?_ (by first | (simp; done) | (simp; omega) | omega)) | (with_reducible refine below_alloc _ ?_) | (with_reducible refine below_drewN ?_ _) | (with_reducible assumption) | (with_reducible refine below_after (by assumption) ?_))))
    replace s0 := s0.below m4
    replace b := m4.mono b.size |> b.trans
    clear m4 k4
    go_wp2_with fail
    refine (HI.out hc0 _ (by (repeat (first | (with_reducible exact Below.refl _ _) | (with_reducible refine below_setCell ?_ (by first | (simp; done) | (simp; omega) | omega)) | (with_reducible refine below_alloc _ ?_) | (with_reducible refine below_drewN ?_ _) | (with_reducible assumption) | (with_reducible refine below_after (by assumption) ?_)))) _ (ag0.below (by (repeat (first | (with_reducible exact Below.refl _ _) | (with_reducible refine below_setCell ?_ (by first | (simp; done) | (simp; omega) | omega)) | (with_reducible refine below_alloc _ ?_) | (with_reducible refine below_drewN ?_ _) | (with_reducible assumption) | (with_reducible refine below_after (by assumption) ?_)))))).mono ?_
    rintro e u5 ⟨rfl, k5⟩
    have m5 : Below u4.heap.size u4 u5 := below_after k5 (by (repeat (first | (with_reducible exact Below.refl _ _) | (with_reducible refine below_setCell ?_ (by first | (simp; done) | (simp; omega) | omega)) | (with_reducible refine below_alloc _ ?_) | (with_reducible refine below_drewN ?_ _) | (with_reducible assumption) | (with_reducible refine below_after (by assumption) ?_))))
    replace s0 := s0.below m5
    replace ag0 := ag0.below m5
    replace b := m5.mono b.size |> b.trans
    clear m5 k5
    go_wp2_with fail
    refine (Ht0.out hc0 _ (s0.below (by (repeat (first | (with_reducible exact Below.refl _ _) | (with_reducible refine below_setCell ?_ (by first | (simp; done) | (simp; omega) | omega)) | (with_reducible refine below_alloc _ ?_) | (with_reducible refine below_drewN ?_ _) | (with_reducible assumption) | (with_reducible refine below_after (by assumption) ?_)))))).mono ?_
    rintro e u6 ⟨xe0, rfl, oe0, k6⟩
    have ae0 := oe0.rd
    clear oe0
    have m6 : Below u5.heap.size u5 u6 := below_after k6 (by (repeat (first | (with_reducible exact Below.refl _ _) | (with_reducible refine below_setCell ?_ (by first | (simp; done) | (simp; omega) | omega)) | (with_reducible refine below_alloc _ ?_) | (with_reducible refine below_drewN ?_ _) | (with_reducible assumption) | (with_reducible refine below_after (by assumption) ?_))))
    replace s0 := s0.below m6
    replace ag0 := ag0.below m6
    replace b := m6.mono b.size |> b.trans
    clear m6 k6
    go_wp2_with fail
    refine (He0.out hc0 _ _ _ (ag0.below (by (repeat (first | (with_reducible exact Below.refl _ _) | (with_reducible refine below_setCell ?_ (by first | (simp; done) | (simp; omega) | omega)) | (with_reducible refine below_alloc _ ?_) | (with_reducible refine below_drewN ?_ _) | (with_reducible assumption) | (with_reducible refine below_after (by assumption) ?_))))) (ae0.below (by (repeat (first | (with_reducible exact Below.refl _ _) | (with_reducible refine below_setCell ?_ (by first | (simp; done) | (simp; omega) | omega)) | (with_reducible refine below_alloc _ ?_) | (with_reducible refine below_drewN ?_ _) | (with_reducible assumption) | (with_reducible refine below_after (by assumption) ?_)))))).mono ?_
    rintro e u7 ⟨rfl, k7⟩
    have m7 : Below u6.heap.size u6 u7 := below_after k7 (by (repeat (first | (with_reducible exact Below.refl _ _) | (with_reducible refine below_setCell ?_ (by first | (simp; done) | (simp; omega) | omega)) | (with_reducible refine below_alloc _ ?_) | (with_reducible refine below_drewN ?_ _) | (with_reducible assumption) | (with_reducible refine below_after (by assumption) ?_))))
    replace s0 := s0.below m7
    replace ag0 := ag0.below m7
    replace ae0 := ae0.below m7
    replace b := m7.mono b.size |> b.trans
    clear m7 k7
    go_wp2
    go_ret
    exact ⟨rfl, by (repeat (first | (with_reducible exact Below.refl _ _) | (with_reducible refine below_setCell ?_ (by first | (simp; done) | (simp; omega) | omega)) | (with_reducible refine below_alloc _ ?_) | (with_reducible refine below_drewN ?_ _) | (with_reducible assumption) | (with_reducible refine below_after (by assumption) ?_)))⟩

end Go.Proofs.YtpiheobpobclgaaDoor.fnExactOpsText
