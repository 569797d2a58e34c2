/- The law FnExactSameCells walked: it returns true, and nothing that was there has turned. Printed by mkro.py. -/
import Derived.Test.YtkgnogdbojefkaaSameCells
import Derived.Test.YtkgnogdbojefkaaSzCell
import Derived.Test.YtkgnogdbojefkaaToCell
import Derived.Test.YtkgnogdbojefkaaEqCell
namespace Go.Proofs.Ytkgnogdbojefkaa.fnExactSameCells
open Go.RowKit

set_option maxRecDepth 100000 in
set_option maxHeartbeats 3200000 in
theorem walk {w : World} (v0 : Value) (y0 : List CellD) (s0 : Rd Cod.cell w v0 y0) (v1 : Value) (y1 : List CellD) (s1 : Rd Cod.cell w v1 y1) (_ : True) : Calls Try.prog 10 #[v0, v1] w fun e w' => e = .returned (.bool true) ∧ Below w.heap.size w w' := by
  have Hs0 := Lib.hid (fun (z : Int) (h0 : 0 ≤ z) (h1 : z ≤ 1048576) (u : World) r => szCellS_any v0 y0 z h0 h1 u r)
  have Ht0 := Lib.hid (fun (c : costCellS y0 ≤ 1048576) (u : World) r => toCellS_any v0 y0 c u r)
  have He0 := Lib.hid (fun (c : costCellS y0 ≤ 1048576) (a b : Value) (u : World) r1 r2 => eqCellS_any a b y0 u r1 r2 c)
  have Hs1 := Lib.hid (fun (z : Int) (h0 : 0 ≤ z) (h1 : z ≤ 1048576) (u : World) r => szCellS_any v1 y1 z h0 h1 u r)
  have Ht1 := Lib.hid (fun (c : costCellS y1 ≤ 1048576) (u : World) r => toCellS_any v1 y1 c u r)
  have He1 := Lib.hid (fun (c : costCellS y1 ≤ 1048576) (a b : Value) (u : World) r1 r2 => eqCellS_any a b y1 u r1 r2 c)
  have HS := Lib.hid (fun (c0 : costCellS y0 ≤ 1048576) (c1 : costCellS y1 ≤ 1048576) (u : World) (x0 : Value) (x1 : Value) r0 r1 => sameCellsS_any x0 x1 y0 y1 c0 c1 u r0 r1)
  have HI := Lib.hid (fun (c0 : costCellS y0 ≤ 1048576) (c1 : costCellS y1 ≤ 1048576) (u : World) (x0 : Value) (x1 : Value) r0 r1 => sameCells_any x0 x1 y0 y1 c0 c1 u r0 r1)
  generalize hcost0 : costCellS y0 = n0 at *
  generalize hcost1 : costCellS y1 = n1 at *
  generalize pB (y0 = y1) = q at *
  cases q
  all_goals
    go_enter Try.func10, Try.ntmps10
    go_wp2_with fail
    refine (Hs0.out _ (by omega) (by omega) _ (s0.below (by (repeat (first | (with_reducible exact Below.refl _ _) | (with_reducible refine below_setCell ?_ (by first | (simp; done) | (simp; omega) | omega)) | (with_reducible refine below_alloc _ ?_) | (with_reducible refine below_drewN ?_ _) | (with_reducible assumption) | (with_reducible refine below_after (by assumption) ?_)))))).mono ?_
    rintro e u1 ⟨k1, ⟨rfl, hz0⟩ | ⟨rfl, hz0⟩⟩
    rotate_left
    · go_wp2
      go_ret
      exact ⟨rfl, below_after k1 (by (repeat (first | (with_reducible exact Below.refl _ _) | (with_reducible refine below_setCell ?_ (by first | (simp; done) | (simp; omega) | omega)) | (with_reducible refine below_alloc _ ?_) | (with_reducible refine below_drewN ?_ _) | (with_reducible assumption) | (with_reducible refine below_after (by assumption) ?_))))⟩
    have m1 : Below w.heap.size w u1 := below_after k1 (by (repeat (first | (with_reducible exact Below.refl _ _) | (with_reducible refine below_setCell ?_ (by first | (simp; done) | (simp; omega) | omega)) | (with_reducible refine below_alloc _ ?_) | (with_reducible refine below_drewN ?_ _) | (with_reducible assumption) | (with_reducible refine below_after (by assumption) ?_))))
    replace s0 := s0.below m1
    replace s1 := s1.below m1
    have b := m1
    clear m1 k1
    go_wp2_with fail
    refine (Hs1.out _ (by omega) (by omega) _ (s1.below (by (repeat (first | (with_reducible exact Below.refl _ _) | (with_reducible refine below_setCell ?_ (by first | (simp; done) | (simp; omega) | omega)) | (with_reducible refine below_alloc _ ?_) | (with_reducible refine below_drewN ?_ _) | (with_reducible assumption) | (with_reducible refine below_after (by assumption) ?_)))))).mono ?_
    rintro e u2 ⟨k2, ⟨rfl, hz1⟩ | ⟨rfl, hz1⟩⟩
    rotate_left
    · go_wp2
      go_ret
      exact ⟨rfl, below_after k2 (by (repeat (first | (with_reducible exact Below.refl _ _) | (with_reducible refine below_setCell ?_ (by first | (simp; done) | (simp; omega) | omega)) | (with_reducible refine below_alloc _ ?_) | (with_reducible refine below_drewN ?_ _) | (with_reducible assumption) | (with_reducible refine below_after (by assumption) ?_))))⟩
    have m2 : Below u1.heap.size u1 u2 := below_after k2 (by (repeat (first | (with_reducible exact Below.refl _ _) | (with_reducible refine below_setCell ?_ (by first | (simp; done) | (simp; omega) | omega)) | (with_reducible refine below_alloc _ ?_) | (with_reducible refine below_drewN ?_ _) | (with_reducible assumption) | (with_reducible refine below_after (by assumption) ?_))))
    replace s0 := s0.below m2
    replace s1 := s1.below m2
    replace b := b.trans (m2.mono b.size)
    clear m2 k2
    have hc0 : n0 ≤ 1048576 := by omega
    have hc1 : n1 ≤ 1048576 := by omega
    go_wp2_with fail
    refine (Ht0.out hc0 _ (s0.below (by (repeat (first | (with_reducible exact Below.refl _ _) | (with_reducible refine below_setCell ?_ (by first | (simp; done) | (simp; omega) | omega)) | (with_reducible refine below_alloc _ ?_) | (with_reducible refine below_drewN ?_ _) | (with_reducible assumption) | (with_reducible refine below_after (by assumption) ?_)))))).mono ?_
    rintro e u3 ⟨xw0, rfl, ow0, k3⟩
    have aw0 := ow0.rd
    clear ow0
    have m3 : Below u2.heap.size u2 u3 := below_after k3 (by (repeat (first | (with_reducible exact Below.refl _ _) | (with_reducible refine below_setCell ?_ (by first | (simp; done) | (simp; omega) | omega)) | (with_reducible refine below_alloc _ ?_) | (with_reducible refine below_drewN ?_ _) | (with_reducible assumption) | (with_reducible refine below_after (by assumption) ?_))))
    replace s0 := s0.below m3
    replace s1 := s1.below m3
    replace b := m3.mono b.size |> b.trans
    clear m3 k3
    go_wp2_with fail
    refine (Ht1.out hc1 _ (s1.below (by (repeat (first | (with_reducible exact Below.refl _ _) | (with_reducible refine below_setCell ?_ (by first | (simp; done) | (simp; omega) | omega)) | (with_reducible refine below_alloc _ ?_) | (with_reducible refine below_drewN ?_ _) | (with_reducible assumption) | (with_reducible refine below_after (by assumption) ?_)))))).mono ?_
    rintro e u4 ⟨xw1, rfl, ow1, k4⟩
    have aw1 := ow1.rd
    clear ow1
    have m4 : Below u3.heap.size u3 u4 := below_after k4 (by (repeat (first | (with_reducible exact Below.refl _ _) | (with_reducible refine below_setCell ?_ (by first | (simp; done) | (simp; omega) | omega)) | (with_reducible refine below_alloc _ ?_) | (with_reducible refine below_drewN ?_ _) | (with_reducible assumption) | (with_reducible refine below_after (by assumption) ?_))))
    replace s0 := s0.below m4
    replace s1 := s1.below m4
    replace aw0 := aw0.below m4
    replace b := m4.mono b.size |> b.trans
    clear m4 k4
    go_wp2_with fail
    refine (HS.out hc0 hc1 _ _ _ (aw0.below (by (repeat (first | (with_reducible exact Below.refl _ _) | (with_reducible refine below_setCell ?_ (by first | (simp; done) | (simp; omega) | omega)) | (with_reducible refine below_alloc _ ?_) | (with_reducible refine below_drewN ?_ _) | (with_reducible assumption) | (with_reducible refine below_after (by assumption) ?_))))) (aw1.below (by (repeat (first | (with_reducible exact Below.refl _ _) | (with_reducible refine below_setCell ?_ (by first | (simp; done) | (simp; omega) | omega)) | (with_reducible refine below_alloc _ ?_) | (with_reducible refine below_drewN ?_ _) | (with_reducible assumption) | (with_reducible refine below_after (by assumption) ?_)))))).mono ?_
    rintro e u5 ⟨rfl, k5⟩
    have m5 : Below u4.heap.size u4 u5 := below_after k5 (by (repeat (first | (with_reducible exact Below.refl _ _) | (with_reducible refine below_setCell ?_ (by first | (simp; done) | (simp; omega) | omega)) | (with_reducible refine below_alloc _ ?_) | (with_reducible refine below_drewN ?_ _) | (with_reducible assumption) | (with_reducible refine below_after (by assumption) ?_))))
    replace s0 := s0.below m5
    replace s1 := s1.below m5
    replace aw0 := aw0.below m5
    replace aw1 := aw1.below m5
    replace b := m5.mono b.size |> b.trans
    clear m5 k5
    go_wp2_with fail
    refine (Ht0.out hc0 _ (s0.below (by (repeat (first | (with_reducible exact Below.refl _ _) | (with_reducible refine below_setCell ?_ (by first | (simp; done) | (simp; omega) | omega)) | (with_reducible refine below_alloc _ ?_) | (with_reducible refine below_drewN ?_ _) | (with_reducible assumption) | (with_reducible refine below_after (by assumption) ?_)))))).mono ?_
    rintro e u6 ⟨xg0, rfl, og0, k6⟩
    have ag0 := og0.rd
    clear og0
    have m6 : Below u5.heap.size u5 u6 := below_after k6 (by (repeat (first | (with_reducible exact Below.refl _ _) | (with_reducible refine below_setCell ?_ (by first | (simp; done) | (simp; omega) | omega)) | (with_reducible refine below_alloc _ ?_) | (with_reducible refine below_drewN ?_ _) | (with_reducible assumption) | (with_reducible refine below_after (by assumption) ?_))))
    replace s0 := s0.below m6
    replace s1 := s1.below m6
    replace b := m6.mono b.size |> b.trans
    clear m6 k6
    go_wp2_with fail
    refine (Ht1.out hc1 _ (s1.below (by (repeat (first | (with_reducible exact Below.refl _ _) | (with_reducible refine below_setCell ?_ (by first | (simp; done) | (simp; omega) | omega)) | (with_reducible refine below_alloc _ ?_) | (with_reducible refine below_drewN ?_ _) | (with_reducible assumption) | (with_reducible refine below_after (by assumption) ?_)))))).mono ?_
    rintro e u7 ⟨xg1, rfl, og1, k7⟩
    have ag1 := og1.rd
    clear og1
    have m7 : Below u6.heap.size u6 u7 := below_after k7 (by (repeat (first | (with_reducible exact Below.refl _ _) | (with_reducible refine below_setCell ?_ (by first | (simp; done) | (simp; omega) | omega)) | (with_reducible refine below_alloc _ ?_) | (with_reducible refine below_drewN ?_ _) | (with_reducible assumption) | (with_reducible refine below_after (by assumption) ?_))))
    replace s0 := s0.below m7
    replace s1 := s1.below m7
    replace ag0 := ag0.below m7
    replace b := m7.mono b.size |> b.trans
    clear m7 k7
    go_wp2_with fail
    refine (HI.out hc0 hc1 _ _ _ (ag0.below (by (repeat (first | (with_reducible exact Below.refl _ _) | (with_reducible refine below_setCell ?_ (by first | (simp; done) | (simp; omega) | omega)) | (with_reducible refine below_alloc _ ?_) | (with_reducible refine below_drewN ?_ _) | (with_reducible assumption) | (with_reducible refine below_after (by assumption) ?_))))) (ag1.below (by (repeat (first | (with_reducible exact Below.refl _ _) | (with_reducible refine below_setCell ?_ (by first | (simp; done) | (simp; omega) | omega)) | (with_reducible refine below_alloc _ ?_) | (with_reducible refine below_drewN ?_ _) | (with_reducible assumption) | (with_reducible refine below_after (by assumption) ?_)))))).mono ?_
    rintro e u8 ⟨rfl, k8⟩
    have m8 : Below u7.heap.size u7 u8 := below_after k8 (by (repeat (first | (with_reducible exact Below.refl _ _) | (with_reducible refine below_setCell ?_ (by first | (simp; done) | (simp; omega) | omega)) | (with_reducible refine below_alloc _ ?_) | (with_reducible refine below_drewN ?_ _) | (with_reducible assumption) | (with_reducible refine below_after (by assumption) ?_))))
    replace s0 := s0.below m8
    replace s1 := s1.below m8
    replace ag0 := ag0.below m8
    replace ag1 := ag1.below m8
    replace b := m8.mono b.size |> b.trans
    clear m8 k8
    go_wp2_with fail
    refine (Ht0.out hc0 _ (s0.below (by (repeat (first | (with_reducible exact Below.refl _ _) | (with_reducible refine below_setCell ?_ (by first | (simp; done) | (simp; omega) | omega)) | (with_reducible refine below_alloc _ ?_) | (with_reducible refine below_drewN ?_ _) | (with_reducible assumption) | (with_reducible refine below_after (by assumption) ?_)))))).mono ?_
    rintro e u9 ⟨xe0, rfl, oe0, k9⟩
    have ae0 := oe0.rd
    clear oe0
    have m9 : Below u8.heap.size u8 u9 := below_after k9 (by (repeat (first | (with_reducible exact Below.refl _ _) | (with_reducible refine below_setCell ?_ (by first | (simp; done) | (simp; omega) | omega)) | (with_reducible refine below_alloc _ ?_) | (with_reducible refine below_drewN ?_ _) | (with_reducible assumption) | (with_reducible refine below_after (by assumption) ?_))))
    replace s0 := s0.below m9
    replace s1 := s1.below m9
    replace ag0 := ag0.below m9
    replace ag1 := ag1.below m9
    replace b := m9.mono b.size |> b.trans
    clear m9 k9
    go_wp2_with fail
    refine (He0.out hc0 _ _ _ (ag0.below (by (repeat (first | (with_reducible exact Below.refl _ _) | (with_reducible refine below_setCell ?_ (by first | (simp; done) | (simp; omega) | omega)) | (with_reducible refine below_alloc _ ?_) | (with_reducible refine below_drewN ?_ _) | (with_reducible assumption) | (with_reducible refine below_after (by assumption) ?_))))) (ae0.below (by (repeat (first | (with_reducible exact Below.refl _ _) | (with_reducible refine below_setCell ?_ (by first | (simp; done) | (simp; omega) | omega)) | (with_reducible refine below_alloc _ ?_) | (with_reducible refine below_drewN ?_ _) | (with_reducible assumption) | (with_reducible refine below_after (by assumption) ?_)))))).mono ?_
    rintro e u10 ⟨rfl, k10⟩
    have m10 : Below u9.heap.size u9 u10 := below_after k10 (by (repeat (first | (with_reducible exact Below.refl _ _) | (with_reducible refine below_setCell ?_ (by first | (simp; done) | (simp; omega) | omega)) | (with_reducible refine below_alloc _ ?_) | (with_reducible refine below_drewN ?_ _) | (with_reducible assumption) | (with_reducible refine below_after (by assumption) ?_))))
    replace s0 := s0.below m10
    replace s1 := s1.below m10
    replace ag0 := ag0.below m10
    replace ag1 := ag1.below m10
    replace ae0 := ae0.below m10
    replace b := m10.mono b.size |> b.trans
    clear m10 k10
    go_wp2_with fail
    refine (Ht1.out hc1 _ (s1.below (by (repeat (first | (with_reducible exact Below.refl _ _) | (with_reducible refine below_setCell ?_ (by first | (simp; done) | (simp; omega) | omega)) | (with_reducible refine below_alloc _ ?_) | (with_reducible refine below_drewN ?_ _) | (with_reducible assumption) | (with_reducible refine below_after (by assumption) ?_)))))).mono ?_
    rintro e u11 ⟨xe1, rfl, oe1, k11⟩
    have ae1 := oe1.rd
    clear oe1
    have m11 : Below u10.heap.size u10 u11 := below_after k11 (by (repeat (first | (with_reducible exact Below.refl _ _) | (with_reducible refine below_setCell ?_ (by first | (simp; done) | (simp; omega) | omega)) | (with_reducible refine below_alloc _ ?_) | (with_reducible refine below_drewN ?_ _) | (with_reducible assumption) | (with_reducible refine below_after (by assumption) ?_))))
    replace s0 := s0.below m11
    replace s1 := s1.below m11
    replace ag0 := ag0.below m11
    replace ag1 := ag1.below m11
    replace ae0 := ae0.below m11
    replace b := m11.mono b.size |> b.trans
    clear m11 k11
    go_wp2_with fail
    refine (He1.out hc1 _ _ _ (ag1.below (by (repeat (first | (with_reducible exact Below.refl _ _) | (with_reducible refine below_setCell ?_ (by first | (simp; done) | (simp; omega) | omega)) | (with_reducible refine below_alloc _ ?_) | (with_reducible refine below_drewN ?_ _) | (with_reducible assumption) | (with_reducible refine below_after (by assumption) ?_))))) (ae1.below (by (repeat (first | (with_reducible exact Below.refl _ _) | (with_reducible refine below_setCell ?_ (by first | (simp; done) | (simp; omega) | omega)) | (with_reducible refine below_alloc _ ?_) | (with_reducible refine below_drewN ?_ _) | (with_reducible assumption) | (with_reducible refine below_after (by assumption) ?_)))))).mono ?_
    rintro e u12 ⟨rfl, k12⟩
    have m12 : Below u11.heap.size u11 u12 := below_after k12 (by (repeat (first | (with_reducible exact Below.refl _ _) | (with_reducible refine below_setCell ?_ (by first | (simp; done) | (simp; omega) | omega)) | (with_reducible refine below_alloc _ ?_) | (with_reducible refine below_drewN ?_ _) | (with_reducible assumption) | (with_reducible refine below_after (by assumption) ?_))))
    replace s0 := s0.below m12
    replace s1 := s1.below m12
    replace ag0 := ag0.below m12
    replace ag1 := ag1.below m12
    replace ae0 := ae0.below m12
    replace ae1 := ae1.below m12
    replace b := m12.mono b.size |> b.trans
    clear m12 k12
    go_wp2
    go_ret
    exact ⟨rfl, by (repeat (first | (with_reducible exact Below.refl _ _) | (with_reducible refine below_setCell ?_ (by first | (simp; done) | (simp; omega) | omega)) | (with_reducible refine below_alloc _ ?_) | (with_reducible refine below_drewN ?_ _) | (with_reducible assumption) | (with_reducible refine below_after (by assumption) ?_)))⟩

end Go.Proofs.Ytkgnogdbojefkaa.fnExactSameCells
