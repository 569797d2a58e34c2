/- The law FnExactReadOps walked: it returns true, and nothing that was there has turned. Printed by mkrops.py. -/
import Derived.Test.YtpiheobpobclgaaDoorReadOpI
import Derived.Test.YtpiheobpobclgaaDoorReadOpC
import Derived.Test.YtpiheobpobclgaaDoorMarkLOp
import Derived.Test.YtpiheobpobclgaaDoorEqOp
namespace Go.Proofs.YtpiheobpobclgaaDoor.fnExactReadOps
open Go.RowKit

set_option maxRecDepth 100000 in
set_option maxHeartbeats 6400000 in
theorem walk {w : World} (y0 : ByteArray) (by0 : y0.size ≤ maxLen) (hTab : TabW w) (hErr : ErrW w) (hMax : MaxW w) : Calls Tryd.prog 6 #[.string y0] w fun e w' => e = .returned (.bool true) ∧ Below w.heap.size w w' := by
  have hk0 : y0.size ≤ maxLen := by0
  unfold maxLen at by0
  by_cases hs0 : y0.size ≤ 1048576
  rotate_left
  · go_enter Tryd.func6, Tryd.ntmps6
    go_wp2
    go_ret
    exact ⟨rfl, by (repeat (first | (with_reducible exact Below.refl _ _) | (with_reducible refine below_setCell ?_ (by first | (simp; done) | (simp; omega) | omega)) | (with_reducible refine below_alloc _ ?_) | (with_reducible refine below_drewN ?_ _) | (with_reducible assumption) | (with_reducible refine below_after (by assumption) ?_)))⟩
  have HS := Lib.hid (fun (u : World) => readOpsS_any y0 hs0 u)
  have HI := Lib.hid (fun (u : World) (kb : Below w.heap.size w u) => readOps_any y0 hs0 u (hTab.on kb) (hErr.on kb) (hMax.on kb))
  have Hcr : Hid (costOpS ((opsQ y0).1) ≤ 1048576) := Lib.hid (opsQ_small y0)
  unfold ReadOpsPost at HS HI
  generalize (opsQ y0).1 = res at *
  generalize ((opsQ y0).2) = q at *
  have HeR := Lib.hid (fun (c : costOpS res ≤ 1048576) (a b : Value) (u : World) r1 r2 => eqOpS_any a b res u r1 r2 (by unfold costOpS at c; omega))
  have hLR := lenOp res
  obtain ⟨LR, eLR⟩ : ∃ LR, sumN LOp res = LR := ⟨_, rfl⟩
  rw [eLR] at hLR
  have HkR := Lib.hid (fun (c : 1 + LR ≤ 1073741824) (a : Value) (lo hi : Nat) (u : World) r => eLR ▸ markOpS_l 1 (by decide) a res lo hi u r (by rw [eLR]; exact c))
  have HhR := Lib.hid (fun (c : 1 + LR ≤ 1073741824) (a : Value) (u : World) (r : HeldS PT.top u a 1 LR) => heldOpS_p 1 (by decide) a LR u r c)
  clear eLR
  generalize hcostR : costOpS res = nR at *
  clear hcostR hTab hErr hMax
  cases q
  all_goals
    go_enter Tryd.func6, Tryd.ntmps6
    have hcR : nR ≤ 1048576 := Hcr.out
    go_wp2_with fail
    refine (HS.out _).mono ?_
    rintro e u1 ⟨vrw, rfl, orw, k1⟩
    have rw := (Own.mono orw (Below.size (B := w.heap.size) (w := w) (by (repeat (first | (with_reducible exact Below.refl _ _) | (with_reducible refine below_setCell ?_ (by first | (simp; done) | (simp; omega) | omega)) | (with_reducible refine below_alloc _ ?_) | (with_reducible refine below_drewN ?_ _) | (with_reducible assumption) | (with_reducible refine below_after (by assumption) ?_)))))).within
    clear orw
    have m1 : Below w.heap.size w u1 := below_after k1 (by (repeat (first | (with_reducible exact Below.refl _ _) | (with_reducible refine below_setCell ?_ (by first | (simp; done) | (simp; omega) | omega)) | (with_reducible refine below_alloc _ ?_) | (with_reducible refine below_drewN ?_ _) | (with_reducible assumption) | (with_reducible refine below_after (by assumption) ?_))))
    have z1 : w.heap.size ≤ u1.heap.size := m1.size
    have b := m1
    clear m1 k1
    go_wp2_with fail
    refine (HI.out _ (below_after (by (repeat (first | (with_reducible exact Below.refl _ _) | (with_reducible refine below_setCell ?_ (by first | (simp; done) | (simp; omega) | omega)) | (with_reducible refine below_alloc _ ?_) | (with_reducible refine below_drewN ?_ _) | (with_reducible assumption) | (with_reducible refine below_after (by assumption) ?_)))) b)).mono ?_
    rintro e u2 ⟨vrg, rfl, org, k2⟩
    have rg := (Own.mono org (Below.size (B := u1.heap.size) (w := u1) (by (repeat (first | (with_reducible exact Below.refl _ _) | (with_reducible refine below_setCell ?_ (by first | (simp; done) | (simp; omega) | omega)) | (with_reducible refine below_alloc _ ?_) | (with_reducible refine below_drewN ?_ _) | (with_reducible assumption) | (with_reducible refine below_after (by assumption) ?_)))))).within
    clear org
    have m2 : Below u1.heap.size u1 u2 := below_after k2 (by (repeat (first | (with_reducible exact Below.refl _ _) | (with_reducible refine below_setCell ?_ (by first | (simp; done) | (simp; omega) | omega)) | (with_reducible refine below_alloc _ ?_) | (with_reducible refine below_drewN ?_ _) | (with_reducible assumption) | (with_reducible refine below_after (by assumption) ?_))))
    replace rw := rw.below m2
    have z2 : u1.heap.size ≤ u2.heap.size := m2.size
    replace b := m2.mono b.size |> b.trans
    clear m2 k2
    go_wp2_with fail
    refine (HeR.out hcR _ _ _ (rg.below (by (repeat (first | (with_reducible exact Below.refl _ _) | (with_reducible refine below_setCell ?_ (by first | (simp; done) | (simp; omega) | omega)) | (with_reducible refine below_alloc _ ?_) | (with_reducible refine below_drewN ?_ _) | (with_reducible assumption) | (with_reducible refine below_after (by assumption) ?_))))).rd (rw.below (by (repeat (first | (with_reducible exact Below.refl _ _) | (with_reducible refine below_setCell ?_ (by first | (simp; done) | (simp; omega) | omega)) | (with_reducible refine below_alloc _ ?_) | (with_reducible refine below_drewN ?_ _) | (with_reducible assumption) | (with_reducible refine below_after (by assumption) ?_))))).rd).mono ?_
    rintro e u3 ⟨rfl, k3⟩
    have m3 : Below u2.heap.size u2 u3 := below_after k3 (by (repeat (first | (with_reducible exact Below.refl _ _) | (with_reducible refine below_setCell ?_ (by first | (simp; done) | (simp; omega) | omega)) | (with_reducible refine below_alloc _ ?_) | (with_reducible refine below_drewN ?_ _) | (with_reducible assumption) | (with_reducible refine below_after (by assumption) ?_))))
    replace rw := rw.below m3
    replace rg := rg.below m3
    have z3 : u2.heap.size ≤ u3.heap.size := m3.size
    replace b := m3.mono b.size |> b.trans
    clear m3 k3
    go_wp2_with fail
    refine (HkR.out (by omega) _ _ _ _ (rg.below (by (repeat (first | (with_reducible exact Below.refl _ _) | (with_reducible refine below_setCell ?_ (by first | (simp; done) | (simp; omega) | omega)) | (with_reducible refine below_alloc _ ?_) | (with_reducible refine below_drewN ?_ _) | (with_reducible assumption) | (with_reducible refine below_after (by assumption) ?_)))))).mono ?_
    rintro e u4 ⟨rfl, hhrg, t4⟩
    replace rw := (rw.below (by (repeat (first | (with_reducible exact Below.refl _ _) | (with_reducible refine below_setCell ?_ (by first | (simp; done) | (simp; omega) | omega)) | (with_reducible refine below_alloc _ ?_) | (with_reducible refine below_drewN ?_ _) | (with_reducible assumption) | (with_reducible refine below_after (by assumption) ?_))))).turn t4 (by omega)
    replace b := Turn.below t4 (by omega) (below_after (by (repeat (first | (with_reducible exact Below.refl _ _) | (with_reducible refine below_setCell ?_ (by first | (simp; done) | (simp; omega) | omega)) | (with_reducible refine below_alloc _ ?_) | (with_reducible refine below_drewN ?_ _) | (with_reducible assumption) | (with_reducible refine below_after (by assumption) ?_)))) b)
    have z4 : u3.heap.size ≤ u4.heap.size := Nat.le_trans (Below.size (B := u3.heap.size) (w := u3) (by (repeat (first | (with_reducible exact Below.refl _ _) | (with_reducible refine below_setCell ?_ (by first | (simp; done) | (simp; omega) | omega)) | (with_reducible refine below_alloc _ ?_) | (with_reducible refine below_drewN ?_ _) | (with_reducible assumption) | (with_reducible refine below_after (by assumption) ?_))))) t4.size
    clear t4 rg
    obtain ⟨KR, hKR⟩ : ∃ KR : Nat, 1 + LR = KR := ⟨_, rfl⟩
    have hKRn : (0 : Int) ≤ (KR : Int) := by omega
    rw [hKR] at HhR ⊢
    have hKRu : KR ≤ 1073741824 := by omega
    clear hKR
    go_wp2_with fail
    refine (HhR.out hKRu _ _ (hhrg.below (by (repeat (first | (with_reducible exact Below.refl _ _) | (with_reducible refine below_setCell ?_ (by first | (simp; done) | (simp; omega) | omega)) | (with_reducible refine below_alloc _ ?_) | (with_reducible refine below_drewN ?_ _) | (with_reducible assumption) | (with_reducible refine below_after (by assumption) ?_)))))).mono ?_
    rintro e u5 ⟨rfl, k5⟩
    have m5 : Below u4.heap.size u4 u5 := below_after k5 (by (repeat (first | (with_reducible exact Below.refl _ _) | (with_reducible refine below_setCell ?_ (by first | (simp; done) | (simp; omega) | omega)) | (with_reducible refine below_alloc _ ?_) | (with_reducible refine below_drewN ?_ _) | (with_reducible assumption) | (with_reducible refine below_after (by assumption) ?_))))
    replace rw := rw.below m5
    replace hhrg := hhrg.below m5
    have z5 : u4.heap.size ≤ u5.heap.size := m5.size
    replace b := m5.mono b.size |> b.trans
    clear m5 k5
    go_wp2_with fail
    refine (HI.out _ (below_after (by (repeat (first | (with_reducible exact Below.refl _ _) | (with_reducible refine below_setCell ?_ (by first | (simp; done) | (simp; omega) | omega)) | (with_reducible refine below_alloc _ ?_) | (with_reducible refine below_drewN ?_ _) | (with_reducible assumption) | (with_reducible refine below_after (by assumption) ?_)))) b)).mono ?_
    rintro e u6 ⟨vrh, rfl, orh, k6⟩
    have rh := (Own.mono orh (Below.size (B := u5.heap.size) (w := u5) (by (repeat (first | (with_reducible exact Below.refl _ _) | (with_reducible refine below_setCell ?_ (by first | (simp; done) | (simp; omega) | omega)) | (with_reducible refine below_alloc _ ?_) | (with_reducible refine below_drewN ?_ _) | (with_reducible assumption) | (with_reducible refine below_after (by assumption) ?_)))))).within
    clear orh
    have m6 : Below u5.heap.size u5 u6 := below_after k6 (by (repeat (first | (with_reducible exact Below.refl _ _) | (with_reducible refine below_setCell ?_ (by first | (simp; done) | (simp; omega) | omega)) | (with_reducible refine below_alloc _ ?_) | (with_reducible refine below_drewN ?_ _) | (with_reducible assumption) | (with_reducible refine below_after (by assumption) ?_))))
    replace rw := rw.below m6
    replace hhrg := hhrg.below m6
    have z6 : u5.heap.size ≤ u6.heap.size := m6.size
    replace b := m6.mono b.size |> b.trans
    clear m6 k6
    go_wp2_with fail
    refine (HeR.out hcR _ _ _ (rh.below (by (repeat (first | (with_reducible exact Below.refl _ _) | (with_reducible refine below_setCell ?_ (by first | (simp; done) | (simp; omega) | omega)) | (with_reducible refine below_alloc _ ?_) | (with_reducible refine below_drewN ?_ _) | (with_reducible assumption) | (with_reducible refine below_after (by assumption) ?_))))).rd (rw.below (by (repeat (first | (with_reducible exact Below.refl _ _) | (with_reducible refine below_setCell ?_ (by first | (simp; done) | (simp; omega) | omega)) | (with_reducible refine below_alloc _ ?_) | (with_reducible refine below_drewN ?_ _) | (with_reducible assumption) | (with_reducible refine below_after (by assumption) ?_))))).rd).mono ?_
    rintro e u7 ⟨rfl, k7⟩
    have m7 : Below u6.heap.size u6 u7 := below_after k7 (by (repeat (first | (with_reducible exact Below.refl _ _) | (with_reducible refine below_setCell ?_ (by first | (simp; done) | (simp; omega) | omega)) | (with_reducible refine below_alloc _ ?_) | (with_reducible refine below_drewN ?_ _) | (with_reducible assumption) | (with_reducible refine below_after (by assumption) ?_))))
    replace rw := rw.below m7
    replace hhrg := hhrg.below m7
    replace rh := rh.below m7
    have z7 : u6.heap.size ≤ u7.heap.size := m7.size
    replace b := m7.mono b.size |> b.trans
    clear m7 k7
    go_wp2_with fail
    refine (HhR.out hKRu _ _ (hhrg.below (by (repeat (first | (with_reducible exact Below.refl _ _) | (with_reducible refine below_setCell ?_ (by first | (simp; done) | (simp; omega) | omega)) | (with_reducible refine below_alloc _ ?_) | (with_reducible refine below_drewN ?_ _) | (with_reducible assumption) | (with_reducible refine below_after (by assumption) ?_)))))).mono ?_
    rintro e u8 ⟨rfl, k8⟩
    have m8 : Below u7.heap.size u7 u8 := below_after k8 (by (repeat (first | (with_reducible exact Below.refl _ _) | (with_reducible refine below_setCell ?_ (by first | (simp; done) | (simp; omega) | omega)) | (with_reducible refine below_alloc _ ?_) | (with_reducible refine below_drewN ?_ _) | (with_reducible assumption) | (with_reducible refine below_after (by assumption) ?_))))
    replace rw := rw.below m8
    replace hhrg := hhrg.below m8
    replace rh := rh.below m8
    have z8 : u7.heap.size ≤ u8.heap.size := m8.size
    replace b := m8.mono b.size |> b.trans
    clear m8 k8
    go_wp2
    go_ret
    exact ⟨rfl, below_after (by (repeat (first | (with_reducible exact Below.refl _ _) | (with_reducible refine below_setCell ?_ (by first | (simp; done) | (simp; omega) | omega)) | (with_reducible refine below_alloc _ ?_) | (with_reducible refine below_drewN ?_ _) | (with_reducible assumption) | (with_reducible refine below_after (by assumption) ?_)))) b⟩

end Go.Proofs.YtpiheobpobclgaaDoor.fnExactReadOps
