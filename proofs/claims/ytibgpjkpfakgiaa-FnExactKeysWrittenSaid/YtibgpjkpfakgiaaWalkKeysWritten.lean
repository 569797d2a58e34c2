/- The law FnExactKeysWritten walked: it returns true, and nothing that was there has turned. Printed by mkfresh.py. -/
import Derived.Test.YtibgpjkpfakgiaaKeysWr
import Derived.Test.YtibgpjkpfakgiaaSzOp
import Derived.Test.YtibgpjkpfakgiaaToOp
import Derived.Test.YtibgpjkpfakgiaaEqOp
import Derived.Test.YtibgpjkpfakgiaaMarkLOp
import Derived.Test.YtibgpjkpfakgiaaMarkLString
import Derived.Test.YtibgpjkpfakgiaaEqStr
import Derived.Test.YtibgpjkpfakgiaaLawM
namespace Go.Proofs.Ytibgpjkpfakgiaa.fnExactKeysWritten
open Go.RowKit

set_option maxRecDepth 100000 in
set_option maxHeartbeats 6400000 in
theorem walk {w : World} (v0 : Value) (y0 : List OpD) (s0 : Rd Cod.op w v0 y0) (_ : True) : Calls Try.prog 6 #[v0] w fun e w' => e = .returned (.bool true) ∧ Below w.heap.size w w' := by
  have Hs0 := Lib.hid (fun (z : Int) (h0 : 0 ≤ z) (h1 : z ≤ 1048576) (u : World) r => szOpS_any v0 y0 z h0 h1 u r)
  have Ht0 := Lib.hid (fun (c : costOpS y0 ≤ 1048576) (u : World) r => toOpS_any v0 y0 c u r)
  have He0 := Lib.hid (fun (c : costOpS y0 ≤ 1048576) (a b : Value) (u : World) r1 r2 => eqOpS_any a b y0 u r1 r2 (by unfold costOpS at c; omega))
  have Hk0 := Lib.hid (fun (k0 : Nat) (h0 : 0 < k0) (c : k0 + sumN LOp y0 ≤ 1073741824) (a : Value) (lo hi : Nat) (u : World) r => markOpS_l k0 h0 a y0 lo hi u r c)
  have hL0 := lenOp y0
  have HS := Lib.hid (fun (c0 : costOpS y0 ≤ 1048576) (u : World) (x0 : Value) r0 => keysWrittenS_any x0 y0 c0 u r0)
  have HI := Lib.hid (fun (c0 : costOpS y0 ≤ 1048576) (u : World) (x0 : Value) r0 => keysWrittenX_any x0 y0 c0 u r0)
  have Hcr : Hid (costOpS y0 ≤ 1048576 → costStringS (pickL (goodOB y0) (setL (wkeys y0))) ≤ 1048576) := Lib.hid (fun c0 => Nat.le_trans (pick_costString _ _) (Nat.le_trans (setL_cost _) (Nat.le_trans (wkeys_cost y0) c0)))
  generalize pickL (goodOB y0) (setL (wkeys y0)) = res at *
  generalize (goodOB y0) = q at *
  have HeR := Lib.hid (fun (c : costStringS res ≤ 1048576) (a b : Value) (u : World) r1 r2 => eqStringSR_any a b res u r1 r2 (by unfold costStringS at c; omega))
  have hLR := lenString res
  obtain ⟨LR, eLR⟩ : ∃ LR, sumN LString res = LR := ⟨_, rfl⟩
  rw [eLR] at hLR
  have HkR := Lib.hid (fun (c : 1 + LR ≤ 1073741824) (a : Value) (lo hi : Nat) (u : World) r => eLR ▸ markStringS_l 1 (by decide) a res lo hi u r (by rw [eLR]; exact c))
  have HhR := Lib.hid (fun (c : 1 + LR ≤ 1073741824) (a : Value) (u : World) (r : HeldS PT.tstr u a 1 LR) => heldStringS_p 1 (by decide) a LR u r c)
  clear eLR
  generalize hcost0 : costOpS y0 = n0 at *
  generalize hlen0 : sumN LOp y0 = l0 at *
  generalize hcostR : costStringS res = nR at *
  clear hcost0 hlen0
  clear hcostR
  cases q
  all_goals
    go_enter Try.func6, Try.ntmps6
    replace s0 := s0.within
    go_wp2_with fail
    refine (Hs0.out _ (by omega) (by omega) _ (s0.below (by (repeat (first | (with_reducible exact Below.refl _ _) | (with_reducible refine below_setCell ?_ (by first | (simp; done) | (simp; omega) | omega)) | (with_reducible refine below_alloc _ ?_) | (with_reducible refine below_drewN ?_ _) | (with_reducible assumption) | (with_reducible refine below_after (by assumption) ?_))))).rd).mono ?_
    rintro e u1 ⟨k1, ⟨rfl, hz0⟩ | ⟨rfl, hz0⟩⟩
    rotate_left
    · go_wp2
      go_ret
      exact ⟨rfl, below_after k1 (by (repeat (first | (with_reducible exact Below.refl _ _) | (with_reducible refine below_setCell ?_ (by first | (simp; done) | (simp; omega) | omega)) | (with_reducible refine below_alloc _ ?_) | (with_reducible refine below_drewN ?_ _) | (with_reducible assumption) | (with_reducible refine below_after (by assumption) ?_))))⟩
    have m1 : Below w.heap.size w u1 := below_after k1 (by (repeat (first | (with_reducible exact Below.refl _ _) | (with_reducible refine below_setCell ?_ (by first | (simp; done) | (simp; omega) | omega)) | (with_reducible refine below_alloc _ ?_) | (with_reducible refine below_drewN ?_ _) | (with_reducible assumption) | (with_reducible refine below_after (by assumption) ?_))))
    replace s0 := s0.below m1
    have z1 : w.heap.size ≤ u1.heap.size := m1.size
    have b := m1
    clear m1 k1
    have hc0 : n0 ≤ 1048576 := by omega
    have hcR : nR ≤ 1048576 := Hcr.out hc0
    go_wp2_with fail
    refine (Ht0.out hc0 _ (s0.below (by (repeat (first | (with_reducible exact Below.refl _ _) | (with_reducible refine below_setCell ?_ (by first | (simp; done) | (simp; omega) | omega)) | (with_reducible refine below_alloc _ ?_) | (with_reducible refine below_drewN ?_ _) | (with_reducible assumption) | (with_reducible refine below_after (by assumption) ?_))))).rd).mono ?_
    rintro e u2 ⟨vaw0, rfl, oaw0, k2⟩
    have aw0 := (Own.mono oaw0 (Below.size (B := u1.heap.size) (w := u1) (by (repeat (first | (with_reducible exact Below.refl _ _) | (with_reducible refine below_setCell ?_ (by first | (simp; done) | (simp; omega) | omega)) | (with_reducible refine below_alloc _ ?_) | (with_reducible refine below_drewN ?_ _) | (with_reducible assumption) | (with_reducible refine below_after (by assumption) ?_)))))).within
    clear oaw0
    have m2 : Below u1.heap.size u1 u2 := below_after k2 (by (repeat (first | (with_reducible exact Below.refl _ _) | (with_reducible refine below_setCell ?_ (by first | (simp; done) | (simp; omega) | omega)) | (with_reducible refine below_alloc _ ?_) | (with_reducible refine below_drewN ?_ _) | (with_reducible assumption) | (with_reducible refine below_after (by assumption) ?_))))
    replace s0 := s0.below m2
    have z2 : u1.heap.size ≤ u2.heap.size := m2.size
    replace b := m2.mono b.size |> b.trans
    clear m2 k2
    go_wp2_with fail
    refine (HS.out hc0 _ _ (aw0.below (by (repeat (first | (with_reducible exact Below.refl _ _) | (with_reducible refine below_setCell ?_ (by first | (simp; done) | (simp; omega) | omega)) | (with_reducible refine below_alloc _ ?_) | (with_reducible refine below_drewN ?_ _) | (with_reducible assumption) | (with_reducible refine below_after (by assumption) ?_))))).rd).mono ?_
    rintro e u3 ⟨vrw, rfl, orw, k3⟩
    have rw := (Own.mono orw (Below.size (B := u2.heap.size) (w := u2) (by (repeat (first | (with_reducible exact Below.refl _ _) | (with_reducible refine below_setCell ?_ (by first | (simp; done) | (simp; omega) | omega)) | (with_reducible refine below_alloc _ ?_) | (with_reducible refine below_drewN ?_ _) | (with_reducible assumption) | (with_reducible refine below_after (by assumption) ?_)))))).within
    clear orw
    have m3 : Below u2.heap.size u2 u3 := below_after k3 (by (repeat (first | (with_reducible exact Below.refl _ _) | (with_reducible refine below_setCell ?_ (by first | (simp; done) | (simp; omega) | omega)) | (with_reducible refine below_alloc _ ?_) | (with_reducible refine below_drewN ?_ _) | (with_reducible assumption) | (with_reducible refine below_after (by assumption) ?_))))
    replace s0 := s0.below m3
    replace aw0 := aw0.below m3
    have z3 : u2.heap.size ≤ u3.heap.size := m3.size
    replace b := m3.mono b.size |> b.trans
    clear m3 k3
    clear aw0
    go_wp2_with fail
    refine (Ht0.out hc0 _ (s0.below (by (repeat (first | (with_reducible exact Below.refl _ _) | (with_reducible refine below_setCell ?_ (by first | (simp; done) | (simp; omega) | omega)) | (with_reducible refine below_alloc _ ?_) | (with_reducible refine below_drewN ?_ _) | (with_reducible assumption) | (with_reducible refine below_after (by assumption) ?_))))).rd).mono ?_
    rintro e u4 ⟨vax0, rfl, oax0, k4⟩
    have ax0 := (Own.mono oax0 (Below.size (B := u3.heap.size) (w := u3) (by (repeat (first | (with_reducible exact Below.refl _ _) | (with_reducible refine below_setCell ?_ (by first | (simp; done) | (simp; omega) | omega)) | (with_reducible refine below_alloc _ ?_) | (with_reducible refine below_drewN ?_ _) | (with_reducible assumption) | (with_reducible refine below_after (by assumption) ?_)))))).within
    clear oax0
    have m4 : Below u3.heap.size u3 u4 := below_after k4 (by (repeat (first | (with_reducible exact Below.refl _ _) | (with_reducible refine below_setCell ?_ (by first | (simp; done) | (simp; omega) | omega)) | (with_reducible refine below_alloc _ ?_) | (with_reducible refine below_drewN ?_ _) | (with_reducible assumption) | (with_reducible refine below_after (by assumption) ?_))))
    replace s0 := s0.below m4
    replace rw := rw.below m4
    have z4 : u3.heap.size ≤ u4.heap.size := m4.size
    replace b := m4.mono b.size |> b.trans
    clear m4 k4
    go_wp2_with fail
    refine (HI.out hc0 _ _ (ax0.below (by (repeat (first | (with_reducible exact Below.refl _ _) | (with_reducible refine below_setCell ?_ (by first | (simp; done) | (simp; omega) | omega)) | (with_reducible refine below_alloc _ ?_) | (with_reducible refine below_drewN ?_ _) | (with_reducible assumption) | (with_reducible refine below_after (by assumption) ?_))))).rd).mono ?_
    rintro e u5 ⟨vrg, rfl, org, k5⟩
    have rg := (Own.mono org (Below.size (B := u4.heap.size) (w := u4) (by (repeat (first | (with_reducible exact Below.refl _ _) | (with_reducible refine below_setCell ?_ (by first | (simp; done) | (simp; omega) | omega)) | (with_reducible refine below_alloc _ ?_) | (with_reducible refine below_drewN ?_ _) | (with_reducible assumption) | (with_reducible refine below_after (by assumption) ?_)))))).within
    clear org
    have m5 : Below u4.heap.size u4 u5 := below_after k5 (by (repeat (first | (with_reducible exact Below.refl _ _) | (with_reducible refine below_setCell ?_ (by first | (simp; done) | (simp; omega) | omega)) | (with_reducible refine below_alloc _ ?_) | (with_reducible refine below_drewN ?_ _) | (with_reducible assumption) | (with_reducible refine below_after (by assumption) ?_))))
    replace s0 := s0.below m5
    replace rw := rw.below m5
    replace ax0 := ax0.below m5
    have z5 : u4.heap.size ≤ u5.heap.size := m5.size
    replace b := m5.mono b.size |> b.trans
    clear m5 k5
    go_wp2_with fail
    refine (HeR.out hcR _ _ _ (rg.below (by (repeat (first | (with_reducible exact Below.refl _ _) | (with_reducible refine below_setCell ?_ (by first | (simp; done) | (simp; omega) | omega)) | (with_reducible refine below_alloc _ ?_) | (with_reducible refine below_drewN ?_ _) | (with_reducible assumption) | (with_reducible refine below_after (by assumption) ?_))))).rd (rw.below (by (repeat (first | (with_reducible exact Below.refl _ _) | (with_reducible refine below_setCell ?_ (by first | (simp; done) | (simp; omega) | omega)) | (with_reducible refine below_alloc _ ?_) | (with_reducible refine below_drewN ?_ _) | (with_reducible assumption) | (with_reducible refine below_after (by assumption) ?_))))).rd).mono ?_
    rintro e u6 ⟨rfl, k6⟩
    have m6 : Below u5.heap.size u5 u6 := below_after k6 (by (repeat (first | (with_reducible exact Below.refl _ _) | (with_reducible refine below_setCell ?_ (by first | (simp; done) | (simp; omega) | omega)) | (with_reducible refine below_alloc _ ?_) | (with_reducible refine below_drewN ?_ _) | (with_reducible assumption) | (with_reducible refine below_after (by assumption) ?_))))
    replace s0 := s0.below m6
    replace rw := rw.below m6
    replace ax0 := ax0.below m6
    replace rg := rg.below m6
    have z6 : u5.heap.size ≤ u6.heap.size := m6.size
    replace b := m6.mono b.size |> b.trans
    clear m6 k6
    go_wp2_with fail
    refine (Ht0.out hc0 _ (s0.below (by (repeat (first | (with_reducible exact Below.refl _ _) | (with_reducible refine below_setCell ?_ (by first | (simp; done) | (simp; omega) | omega)) | (with_reducible refine below_alloc _ ?_) | (with_reducible refine below_drewN ?_ _) | (with_reducible assumption) | (with_reducible refine below_after (by assumption) ?_))))).rd).mono ?_
    rintro e u7 ⟨vae0, rfl, oae0, k7⟩
    have ae0 := (Own.mono oae0 (Below.size (B := u6.heap.size) (w := u6) (by (repeat (first | (with_reducible exact Below.refl _ _) | (with_reducible refine below_setCell ?_ (by first | (simp; done) | (simp; omega) | omega)) | (with_reducible refine below_alloc _ ?_) | (with_reducible refine below_drewN ?_ _) | (with_reducible assumption) | (with_reducible refine below_after (by assumption) ?_)))))).within
    clear oae0
    have m7 : Below u6.heap.size u6 u7 := below_after k7 (by (repeat (first | (with_reducible exact Below.refl _ _) | (with_reducible refine below_setCell ?_ (by first | (simp; done) | (simp; omega) | omega)) | (with_reducible refine below_alloc _ ?_) | (with_reducible refine below_drewN ?_ _) | (with_reducible assumption) | (with_reducible refine below_after (by assumption) ?_))))
    replace s0 := s0.below m7
    replace rw := rw.below m7
    replace ax0 := ax0.below m7
    replace rg := rg.below m7
    have z7 : u6.heap.size ≤ u7.heap.size := m7.size
    replace b := m7.mono b.size |> b.trans
    clear m7 k7
    go_wp2_with fail
    refine (He0.out hc0 _ _ _ (ax0.below (by (repeat (first | (with_reducible exact Below.refl _ _) | (with_reducible refine below_setCell ?_ (by first | (simp; done) | (simp; omega) | omega)) | (with_reducible refine below_alloc _ ?_) | (with_reducible refine below_drewN ?_ _) | (with_reducible assumption) | (with_reducible refine below_after (by assumption) ?_))))).rd (ae0.below (by (repeat (first | (with_reducible exact Below.refl _ _) | (with_reducible refine below_setCell ?_ (by first | (simp; done) | (simp; omega) | omega)) | (with_reducible refine below_alloc _ ?_) | (with_reducible refine below_drewN ?_ _) | (with_reducible assumption) | (with_reducible refine below_after (by assumption) ?_))))).rd).mono ?_
    rintro e u8 ⟨rfl, k8⟩
    have m8 : Below u7.heap.size u7 u8 := below_after k8 (by (repeat (first | (with_reducible exact Below.refl _ _) | (with_reducible refine below_setCell ?_ (by first | (simp; done) | (simp; omega) | omega)) | (with_reducible refine below_alloc _ ?_) | (with_reducible refine below_drewN ?_ _) | (with_reducible assumption) | (with_reducible refine below_after (by assumption) ?_))))
    replace s0 := s0.below m8
    replace rw := rw.below m8
    replace ax0 := ax0.below m8
    replace rg := rg.below m8
    replace ae0 := ae0.below m8
    have z8 : u7.heap.size ≤ u8.heap.size := m8.size
    replace b := m8.mono b.size |> b.trans
    clear m8 k8
    clear ae0
    go_wp2_with fail
    refine (Hk0.out 1 (by omega) (by omega) _ _ _ _ (ax0.below (by (repeat (first | (with_reducible exact Below.refl _ _) | (with_reducible refine below_setCell ?_ (by first | (simp; done) | (simp; omega) | omega)) | (with_reducible refine below_alloc _ ?_) | (with_reducible refine below_drewN ?_ _) | (with_reducible assumption) | (with_reducible refine below_after (by assumption) ?_)))))).mono ?_
    rintro e u9 ⟨rfl, hhax0, t9⟩
    replace s0 := (s0.below (by (repeat (first | (with_reducible exact Below.refl _ _) | (with_reducible refine below_setCell ?_ (by first | (simp; done) | (simp; omega) | omega)) | (with_reducible refine below_alloc _ ?_) | (with_reducible refine below_drewN ?_ _) | (with_reducible assumption) | (with_reducible refine below_after (by assumption) ?_))))).turn t9 (by omega)
    replace rw := (rw.below (by (repeat (first | (with_reducible exact Below.refl _ _) | (with_reducible refine below_setCell ?_ (by first | (simp; done) | (simp; omega) | omega)) | (with_reducible refine below_alloc _ ?_) | (with_reducible refine below_drewN ?_ _) | (with_reducible assumption) | (with_reducible refine below_after (by assumption) ?_))))).turn t9 (by omega)
    replace rg := (rg.below (by (repeat (first | (with_reducible exact Below.refl _ _) | (with_reducible refine below_setCell ?_ (by first | (simp; done) | (simp; omega) | omega)) | (with_reducible refine below_alloc _ ?_) | (with_reducible refine below_drewN ?_ _) | (with_reducible assumption) | (with_reducible refine below_after (by assumption) ?_))))).turn t9 (by omega)
    replace b := Turn.below t9 (by omega) (below_after (by (repeat (first | (with_reducible exact Below.refl _ _) | (with_reducible refine below_setCell ?_ (by first | (simp; done) | (simp; omega) | omega)) | (with_reducible refine below_alloc _ ?_) | (with_reducible refine below_drewN ?_ _) | (with_reducible assumption) | (with_reducible refine below_after (by assumption) ?_)))) b)
    have z9 : u8.heap.size ≤ u9.heap.size := Nat.le_trans (Below.size (B := u8.heap.size) (w := u8) (by (repeat (first | (with_reducible exact Below.refl _ _) | (with_reducible refine below_setCell ?_ (by first | (simp; done) | (simp; omega) | omega)) | (with_reducible refine below_alloc _ ?_) | (with_reducible refine below_drewN ?_ _) | (with_reducible assumption) | (with_reducible refine below_after (by assumption) ?_))))) t9.size
    clear t9 ax0 hhax0
    obtain ⟨K0, hK0⟩ : ∃ K0 : Nat, 1 + l0 = K0 := ⟨_, rfl⟩
    rw [hK0]
    have hK0n : (0 : Int) ≤ (K0 : Int) := by omega
    have hK0b : K0 = 1 + l0 := hK0.symm
    have HK0 := Lib.hid hK0b
    have hK0u : K0 ≤ 12582920 := by omega
    have hK0p : 0 < K0 := by omega
    clear hK0 hK0b
    go_wp2_with fail
    refine (HeR.out hcR _ _ _ (rg.below (by (repeat (first | (with_reducible exact Below.refl _ _) | (with_reducible refine below_setCell ?_ (by first | (simp; done) | (simp; omega) | omega)) | (with_reducible refine below_alloc _ ?_) | (with_reducible refine below_drewN ?_ _) | (with_reducible assumption) | (with_reducible refine below_after (by assumption) ?_))))).rd (rw.below (by (repeat (first | (with_reducible exact Below.refl _ _) | (with_reducible refine below_setCell ?_ (by first | (simp; done) | (simp; omega) | omega)) | (with_reducible refine below_alloc _ ?_) | (with_reducible refine below_drewN ?_ _) | (with_reducible assumption) | (with_reducible refine below_after (by assumption) ?_))))).rd).mono ?_
    rintro e u10 ⟨rfl, k10⟩
    have m10 : Below u9.heap.size u9 u10 := below_after k10 (by (repeat (first | (with_reducible exact Below.refl _ _) | (with_reducible refine below_setCell ?_ (by first | (simp; done) | (simp; omega) | omega)) | (with_reducible refine below_alloc _ ?_) | (with_reducible refine below_drewN ?_ _) | (with_reducible assumption) | (with_reducible refine below_after (by assumption) ?_))))
    replace s0 := s0.below m10
    replace rw := rw.below m10
    replace rg := rg.below m10
    have z10 : u9.heap.size ≤ u10.heap.size := m10.size
    replace b := m10.mono b.size |> b.trans
    clear m10 k10
    go_wp2_with fail
    refine (HkR.out (by omega) _ _ _ _ (rg.below (by (repeat (first | (with_reducible exact Below.refl _ _) | (with_reducible refine below_setCell ?_ (by first | (simp; done) | (simp; omega) | omega)) | (with_reducible refine below_alloc _ ?_) | (with_reducible refine below_drewN ?_ _) | (with_reducible assumption) | (with_reducible refine below_after (by assumption) ?_)))))).mono ?_
    rintro e u11 ⟨rfl, hhrg, t11⟩
    replace s0 := (s0.below (by (repeat (first | (with_reducible exact Below.refl _ _) | (with_reducible refine below_setCell ?_ (by first | (simp; done) | (simp; omega) | omega)) | (with_reducible refine below_alloc _ ?_) | (with_reducible refine below_drewN ?_ _) | (with_reducible assumption) | (with_reducible refine below_after (by assumption) ?_))))).turn t11 (by omega)
    replace rw := (rw.below (by (repeat (first | (with_reducible exact Below.refl _ _) | (with_reducible refine below_setCell ?_ (by first | (simp; done) | (simp; omega) | omega)) | (with_reducible refine below_alloc _ ?_) | (with_reducible refine below_drewN ?_ _) | (with_reducible assumption) | (with_reducible refine below_after (by assumption) ?_))))).turn t11 (by omega)
    replace b := Turn.below t11 (by omega) (below_after (by (repeat (first | (with_reducible exact Below.refl _ _) | (with_reducible refine below_setCell ?_ (by first | (simp; done) | (simp; omega) | omega)) | (with_reducible refine below_alloc _ ?_) | (with_reducible refine below_drewN ?_ _) | (with_reducible assumption) | (with_reducible refine below_after (by assumption) ?_)))) b)
    have z11 : u10.heap.size ≤ u11.heap.size := Nat.le_trans (Below.size (B := u10.heap.size) (w := u10) (by (repeat (first | (with_reducible exact Below.refl _ _) | (with_reducible refine below_setCell ?_ (by first | (simp; done) | (simp; omega) | omega)) | (with_reducible refine below_alloc _ ?_) | (with_reducible refine below_drewN ?_ _) | (with_reducible assumption) | (with_reducible refine below_after (by assumption) ?_))))) t11.size
    clear t11 rg
    obtain ⟨KR, hKR⟩ : ∃ KR : Nat, 1 + LR = KR := ⟨_, rfl⟩
    have hKRn : (0 : Int) ≤ (KR : Int) := by omega
    rw [hKR] at HhR ⊢
    have hKRu : KR ≤ 1073741824 := by omega
    clear hKR
    go_wp2_with fail
    refine (HhR.out hKRu _ _ (hhrg.below (by (repeat (first | (with_reducible exact Below.refl _ _) | (with_reducible refine below_setCell ?_ (by first | (simp; done) | (simp; omega) | omega)) | (with_reducible refine below_alloc _ ?_) | (with_reducible refine below_drewN ?_ _) | (with_reducible assumption) | (with_reducible refine below_after (by assumption) ?_)))))).mono ?_
    rintro e u12 ⟨rfl, k12⟩
    have m12 : Below u11.heap.size u11 u12 := below_after k12 (by (repeat (first | (with_reducible exact Below.refl _ _) | (with_reducible refine below_setCell ?_ (by first | (simp; done) | (simp; omega) | omega)) | (with_reducible refine below_alloc _ ?_) | (with_reducible refine below_drewN ?_ _) | (with_reducible assumption) | (with_reducible refine below_after (by assumption) ?_))))
    replace s0 := s0.below m12
    replace rw := rw.below m12
    replace hhrg := hhrg.below m12
    have z12 : u11.heap.size ≤ u12.heap.size := m12.size
    replace b := m12.mono b.size |> b.trans
    clear m12 k12
    go_wp2_with fail
    refine (Ht0.out hc0 _ (s0.below (by (repeat (first | (with_reducible exact Below.refl _ _) | (with_reducible refine below_setCell ?_ (by first | (simp; done) | (simp; omega) | omega)) | (with_reducible refine below_alloc _ ?_) | (with_reducible refine below_drewN ?_ _) | (with_reducible assumption) | (with_reducible refine below_after (by assumption) ?_))))).rd).mono ?_
    rintro e u13 ⟨vay0, rfl, oay0, k13⟩
    have ay0 := (Own.mono oay0 (Below.size (B := u12.heap.size) (w := u12) (by (repeat (first | (with_reducible exact Below.refl _ _) | (with_reducible refine below_setCell ?_ (by first | (simp; done) | (simp; omega) | omega)) | (with_reducible refine below_alloc _ ?_) | (with_reducible refine below_drewN ?_ _) | (with_reducible assumption) | (with_reducible refine below_after (by assumption) ?_)))))).within
    clear oay0
    have m13 : Below u12.heap.size u12 u13 := below_after k13 (by (repeat (first | (with_reducible exact Below.refl _ _) | (with_reducible refine below_setCell ?_ (by first | (simp; done) | (simp; omega) | omega)) | (with_reducible refine below_alloc _ ?_) | (with_reducible refine below_drewN ?_ _) | (with_reducible assumption) | (with_reducible refine below_after (by assumption) ?_))))
    replace s0 := s0.below m13
    replace rw := rw.below m13
    replace hhrg := hhrg.below m13
    have z13 : u12.heap.size ≤ u13.heap.size := m13.size
    replace b := m13.mono b.size |> b.trans
    clear m13 k13
    go_wp2_with fail
    refine (HI.out hc0 _ _ (ay0.below (by (repeat (first | (with_reducible exact Below.refl _ _) | (with_reducible refine below_setCell ?_ (by first | (simp; done) | (simp; omega) | omega)) | (with_reducible refine below_alloc _ ?_) | (with_reducible refine below_drewN ?_ _) | (with_reducible assumption) | (with_reducible refine below_after (by assumption) ?_))))).rd).mono ?_
    rintro e u14 ⟨vrh, rfl, orh, k14⟩
    have rh := (Own.mono orh (Below.size (B := u13.heap.size) (w := u13) (by (repeat (first | (with_reducible exact Below.refl _ _) | (with_reducible refine below_setCell ?_ (by first | (simp; done) | (simp; omega) | omega)) | (with_reducible refine below_alloc _ ?_) | (with_reducible refine below_drewN ?_ _) | (with_reducible assumption) | (with_reducible refine below_after (by assumption) ?_)))))).within
    clear orh
    have m14 : Below u13.heap.size u13 u14 := below_after k14 (by (repeat (first | (with_reducible exact Below.refl _ _) | (with_reducible refine below_setCell ?_ (by first | (simp; done) | (simp; omega) | omega)) | (with_reducible refine below_alloc _ ?_) | (with_reducible refine below_drewN ?_ _) | (with_reducible assumption) | (with_reducible refine below_after (by assumption) ?_))))
    replace s0 := s0.below m14
    replace rw := rw.below m14
    replace hhrg := hhrg.below m14
    replace ay0 := ay0.below m14
    have z14 : u13.heap.size ≤ u14.heap.size := m14.size
    replace b := m14.mono b.size |> b.trans
    clear m14 k14
    clear ay0
    go_wp2_with fail
    refine (HeR.out hcR _ _ _ (rh.below (by (repeat (first | (with_reducible exact Below.refl _ _) | (with_reducible refine below_setCell ?_ (by first | (simp; done) | (simp; omega) | omega)) | (with_reducible refine below_alloc _ ?_) | (with_reducible refine below_drewN ?_ _) | (with_reducible assumption) | (with_reducible refine below_after (by assumption) ?_))))).rd (rw.below (by (repeat (first | (with_reducible exact Below.refl _ _) | (with_reducible refine below_setCell ?_ (by first | (simp; done) | (simp; omega) | omega)) | (with_reducible refine below_alloc _ ?_) | (with_reducible refine below_drewN ?_ _) | (with_reducible assumption) | (with_reducible refine below_after (by assumption) ?_))))).rd).mono ?_
    rintro e u15 ⟨rfl, k15⟩
    have m15 : Below u14.heap.size u14 u15 := below_after k15 (by (repeat (first | (with_reducible exact Below.refl _ _) | (with_reducible refine below_setCell ?_ (by first | (simp; done) | (simp; omega) | omega)) | (with_reducible refine below_alloc _ ?_) | (with_reducible refine below_drewN ?_ _) | (with_reducible assumption) | (with_reducible refine below_after (by assumption) ?_))))
    replace s0 := s0.below m15
    replace rw := rw.below m15
    replace hhrg := hhrg.below m15
    replace rh := rh.below m15
    have z15 : u14.heap.size ≤ u15.heap.size := m15.size
    replace b := m15.mono b.size |> b.trans
    clear m15 k15
    go_wp2_with fail
    refine (HhR.out hKRu _ _ (hhrg.below (by (repeat (first | (with_reducible exact Below.refl _ _) | (with_reducible refine below_setCell ?_ (by first | (simp; done) | (simp; omega) | omega)) | (with_reducible refine below_alloc _ ?_) | (with_reducible refine below_drewN ?_ _) | (with_reducible assumption) | (with_reducible refine below_after (by assumption) ?_)))))).mono ?_
    rintro e u16 ⟨rfl, k16⟩
    have m16 : Below u15.heap.size u15 u16 := below_after k16 (by (repeat (first | (with_reducible exact Below.refl _ _) | (with_reducible refine below_setCell ?_ (by first | (simp; done) | (simp; omega) | omega)) | (with_reducible refine below_alloc _ ?_) | (with_reducible refine below_drewN ?_ _) | (with_reducible assumption) | (with_reducible refine below_after (by assumption) ?_))))
    replace s0 := s0.below m16
    replace rw := rw.below m16
    replace hhrg := hhrg.below m16
    replace rh := rh.below m16
    have z16 : u15.heap.size ≤ u16.heap.size := m16.size
    replace b := m16.mono b.size |> b.trans
    clear m16 k16
    go_wp2
    go_ret
    exact ⟨rfl, below_after (by (repeat (first | (with_reducible exact Below.refl _ _) | (with_reducible refine below_setCell ?_ (by first | (simp; done) | (simp; omega) | omega)) | (with_reducible refine below_alloc _ ?_) | (with_reducible refine below_drewN ?_ _) | (with_reducible assumption) | (with_reducible refine below_after (by assumption) ?_)))) b⟩

end Go.Proofs.Ytibgpjkpfakgiaa.fnExactKeysWritten
