/- The law FnExactNewGroup walked: it returns true, and nothing that was there has turned. Printed by mkgrp.py. -/
import Derived.Test.YtogdbjalgledpaaNewg
import Derived.Test.YtogdbjalgledpaaGcopy
import Derived.Test.YtogdbjalgledpaaGroupM
import Derived.Test.YtogdbjalgledpaaSizes
import Derived.Test.YtogdbjalgledpaaDArgs
import Derived.Test.YtogdbjalgledpaaEqs
import Derived.Deep.RegionWith
import Derived.Deep.DeepCutAuto
namespace Go.Proofs.Ytogdbjalgledpaa.fnExactNewGroup
open Go.RowKit

set_option maxRecDepth 100000 in
set_option maxHeartbeats 12800000 in
theorem walk {w : World} (y0 : Int) (i0 : I64 y0) (_ : True) : Calls Try.prog 4 #[.int .i64 y0] w fun e w' => e = .returned (.bool true) ∧ Below w.heap.size w w' := by
  have HS := Lib.hid (fun  (u : World)  => newGroupS_any y0 u)
  have HI := Lib.hid (fun  (u : World)  => newGroup_any y0 u)
  have Hcr : Hid (costGroup (pickG (manyI y0) (newG y0)) ≤ 1048576) := Lib.hid (newG_cost y0)
  generalize pickG (manyI y0) (newG y0) = res at *
  generalize (manyI y0) = q at *
  have HeR := Lib.hid (fun (c : costGroup res ≤ 1048576) (u : World) a b r1 r2 => eqGroup_d res c u a r1 b r2)
  have hLR := lenReplica res.Reps
  obtain ⟨LR, eLR⟩ : ∃ LR, sumN LReplica res.Reps = LR := ⟨_, rfl⟩
  rw [eLR] at hLR
  have HkR := Lib.hid (fun (c : 1 + LR ≤ 1073741824) (a : Value) (lo hi : Nat) (u : World) r => eLR ▸ markGroup_l 1 (by decide) a res.Reps res.Term res.Lead lo hi u r (by rw [eLR]; exact c))
  have HhR := Lib.hid (fun (c : 1 + LR ≤ 1073741824) (a : Value) (u : World) (r : HeldS PT.treplica u a 1 LR) => heldGroup_any 1 (by decide) a res.Term res.Lead LR u r c)
  clear eLR
  change _ ≤ 6 * costGroup res at hLR
  generalize costGroup res = nR at *
  cases q
  all_goals
    go_enter Try.func4, Try.ntmps4
    have hcR : nR ≤ 1048576 := Hcr.out 
    go_wp2_with fail
    refine (HS.out  _ ).mono ?_
    rintro e u1 ⟨vrw, rfl, orw, k1⟩
    obtain ⟨prw, erw, rfl⟩ := orw.form
    have rw := (Own.mono orw (Below.size (B := w.heap.size) (w := w) (by (repeat (first | (with_reducible exact Below.refl _ _) | (with_reducible refine below_setCell ?_ (by first | (simp; done) | (simp; omega) | omega)) | (with_reducible refine below_alloc _ ?_) | (with_reducible refine below_drewN ?_ _) | (with_reducible assumption) | (with_reducible refine below_after (by assumption) ?_)))))).within
    clear orw
    have m1 : Below w.heap.size w u1 := below_after k1 (by (repeat (first | (with_reducible exact Below.refl _ _) | (with_reducible refine below_setCell ?_ (by first | (simp; done) | (simp; omega) | omega)) | (with_reducible refine below_alloc _ ?_) | (with_reducible refine below_drewN ?_ _) | (with_reducible assumption) | (with_reducible refine below_after (by assumption) ?_))))
    have z1 : w.heap.size ≤ u1.heap.size := m1.size
    have b := m1
    clear m1 k1
    go_wp2_with fail
    refine (HI.out  _ ).mono ?_
    rintro e u2 ⟨vrg, rfl, org, k2⟩
    obtain ⟨prg, erg, rfl⟩ := org.form
    have rg := (Own.mono org (base' := u1.heap.size + 1) (by first | (simp; done) | (simp; omega) | omega)).within
    clear org
    have m2 : Below u1.heap.size u1 u2 := below_after k2 (by (repeat (first | (with_reducible exact Below.refl _ _) | (with_reducible refine below_setCell ?_ (by first | (simp; done) | (simp; omega) | omega)) | (with_reducible refine below_alloc _ ?_) | (with_reducible refine below_drewN ?_ _) | (with_reducible assumption) | (with_reducible refine below_after (by assumption) ?_))))
    replace rw := rw.below m2
    have qxrw : u1.heap.size < u2.heap.size := by have := k2.size; simp at this; omega
    have yqxrw := qxrw
    have xrw_0 : u2.cell? ⟨u1.heap.size, 0, none⟩ = some (.slice prw res.Reps.length erw) := by rw [(bcell k2).1 _ _ (by first | (simp; done) | (simp; omega))]; simp [go_sem]
    have xrw_1 : u2.cell? ⟨u1.heap.size, 1, none⟩ = some (.int .i64 res.Term) := by rw [(bcell k2).1 _ _ (by first | (simp; done) | (simp; omega))]; simp [go_sem]
    have xrw_2 : u2.cell? ⟨u1.heap.size, 2, none⟩ = some (.int .i64 res.Lead) := by rw [(bcell k2).1 _ _ (by first | (simp; done) | (simp; omega))]; simp [go_sem]
    have z2 : u1.heap.size ≤ u2.heap.size := m2.size
    replace b := m2.mono b.size |> b.trans
    clear m2 k2
    go_wp2_with fail
    refine (HeR.out hcR _ _ _ (rg.below (by (repeat (first | (with_reducible exact Below.refl _ _) | (with_reducible refine below_setCell ?_ (by first | (simp; done) | (simp; omega) | omega)) | (with_reducible refine below_alloc _ ?_) | (with_reducible refine below_drewN ?_ _) | (with_reducible assumption) | (with_reducible refine below_after (by assumption) ?_))))).rd (rw.below (by (repeat (first | (with_reducible exact Below.refl _ _) | (with_reducible refine below_setCell ?_ (by first | (simp; done) | (simp; omega) | omega)) | (with_reducible refine below_alloc _ ?_) | (with_reducible refine below_drewN ?_ _) | (with_reducible assumption) | (with_reducible refine below_after (by assumption) ?_))))).rd).mono ?_
    rintro e u3 ⟨rfl, k3⟩
    have m3 : Below u2.heap.size u2 u3 := below_after k3 (by (repeat (first | (with_reducible exact Below.refl _ _) | (with_reducible refine below_setCell ?_ (by first | (simp; done) | (simp; omega) | omega)) | (with_reducible refine below_alloc _ ?_) | (with_reducible refine below_drewN ?_ _) | (with_reducible assumption) | (with_reducible refine below_after (by assumption) ?_))))
    replace rw := rw.below m3
    replace rg := rg.below m3
    replace xrw_0 := cell_step m3 xrw_0
    replace xrw_1 := cell_step m3 xrw_1
    replace xrw_2 := cell_step m3 xrw_2
    replace qxrw := Nat.lt_of_lt_of_le qxrw m3.size
    have qxrg : u2.heap.size < u3.heap.size := by have := k3.size; simp at this; omega
    have yqxrg := qxrg
    have xrg_0 : u3.cell? ⟨u2.heap.size, 0, none⟩ = some (.slice prg res.Reps.length erg) := by rw [(bcell k3).1 _ _ (by first | (simp; done) | (simp; omega))]; simp [go_sem]
    have xrg_1 : u3.cell? ⟨u2.heap.size, 1, none⟩ = some (.int .i64 res.Term) := by rw [(bcell k3).1 _ _ (by first | (simp; done) | (simp; omega))]; simp [go_sem]
    have xrg_2 : u3.cell? ⟨u2.heap.size, 2, none⟩ = some (.int .i64 res.Lead) := by rw [(bcell k3).1 _ _ (by first | (simp; done) | (simp; omega))]; simp [go_sem]
    have z3 : u2.heap.size ≤ u3.heap.size := m3.size
    replace b := m3.mono b.size |> b.trans
    clear m3 k3
    go_wp2_with fail
    refine (HkR.out (by omega) _ _ _ _ (rg.below (by (repeat (first | (with_reducible exact Below.refl _ _) | (with_reducible refine below_setCell ?_ (by first | (simp; done) | (simp; omega) | omega)) | (with_reducible refine below_alloc _ ?_) | (with_reducible refine below_drewN ?_ _) | (with_reducible assumption) | (with_reducible refine below_after (by assumption) ?_)))))).mono ?_
    rintro e u4 ⟨rfl, hhrg, t4⟩
    replace rw := (rw.below (by (repeat (first | (with_reducible exact Below.refl _ _) | (with_reducible refine below_setCell ?_ (by first | (simp; done) | (simp; omega) | omega)) | (with_reducible refine below_alloc _ ?_) | (with_reducible refine below_drewN ?_ _) | (with_reducible assumption) | (with_reducible refine below_after (by assumption) ?_))))).turn t4 (by omega)
    replace xrw_0 := t4.cell (cell_step (by (repeat (first | (with_reducible exact Below.refl _ _) | (with_reducible refine below_setCell ?_ (by first | (simp; done) | (simp; omega) | omega)) | (with_reducible refine below_alloc _ ?_) | (with_reducible refine below_drewN ?_ _) | (with_reducible assumption) | (with_reducible refine below_after (by assumption) ?_)))) xrw_0) (by omega)
    replace xrw_1 := t4.cell (cell_step (by (repeat (first | (with_reducible exact Below.refl _ _) | (with_reducible refine below_setCell ?_ (by first | (simp; done) | (simp; omega) | omega)) | (with_reducible refine below_alloc _ ?_) | (with_reducible refine below_drewN ?_ _) | (with_reducible assumption) | (with_reducible refine below_after (by assumption) ?_)))) xrw_1) (by omega)
    replace xrw_2 := t4.cell (cell_step (by (repeat (first | (with_reducible exact Below.refl _ _) | (with_reducible refine below_setCell ?_ (by first | (simp; done) | (simp; omega) | omega)) | (with_reducible refine below_alloc _ ?_) | (with_reducible refine below_drewN ?_ _) | (with_reducible assumption) | (with_reducible refine below_after (by assumption) ?_)))) xrw_2) (by omega)
    replace xrg_0 := t4.cell (cell_step (by (repeat (first | (with_reducible exact Below.refl _ _) | (with_reducible refine below_setCell ?_ (by first | (simp; done) | (simp; omega) | omega)) | (with_reducible refine below_alloc _ ?_) | (with_reducible refine below_drewN ?_ _) | (with_reducible assumption) | (with_reducible refine below_after (by assumption) ?_)))) xrg_0) (by omega)
    replace xrg_1 := t4.cell (cell_step (by (repeat (first | (with_reducible exact Below.refl _ _) | (with_reducible refine below_setCell ?_ (by first | (simp; done) | (simp; omega) | omega)) | (with_reducible refine below_alloc _ ?_) | (with_reducible refine below_drewN ?_ _) | (with_reducible assumption) | (with_reducible refine below_after (by assumption) ?_)))) xrg_1) (by omega)
    replace xrg_2 := t4.cell (cell_step (by (repeat (first | (with_reducible exact Below.refl _ _) | (with_reducible refine below_setCell ?_ (by first | (simp; done) | (simp; omega) | omega)) | (with_reducible refine below_alloc _ ?_) | (with_reducible refine below_drewN ?_ _) | (with_reducible assumption) | (with_reducible refine below_after (by assumption) ?_)))) xrg_2) (by omega)
    replace b := Turn.below t4 (by omega) (below_after (by (repeat (first | (with_reducible exact Below.refl _ _) | (with_reducible refine below_setCell ?_ (by first | (simp; done) | (simp; omega) | omega)) | (with_reducible refine below_alloc _ ?_) | (with_reducible refine below_drewN ?_ _) | (with_reducible assumption) | (with_reducible refine below_after (by assumption) ?_)))) b)
    have z4 : u3.heap.size ≤ u4.heap.size := Nat.le_trans (Below.size (B := u3.heap.size) (w := u3) (by (repeat (first | (with_reducible exact Below.refl _ _) | (with_reducible refine below_setCell ?_ (by first | (simp; done) | (simp; omega) | omega)) | (with_reducible refine below_alloc _ ?_) | (with_reducible refine below_drewN ?_ _) | (with_reducible assumption) | (with_reducible refine below_after (by assumption) ?_))))) t4.size
    replace qxrw := Nat.lt_of_lt_of_le qxrw z4
    replace qxrg := Nat.lt_of_lt_of_le qxrg z4
    clear t4 rg
    obtain ⟨KR, hKR⟩ : ∃ KR : Nat, 1 + LR = KR := ⟨_, rfl⟩
    have hKRn : (0 : Int) ≤ (KR : Int) := by omega
    rw [hKR] at HhR ⊢
    have hKRu : KR ≤ 1073741824 := by omega
    clear hKR
    go_wp2_with fail
    refine (HhR.out hKRu _ _ (hhrg.below (by (repeat (first | (with_reducible exact Below.refl _ _) | (with_reducible refine below_setCell ?_ (by first | (simp; done) | (simp; omega) | omega)) | (with_reducible refine below_alloc _ ?_) | (with_reducible refine below_drewN ?_ _) | (with_reducible assumption) | (with_reducible refine below_after (by assumption) ?_)))))).mono ?_
    rintro e u5 ⟨rfl, k5⟩
    have m5 : Below u4.heap.size u4 u5 := below_after k5 (by (repeat (first | (with_reducible exact Below.refl _ _) | (with_reducible refine below_setCell ?_ (by first | (simp; done) | (simp; omega) | omega)) | (with_reducible refine below_alloc _ ?_) | (with_reducible refine below_drewN ?_ _) | (with_reducible assumption) | (with_reducible refine below_after (by assumption) ?_))))
    replace rw := rw.below m5
    replace hhrg := hhrg.below m5
    replace xrw_0 := cell_step m5 xrw_0
    replace xrw_1 := cell_step m5 xrw_1
    replace xrw_2 := cell_step m5 xrw_2
    replace xrg_0 := cell_step m5 xrg_0
    replace xrg_1 := cell_step m5 xrg_1
    replace xrg_2 := cell_step m5 xrg_2
    replace qxrw := Nat.lt_of_lt_of_le qxrw m5.size
    replace qxrg := Nat.lt_of_lt_of_le qxrg m5.size
    have z5 : u4.heap.size ≤ u5.heap.size := m5.size
    replace b := m5.mono b.size |> b.trans
    clear m5 k5
    go_wp2_with fail
    refine (HI.out  _ ).mono ?_
    rintro e u6 ⟨vrh, rfl, orh, k6⟩
    obtain ⟨prh, erh, rfl⟩ := orh.form
    have rh := (Own.mono orh (Below.size (B := u5.heap.size) (w := u5) (by (repeat (first | (with_reducible exact Below.refl _ _) | (with_reducible refine below_setCell ?_ (by first | (simp; done) | (simp; omega) | omega)) | (with_reducible refine below_alloc _ ?_) | (with_reducible refine below_drewN ?_ _) | (with_reducible assumption) | (with_reducible refine below_after (by assumption) ?_)))))).within
    clear orh
    have m6 : Below u5.heap.size u5 u6 := below_after k6 (by (repeat (first | (with_reducible exact Below.refl _ _) | (with_reducible refine below_setCell ?_ (by first | (simp; done) | (simp; omega) | omega)) | (with_reducible refine below_alloc _ ?_) | (with_reducible refine below_drewN ?_ _) | (with_reducible assumption) | (with_reducible refine below_after (by assumption) ?_))))
    replace rw := rw.below m6
    replace hhrg := hhrg.below m6
    replace xrw_0 := cell_step m6 xrw_0
    replace xrw_1 := cell_step m6 xrw_1
    replace xrw_2 := cell_step m6 xrw_2
    replace xrg_0 := cell_step m6 xrg_0
    replace xrg_1 := cell_step m6 xrg_1
    replace xrg_2 := cell_step m6 xrg_2
    replace qxrw := Nat.lt_of_lt_of_le qxrw m6.size
    replace qxrg := Nat.lt_of_lt_of_le qxrg m6.size
    have z6 : u5.heap.size ≤ u6.heap.size := m6.size
    replace b := m6.mono b.size |> b.trans
    clear m6 k6
    go_wp2_with fail
    refine (HeR.out hcR _ _ _ (rh.below (by (repeat (first | (with_reducible exact Below.refl _ _) | (with_reducible refine below_setCell ?_ (by first | (simp; done) | (simp; omega) | omega)) | (with_reducible refine below_alloc _ ?_) | (with_reducible refine below_drewN ?_ _) | (with_reducible assumption) | (with_reducible refine below_after (by assumption) ?_))))).rd (rw.below (by (repeat (first | (with_reducible exact Below.refl _ _) | (with_reducible refine below_setCell ?_ (by first | (simp; done) | (simp; omega) | omega)) | (with_reducible refine below_alloc _ ?_) | (with_reducible refine below_drewN ?_ _) | (with_reducible assumption) | (with_reducible refine below_after (by assumption) ?_))))).rd).mono ?_
    rintro e u7 ⟨rfl, k7⟩
    have m7 : Below u6.heap.size u6 u7 := below_after k7 (by (repeat (first | (with_reducible exact Below.refl _ _) | (with_reducible refine below_setCell ?_ (by first | (simp; done) | (simp; omega) | omega)) | (with_reducible refine below_alloc _ ?_) | (with_reducible refine below_drewN ?_ _) | (with_reducible assumption) | (with_reducible refine below_after (by assumption) ?_))))
    replace rw := rw.below m7
    replace hhrg := hhrg.below m7
    replace rh := rh.below m7
    replace xrw_0 := cell_step m7 xrw_0
    replace xrw_1 := cell_step m7 xrw_1
    replace xrw_2 := cell_step m7 xrw_2
    replace xrg_0 := cell_step m7 xrg_0
    replace xrg_1 := cell_step m7 xrg_1
    replace xrg_2 := cell_step m7 xrg_2
    replace qxrw := Nat.lt_of_lt_of_le qxrw m7.size
    replace qxrg := Nat.lt_of_lt_of_le qxrg m7.size
    have qxrh : u6.heap.size < u7.heap.size := by have := k7.size; simp at this; omega
    have yqxrh := qxrh
    have xrh_0 : u7.cell? ⟨u6.heap.size, 0, none⟩ = some (.slice prh res.Reps.length erh) := by rw [(bcell k7).1 _ _ (by first | (simp; done) | (simp; omega))]; simp [go_sem]
    have xrh_1 : u7.cell? ⟨u6.heap.size, 1, none⟩ = some (.int .i64 res.Term) := by rw [(bcell k7).1 _ _ (by first | (simp; done) | (simp; omega))]; simp [go_sem]
    have xrh_2 : u7.cell? ⟨u6.heap.size, 2, none⟩ = some (.int .i64 res.Lead) := by rw [(bcell k7).1 _ _ (by first | (simp; done) | (simp; omega))]; simp [go_sem]
    have z7 : u6.heap.size ≤ u7.heap.size := m7.size
    replace b := m7.mono b.size |> b.trans
    clear m7 k7
    go_wp2_with fail
    refine (HhR.out hKRu _ _ (hhrg.below (by (repeat (first | (with_reducible exact Below.refl _ _) | (with_reducible refine below_setCell ?_ (by first | (simp; done) | (simp; omega) | omega)) | (with_reducible refine below_alloc _ ?_) | (with_reducible refine below_drewN ?_ _) | (with_reducible assumption) | (with_reducible refine below_after (by assumption) ?_)))))).mono ?_
    rintro e u8 ⟨rfl, k8⟩
    have m8 : Below u7.heap.size u7 u8 := below_after k8 (by (repeat (first | (with_reducible exact Below.refl _ _) | (with_reducible refine below_setCell ?_ (by first | (simp; done) | (simp; omega) | omega)) | (with_reducible refine below_alloc _ ?_) | (with_reducible refine below_drewN ?_ _) | (with_reducible assumption) | (with_reducible refine below_after (by assumption) ?_))))
    replace rw := rw.below m8
    replace hhrg := hhrg.below m8
    replace rh := rh.below m8
    replace xrw_0 := cell_step m8 xrw_0
    replace xrw_1 := cell_step m8 xrw_1
    replace xrw_2 := cell_step m8 xrw_2
    replace xrg_0 := cell_step m8 xrg_0
    replace xrg_1 := cell_step m8 xrg_1
    replace xrg_2 := cell_step m8 xrg_2
    replace xrh_0 := cell_step m8 xrh_0
    replace xrh_1 := cell_step m8 xrh_1
    replace xrh_2 := cell_step m8 xrh_2
    replace qxrw := Nat.lt_of_lt_of_le qxrw m8.size
    replace qxrg := Nat.lt_of_lt_of_le qxrg m8.size
    replace qxrh := Nat.lt_of_lt_of_le qxrh m8.size
    have z8 : u7.heap.size ≤ u8.heap.size := m8.size
    replace b := m8.mono b.size |> b.trans
    clear m8 k8
    go_wp2
    go_ret
    exact ⟨rfl, below_after (by (repeat (first | (with_reducible exact Below.refl _ _) | (with_reducible refine below_setCell ?_ (by first | (simp; done) | (simp; omega) | omega)) | (with_reducible refine below_alloc _ ?_) | (with_reducible refine below_drewN ?_ _) | (with_reducible assumption) | (with_reducible refine below_after (by assumption) ?_)))) b⟩

end Go.Proofs.Ytogdbjalgledpaa.fnExactNewGroup
