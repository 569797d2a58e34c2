/- The law FnExactNewNet walked: it returns true, and nothing that was there has turned. Printed by mklawnet.py. -/
import Derived.Test.YtejedccfmcaooaaNet4
namespace Go.Proofs.Ytejedccfmcaooaa.fnExactNewNet
open Go.RowKit

set_option maxRecDepth 100000 in
set_option maxHeartbeats 6400000 in
theorem walk {w : World} (v0 : Value) (y0 : List Int) (s0 : Rd Cod.int w v0 y0) (y1 : Int) (_ : True) : Calls Try.prog 3 #[v0, .int .i64 y1] w fun e w' => e = .returned (.bool true) ∧ Below w.heap.size w w' := by
  obtain ⟨p0, c0, rfl, hlc0, hcm0, -⟩ := s0.form
  by_cases hs0 : y0.length ≤ 1048576
  rotate_left
  · have hs1 : (1048576 : Int) < (y0.length : Int) := by omega
    clear s0
    generalize y0.length = n0 at *
    go_enter Try.func3, Try.ntmps3
    go_wp2
    go_ret
    exact ⟨rfl, by (repeat (first | (with_reducible exact Below.refl _ _) | (with_reducible refine below_setCell ?_ (by first | (simp; done) | (simp; omega) | omega)) | (with_reducible refine below_alloc _ ?_) | (with_reducible refine below_drewN ?_ _) | (with_reducible assumption) | (with_reducible refine below_after (by assumption) ?_)))⟩
  have hs1 : (y0.length : Int) ≤ 1048576 := by omega
  have Ht := Lib.hid (fun (u : World) r => toIntS_any (.slice p0 y0.length c0) y0 hs0 u r)
  have He := Lib.hid (fun (a b : Value) (u : World) r1 r2 => eqIntS_any a b y0 u r1 r2 hs0)
  have Hk := Lib.hid (fun (k0 : Nat) (h0 : 0 < k0) (c : k0 + sumN LInt y0 ≤ 1073741824) (a : Value) (lo hi : Nat) (u : World) r => markIntS_l k0 h0 a y0 lo hi u r c)
  have hL0 := lenInt y0
  have HS := Lib.hid (fun (u : World) (x : Value) r => newNetS_any x y0 y1 hs0 u r)
  have HI := Lib.hid (fun (u : World) (x : Value) r => newNet_any x y0 y1 hs0 u r)
  unfold NetRes at HS HI
  have hrl : (pickL (homesB y0 y1) y0).length ≤ 1048576 := by
    generalize homesB y0 y1 = qq
    cases qq
    · exact Nat.zero_le _
    · exact hs0
  generalize pickL (homesB y0 y1) y0 = res at *
  generalize pickI (homesB y0 y1) y1 = fr at *
  generalize homesB y0 y1 = q at *
  have HeR := Lib.hid (fun (a b : Value) (u : World) r1 r2 => eqNet_any a b res fr hrl u r1 r2)
  have hLR := lenInt res
  obtain ⟨LR, eLR⟩ : ∃ LR, sumN LInt res = LR := ⟨_, rfl⟩
  rw [eLR] at hLR
  have HkR := Lib.hid (fun (c : 1 + LR ≤ 1073741824) (a : Value) (lo hi : Nat) (u : World) r (hh : hi ≤ u.heap.size) => eLR ▸ markNet_l 1 (by decide) a res fr lo hi u r hh (by rw [eLR]; exact c))
  have HhR := Lib.hid (fun (c : 1 + LR ≤ 1073741824) (a : Value) (u : World) (r : HeldS PT.tint u a 1 LR) => heldNet_any 1 (by decide) a fr LR u r c)
  clear eLR
  generalize hlen0 : sumN LInt y0 = l0 at *
  generalize hn0 : y0.length = n0 at *
  generalize hnR : res.length = nR at *
  clear hlen0 hn0 hnR
  cases q
  all_goals
    go_enter Try.func3, Try.ntmps3
    replace s0 := s0.within
    go_wp2_with fail
    refine (Ht.out _ (s0.below (by (repeat (first | (with_reducible exact Below.refl _ _) | (with_reducible refine below_setCell ?_ (by first | (simp; done) | (simp; omega) | omega)) | (with_reducible refine below_alloc _ ?_) | (with_reducible refine below_drewN ?_ _) | (with_reducible assumption) | (with_reducible refine below_after (by assumption) ?_))))).rd).mono ?_
    rintro e u1 ⟨vaw, rfl, oaw, k1⟩
    have aw := (Own.mono oaw (Below.size (B := w.heap.size) (w := w) (by (repeat (first | (with_reducible exact Below.refl _ _) | (with_reducible refine below_setCell ?_ (by first | (simp; done) | (simp; omega) | omega)) | (with_reducible refine below_alloc _ ?_) | (with_reducible refine below_drewN ?_ _) | (with_reducible assumption) | (with_reducible refine below_after (by assumption) ?_)))))).within
    clear oaw
    have m1 : Below w.heap.size w u1 := below_after k1 (by (repeat (first | (with_reducible exact Below.refl _ _) | (with_reducible refine below_setCell ?_ (by first | (simp; done) | (simp; omega) | omega)) | (with_reducible refine below_alloc _ ?_) | (with_reducible refine below_drewN ?_ _) | (with_reducible assumption) | (with_reducible refine below_after (by assumption) ?_))))
    replace s0 := s0.below m1
    have z1 : w.heap.size ≤ u1.heap.size := m1.size
    have b := m1
    clear m1 k1
    go_wp2_with fail
    refine (HS.out _ _ (aw.below (by (repeat (first | (with_reducible exact Below.refl _ _) | (with_reducible refine below_setCell ?_ (by first | (simp; done) | (simp; omega) | omega)) | (with_reducible refine below_alloc _ ?_) | (with_reducible refine below_drewN ?_ _) | (with_reducible assumption) | (with_reducible refine below_after (by assumption) ?_))))).rd).mono ?_
    rintro e u2 ⟨⟨prw, nrw, crw, rfl, orw⟩, k2⟩
    have rw := (Own.mono orw (Below.size (B := u1.heap.size) (w := u1) (by (repeat (first | (with_reducible exact Below.refl _ _) | (with_reducible refine below_setCell ?_ (by first | (simp; done) | (simp; omega) | omega)) | (with_reducible refine below_alloc _ ?_) | (with_reducible refine below_drewN ?_ _) | (with_reducible assumption) | (with_reducible refine below_after (by assumption) ?_)))))).within
    clear orw
    have m2 : Below u1.heap.size u1 u2 := below_after k2 (by (repeat (first | (with_reducible exact Below.refl _ _) | (with_reducible refine below_setCell ?_ (by first | (simp; done) | (simp; omega) | omega)) | (with_reducible refine below_alloc _ ?_) | (with_reducible refine below_drewN ?_ _) | (with_reducible assumption) | (with_reducible refine below_after (by assumption) ?_))))
    replace s0 := s0.below m2
    replace aw := aw.below m2
    have z2 : u1.heap.size ≤ u2.heap.size := m2.size
    replace b := m2.mono b.size |> b.trans
    clear m2 k2
    clear aw
    go_wp2_with fail
    refine (Ht.out _ (s0.below (by (repeat (first | (with_reducible exact Below.refl _ _) | (with_reducible refine below_setCell ?_ (by first | (simp; done) | (simp; omega) | omega)) | (with_reducible refine below_alloc _ ?_) | (with_reducible refine below_drewN ?_ _) | (with_reducible assumption) | (with_reducible refine below_after (by assumption) ?_))))).rd).mono ?_
    rintro e u3 ⟨vax, rfl, oax, k3⟩
    have ax := (Own.mono oax (base' := u2.heap.size + 1) (by simp)).within
    clear oax
    have m3 : Below u2.heap.size u2 u3 := below_after k3 (by (repeat (first | (with_reducible exact Below.refl _ _) | (with_reducible refine below_setCell ?_ (by first | (simp; done) | (simp; omega) | omega)) | (with_reducible refine below_alloc _ ?_) | (with_reducible refine below_drewN ?_ _) | (with_reducible assumption) | (with_reducible refine below_after (by assumption) ?_))))
    replace s0 := s0.below m3
    replace rw := rw.below m3
    have qxrw : u2.heap.size < u3.heap.size := by have := k3.size; simp at this; omega
    have yqxrw := qxrw
    have xrw0 : u3.cell? ⟨u2.heap.size, 0, none⟩ = some (.int .i64 0) := by rw [(bcell k3).1 _ _ (by first | (simp; done) | (simp; omega))]; simp [go_sem]
    have xrw1 : u3.cell? ⟨u2.heap.size, 1, none⟩ = some (.slice prw nrw crw) := by rw [(bcell k3).1 _ _ (by first | (simp; done) | (simp; omega))]; simp [go_sem]
    have xrw2 : u3.cell? ⟨u2.heap.size, 2, none⟩ = some (.int .i64 fr) := by rw [(bcell k3).1 _ _ (by first | (simp; done) | (simp; omega))]; simp [go_sem]
    have xrw3 : u3.cell? ⟨u2.heap.size, 3, none⟩ = some (.slice none 0 0) := by rw [(bcell k3).1 _ _ (by first | (simp; done) | (simp; omega))]; simp [go_sem]
    have z3 : u2.heap.size ≤ u3.heap.size := m3.size
    replace b := m3.mono b.size |> b.trans
    clear m3 k3
    go_wp2_with fail
    refine (HI.out _ _ (ax.below (by (repeat (first | (with_reducible exact Below.refl _ _) | (with_reducible refine below_setCell ?_ (by first | (simp; done) | (simp; omega) | omega)) | (with_reducible refine below_alloc _ ?_) | (with_reducible refine below_drewN ?_ _) | (with_reducible assumption) | (with_reducible refine below_after (by assumption) ?_))))).rd).mono ?_
    rintro e u4 ⟨⟨prg, nrg, crg, rfl, org⟩, k4⟩
    have rg := (Own.mono org (Below.size (B := u3.heap.size) (w := u3) (by (repeat (first | (with_reducible exact Below.refl _ _) | (with_reducible refine below_setCell ?_ (by first | (simp; done) | (simp; omega) | omega)) | (with_reducible refine below_alloc _ ?_) | (with_reducible refine below_drewN ?_ _) | (with_reducible assumption) | (with_reducible refine below_after (by assumption) ?_)))))).within
    clear org
    have m4 : Below u3.heap.size u3 u4 := below_after k4 (by (repeat (first | (with_reducible exact Below.refl _ _) | (with_reducible refine below_setCell ?_ (by first | (simp; done) | (simp; omega) | omega)) | (with_reducible refine below_alloc _ ?_) | (with_reducible refine below_drewN ?_ _) | (with_reducible assumption) | (with_reducible refine below_after (by assumption) ?_))))
    replace s0 := s0.below m4
    replace rw := rw.below m4
    replace ax := ax.below m4
    replace xrw0 := cell_step m4 xrw0
    replace xrw1 := cell_step m4 xrw1
    replace xrw2 := cell_step m4 xrw2
    replace xrw3 := cell_step m4 xrw3
    replace qxrw := Nat.lt_of_lt_of_le qxrw m4.size
    have z4 : u3.heap.size ≤ u4.heap.size := m4.size
    replace b := m4.mono b.size |> b.trans
    clear m4 k4
    go_wp2_with fail
    refine (HeR.out _ _ _ (rg.below (by (repeat (first | (with_reducible exact Below.refl _ _) | (with_reducible refine below_setCell ?_ (by first | (simp; done) | (simp; omega) | omega)) | (with_reducible refine below_alloc _ ?_) | (with_reducible refine below_drewN ?_ _) | (with_reducible assumption) | (with_reducible refine below_after (by assumption) ?_))))).rd (rw.below (by (repeat (first | (with_reducible exact Below.refl _ _) | (with_reducible refine below_setCell ?_ (by first | (simp; done) | (simp; omega) | omega)) | (with_reducible refine below_alloc _ ?_) | (with_reducible refine below_drewN ?_ _) | (with_reducible assumption) | (with_reducible refine below_after (by assumption) ?_))))).rd).mono ?_
    rintro e u5 ⟨rfl, k5⟩
    have m5 : Below u4.heap.size u4 u5 := below_after k5 (by (repeat (first | (with_reducible exact Below.refl _ _) | (with_reducible refine below_setCell ?_ (by first | (simp; done) | (simp; omega) | omega)) | (with_reducible refine below_alloc _ ?_) | (with_reducible refine below_drewN ?_ _) | (with_reducible assumption) | (with_reducible refine below_after (by assumption) ?_))))
    replace s0 := s0.below m5
    replace rw := rw.below m5
    replace ax := ax.below m5
    replace rg := rg.below m5
    replace xrw0 := cell_step m5 xrw0
    replace xrw1 := cell_step m5 xrw1
    replace xrw2 := cell_step m5 xrw2
    replace xrw3 := cell_step m5 xrw3
    replace qxrw := Nat.lt_of_lt_of_le qxrw m5.size
    have qxrg : u4.heap.size < u5.heap.size := by have := k5.size; simp at this; omega
    have yqxrg := qxrg
    have xrg0 : u5.cell? ⟨u4.heap.size, 0, none⟩ = some (.int .i64 0) := by rw [(bcell k5).1 _ _ (by first | (simp; done) | (simp; omega))]; simp [go_sem]
    have xrg1 : u5.cell? ⟨u4.heap.size, 1, none⟩ = some (.slice prg nrg crg) := by rw [(bcell k5).1 _ _ (by first | (simp; done) | (simp; omega))]; simp [go_sem]
    have xrg2 : u5.cell? ⟨u4.heap.size, 2, none⟩ = some (.int .i64 fr) := by rw [(bcell k5).1 _ _ (by first | (simp; done) | (simp; omega))]; simp [go_sem]
    have xrg3 : u5.cell? ⟨u4.heap.size, 3, none⟩ = some (.slice none 0 0) := by rw [(bcell k5).1 _ _ (by first | (simp; done) | (simp; omega))]; simp [go_sem]
    have z5 : u4.heap.size ≤ u5.heap.size := m5.size
    replace b := m5.mono b.size |> b.trans
    clear m5 k5
    go_wp2_with fail
    refine (Ht.out _ (s0.below (by (repeat (first | (with_reducible exact Below.refl _ _) | (with_reducible refine below_setCell ?_ (by first | (simp; done) | (simp; omega) | omega)) | (with_reducible refine below_alloc _ ?_) | (with_reducible refine below_drewN ?_ _) | (with_reducible assumption) | (with_reducible refine below_after (by assumption) ?_))))).rd).mono ?_
    rintro e u6 ⟨vae, rfl, oae, k6⟩
    have ae := (Own.mono oae (Below.size (B := u5.heap.size) (w := u5) (by (repeat (first | (with_reducible exact Below.refl _ _) | (with_reducible refine below_setCell ?_ (by first | (simp; done) | (simp; omega) | omega)) | (with_reducible refine below_alloc _ ?_) | (with_reducible refine below_drewN ?_ _) | (with_reducible assumption) | (with_reducible refine below_after (by assumption) ?_)))))).within
    clear oae
    have m6 : Below u5.heap.size u5 u6 := below_after k6 (by (repeat (first | (with_reducible exact Below.refl _ _) | (with_reducible refine below_setCell ?_ (by first | (simp; done) | (simp; omega) | omega)) | (with_reducible refine below_alloc _ ?_) | (with_reducible refine below_drewN ?_ _) | (with_reducible assumption) | (with_reducible refine below_after (by assumption) ?_))))
    replace s0 := s0.below m6
    replace rw := rw.below m6
    replace ax := ax.below m6
    replace rg := rg.below m6
    replace xrw0 := cell_step m6 xrw0
    replace xrw1 := cell_step m6 xrw1
    replace xrw2 := cell_step m6 xrw2
    replace xrw3 := cell_step m6 xrw3
    replace xrg0 := cell_step m6 xrg0
    replace xrg1 := cell_step m6 xrg1
    replace xrg2 := cell_step m6 xrg2
    replace xrg3 := cell_step m6 xrg3
    replace qxrw := Nat.lt_of_lt_of_le qxrw m6.size
    replace qxrg := Nat.lt_of_lt_of_le qxrg m6.size
    have z6 : u5.heap.size ≤ u6.heap.size := m6.size
    replace b := m6.mono b.size |> b.trans
    clear m6 k6
    go_wp2_with fail
    refine (He.out _ _ _ (ax.below (by (repeat (first | (with_reducible exact Below.refl _ _) | (with_reducible refine below_setCell ?_ (by first | (simp; done) | (simp; omega) | omega)) | (with_reducible refine below_alloc _ ?_) | (with_reducible refine below_drewN ?_ _) | (with_reducible assumption) | (with_reducible refine below_after (by assumption) ?_))))).rd (ae.below (by (repeat (first | (with_reducible exact Below.refl _ _) | (with_reducible refine below_setCell ?_ (by first | (simp; done) | (simp; omega) | omega)) | (with_reducible refine below_alloc _ ?_) | (with_reducible refine below_drewN ?_ _) | (with_reducible assumption) | (with_reducible refine below_after (by assumption) ?_))))).rd).mono ?_
    rintro e u7 ⟨rfl, k7⟩
    have m7 : Below u6.heap.size u6 u7 := below_after k7 (by (repeat (first | (with_reducible exact Below.refl _ _) | (with_reducible refine below_setCell ?_ (by first | (simp; done) | (simp; omega) | omega)) | (with_reducible refine below_alloc _ ?_) | (with_reducible refine below_drewN ?_ _) | (with_reducible assumption) | (with_reducible refine below_after (by assumption) ?_))))
    replace s0 := s0.below m7
    replace rw := rw.below m7
    replace ax := ax.below m7
    replace rg := rg.below m7
    replace ae := ae.below m7
    replace xrw0 := cell_step m7 xrw0
    replace xrw1 := cell_step m7 xrw1
    replace xrw2 := cell_step m7 xrw2
    replace xrw3 := cell_step m7 xrw3
    replace xrg0 := cell_step m7 xrg0
    replace xrg1 := cell_step m7 xrg1
    replace xrg2 := cell_step m7 xrg2
    replace xrg3 := cell_step m7 xrg3
    replace qxrw := Nat.lt_of_lt_of_le qxrw m7.size
    replace qxrg := Nat.lt_of_lt_of_le qxrg m7.size
    have z7 : u6.heap.size ≤ u7.heap.size := m7.size
    replace b := m7.mono b.size |> b.trans
    clear m7 k7
    clear ae
    go_wp2_with fail
    refine (Hk.out 1 (by omega) (by omega) _ _ _ _ (ax.below (by (repeat (first | (with_reducible exact Below.refl _ _) | (with_reducible refine below_setCell ?_ (by first | (simp; done) | (simp; omega) | omega)) | (with_reducible refine below_alloc _ ?_) | (with_reducible refine below_drewN ?_ _) | (with_reducible assumption) | (with_reducible refine below_after (by assumption) ?_)))))).mono ?_
    rintro e u8 ⟨rfl, hhax, t8⟩
    replace s0 := (s0.below (by (repeat (first | (with_reducible exact Below.refl _ _) | (with_reducible refine below_setCell ?_ (by first | (simp; done) | (simp; omega) | omega)) | (with_reducible refine below_alloc _ ?_) | (with_reducible refine below_drewN ?_ _) | (with_reducible assumption) | (with_reducible refine below_after (by assumption) ?_))))).turn t8 (by omega)
    replace rw := (rw.below (by (repeat (first | (with_reducible exact Below.refl _ _) | (with_reducible refine below_setCell ?_ (by first | (simp; done) | (simp; omega) | omega)) | (with_reducible refine below_alloc _ ?_) | (with_reducible refine below_drewN ?_ _) | (with_reducible assumption) | (with_reducible refine below_after (by assumption) ?_))))).turn t8 (by omega)
    replace rg := (rg.below (by (repeat (first | (with_reducible exact Below.refl _ _) | (with_reducible refine below_setCell ?_ (by first | (simp; done) | (simp; omega) | omega)) | (with_reducible refine below_alloc _ ?_) | (with_reducible refine below_drewN ?_ _) | (with_reducible assumption) | (with_reducible refine below_after (by assumption) ?_))))).turn t8 (by omega)
    replace xrw0 := t8.cell (cell_step (by (repeat (first | (with_reducible exact Below.refl _ _) | (with_reducible refine below_setCell ?_ (by first | (simp; done) | (simp; omega) | omega)) | (with_reducible refine below_alloc _ ?_) | (with_reducible refine below_drewN ?_ _) | (with_reducible assumption) | (with_reducible refine below_after (by assumption) ?_)))) xrw0) (by omega)
    replace xrw1 := t8.cell (cell_step (by (repeat (first | (with_reducible exact Below.refl _ _) | (with_reducible refine below_setCell ?_ (by first | (simp; done) | (simp; omega) | omega)) | (with_reducible refine below_alloc _ ?_) | (with_reducible refine below_drewN ?_ _) | (with_reducible assumption) | (with_reducible refine below_after (by assumption) ?_)))) xrw1) (by omega)
    replace xrw2 := t8.cell (cell_step (by (repeat (first | (with_reducible exact Below.refl _ _) | (with_reducible refine below_setCell ?_ (by first | (simp; done) | (simp; omega) | omega)) | (with_reducible refine below_alloc _ ?_) | (with_reducible refine below_drewN ?_ _) | (with_reducible assumption) | (with_reducible refine below_after (by assumption) ?_)))) xrw2) (by omega)
    replace xrw3 := t8.cell (cell_step (by (repeat (first | (with_reducible exact Below.refl _ _) | (with_reducible refine below_setCell ?_ (by first | (simp; done) | (simp; omega) | omega)) | (with_reducible refine below_alloc _ ?_) | (with_reducible refine below_drewN ?_ _) | (with_reducible assumption) | (with_reducible refine below_after (by assumption) ?_)))) xrw3) (by omega)
    replace xrg0 := t8.cell (cell_step (by (repeat (first | (with_reducible exact Below.refl _ _) | (with_reducible refine below_setCell ?_ (by first | (simp; done) | (simp; omega) | omega)) | (with_reducible refine below_alloc _ ?_) | (with_reducible refine below_drewN ?_ _) | (with_reducible assumption) | (with_reducible refine below_after (by assumption) ?_)))) xrg0) (by omega)
    replace xrg1 := t8.cell (cell_step (by (repeat (first | (with_reducible exact Below.refl _ _) | (with_reducible refine below_setCell ?_ (by first | (simp; done) | (simp; omega) | omega)) | (with_reducible refine below_alloc _ ?_) | (with_reducible refine below_drewN ?_ _) | (with_reducible assumption) | (with_reducible refine below_after (by assumption) ?_)))) xrg1) (by omega)
    replace xrg2 := t8.cell (cell_step (by (repeat (first | (with_reducible exact Below.refl _ _) | (with_reducible refine below_setCell ?_ (by first | (simp; done) | (simp; omega) | omega)) | (with_reducible refine below_alloc _ ?_) | (with_reducible refine below_drewN ?_ _) | (with_reducible assumption) | (with_reducible refine below_after (by assumption) ?_)))) xrg2) (by omega)
    replace xrg3 := t8.cell (cell_step (by (repeat (first | (with_reducible exact Below.refl _ _) | (with_reducible refine below_setCell ?_ (by first | (simp; done) | (simp; omega) | omega)) | (with_reducible refine below_alloc _ ?_) | (with_reducible refine below_drewN ?_ _) | (with_reducible assumption) | (with_reducible refine below_after (by assumption) ?_)))) xrg3) (by omega)
    replace b := Turn.below t8 (by omega) (below_after (by (repeat (first | (with_reducible exact Below.refl _ _) | (with_reducible refine below_setCell ?_ (by first | (simp; done) | (simp; omega) | omega)) | (with_reducible refine below_alloc _ ?_) | (with_reducible refine below_drewN ?_ _) | (with_reducible assumption) | (with_reducible refine below_after (by assumption) ?_)))) b)
    have z8 : u7.heap.size ≤ u8.heap.size := Nat.le_trans (Below.size (B := u7.heap.size) (w := u7) (by (repeat (first | (with_reducible exact Below.refl _ _) | (with_reducible refine below_setCell ?_ (by first | (simp; done) | (simp; omega) | omega)) | (with_reducible refine below_alloc _ ?_) | (with_reducible refine below_drewN ?_ _) | (with_reducible assumption) | (with_reducible refine below_after (by assumption) ?_))))) t8.size
    replace qxrw := Nat.lt_of_lt_of_le qxrw z8
    replace qxrg := Nat.lt_of_lt_of_le qxrg z8
    clear t8 ax hhax
    obtain ⟨K0, hK0⟩ : ∃ K0 : Nat, 1 + l0 = K0 := ⟨_, rfl⟩
    rw [hK0]
    have hK0n : (0 : Int) ≤ (K0 : Int) := by omega
    clear hK0
    go_wp2_with fail
    refine (HeR.out _ _ _ (rg.below (by (repeat (first | (with_reducible exact Below.refl _ _) | (with_reducible refine below_setCell ?_ (by first | (simp; done) | (simp; omega) | omega)) | (with_reducible refine below_alloc _ ?_) | (with_reducible refine below_drewN ?_ _) | (with_reducible assumption) | (with_reducible refine below_after (by assumption) ?_))))).rd (rw.below (by (repeat (first | (with_reducible exact Below.refl _ _) | (with_reducible refine below_setCell ?_ (by first | (simp; done) | (simp; omega) | omega)) | (with_reducible refine below_alloc _ ?_) | (with_reducible refine below_drewN ?_ _) | (with_reducible assumption) | (with_reducible refine below_after (by assumption) ?_))))).rd).mono ?_
    rintro e u9 ⟨rfl, k9⟩
    have m9 : Below u8.heap.size u8 u9 := below_after k9 (by (repeat (first | (with_reducible exact Below.refl _ _) | (with_reducible refine below_setCell ?_ (by first | (simp; done) | (simp; omega) | omega)) | (with_reducible refine below_alloc _ ?_) | (with_reducible refine below_drewN ?_ _) | (with_reducible assumption) | (with_reducible refine below_after (by assumption) ?_))))
    replace s0 := s0.below m9
    replace rw := rw.below m9
    replace rg := rg.below m9
    replace xrw0 := cell_step m9 xrw0
    replace xrw1 := cell_step m9 xrw1
    replace xrw2 := cell_step m9 xrw2
    replace xrw3 := cell_step m9 xrw3
    replace xrg0 := cell_step m9 xrg0
    replace xrg1 := cell_step m9 xrg1
    replace xrg2 := cell_step m9 xrg2
    replace xrg3 := cell_step m9 xrg3
    replace qxrw := Nat.lt_of_lt_of_le qxrw m9.size
    replace qxrg := Nat.lt_of_lt_of_le qxrg m9.size
    have z9 : u8.heap.size ≤ u9.heap.size := m9.size
    replace b := m9.mono b.size |> b.trans
    clear m9 k9
    go_wp2_with fail
    refine (HkR.out (by omega) _ _ _ _ (rg.below (by (repeat (first | (with_reducible exact Below.refl _ _) | (with_reducible refine below_setCell ?_ (by first | (simp; done) | (simp; omega) | omega)) | (with_reducible refine below_alloc _ ?_) | (with_reducible refine below_drewN ?_ _) | (with_reducible assumption) | (with_reducible refine below_after (by assumption) ?_))))) (by have := z9; have h1 := Below.size (B := u9.heap.size) (w := u9) (by (repeat (first | (with_reducible exact Below.refl _ _) | (with_reducible refine below_setCell ?_ (by first | (simp; done) | (simp; omega) | omega)) | (with_reducible refine below_alloc _ ?_) | (with_reducible refine below_drewN ?_ _) | (with_reducible assumption) | (with_reducible refine below_after (by assumption) ?_)))); omega)).mono ?_
    rintro e u10 ⟨rfl, hhrg, t10⟩
    replace s0 := (s0.below (by (repeat (first | (with_reducible exact Below.refl _ _) | (with_reducible refine below_setCell ?_ (by first | (simp; done) | (simp; omega) | omega)) | (with_reducible refine below_alloc _ ?_) | (with_reducible refine below_drewN ?_ _) | (with_reducible assumption) | (with_reducible refine below_after (by assumption) ?_))))).turn t10 (by omega)
    replace rw := (rw.below (by (repeat (first | (with_reducible exact Below.refl _ _) | (with_reducible refine below_setCell ?_ (by first | (simp; done) | (simp; omega) | omega)) | (with_reducible refine below_alloc _ ?_) | (with_reducible refine below_drewN ?_ _) | (with_reducible assumption) | (with_reducible refine below_after (by assumption) ?_))))).turn t10 (by omega)
    replace xrw0 := t10.cell (cell_step (by (repeat (first | (with_reducible exact Below.refl _ _) | (with_reducible refine below_setCell ?_ (by first | (simp; done) | (simp; omega) | omega)) | (with_reducible refine below_alloc _ ?_) | (with_reducible refine below_drewN ?_ _) | (with_reducible assumption) | (with_reducible refine below_after (by assumption) ?_)))) xrw0) (by omega)
    replace xrw1 := t10.cell (cell_step (by (repeat (first | (with_reducible exact Below.refl _ _) | (with_reducible refine below_setCell ?_ (by first | (simp; done) | (simp; omega) | omega)) | (with_reducible refine below_alloc _ ?_) | (with_reducible refine below_drewN ?_ _) | (with_reducible assumption) | (with_reducible refine below_after (by assumption) ?_)))) xrw1) (by omega)
    replace xrw2 := t10.cell (cell_step (by (repeat (first | (with_reducible exact Below.refl _ _) | (with_reducible refine below_setCell ?_ (by first | (simp; done) | (simp; omega) | omega)) | (with_reducible refine below_alloc _ ?_) | (with_reducible refine below_drewN ?_ _) | (with_reducible assumption) | (with_reducible refine below_after (by assumption) ?_)))) xrw2) (by omega)
    replace xrw3 := t10.cell (cell_step (by (repeat (first | (with_reducible exact Below.refl _ _) | (with_reducible refine below_setCell ?_ (by first | (simp; done) | (simp; omega) | omega)) | (with_reducible refine below_alloc _ ?_) | (with_reducible refine below_drewN ?_ _) | (with_reducible assumption) | (with_reducible refine below_after (by assumption) ?_)))) xrw3) (by omega)
    replace xrg0 := t10.cell (cell_step (by (repeat (first | (with_reducible exact Below.refl _ _) | (with_reducible refine below_setCell ?_ (by first | (simp; done) | (simp; omega) | omega)) | (with_reducible refine below_alloc _ ?_) | (with_reducible refine below_drewN ?_ _) | (with_reducible assumption) | (with_reducible refine below_after (by assumption) ?_)))) xrg0) (by omega)
    replace xrg1 := t10.cell (cell_step (by (repeat (first | (with_reducible exact Below.refl _ _) | (with_reducible refine below_setCell ?_ (by first | (simp; done) | (simp; omega) | omega)) | (with_reducible refine below_alloc _ ?_) | (with_reducible refine below_drewN ?_ _) | (with_reducible assumption) | (with_reducible refine below_after (by assumption) ?_)))) xrg1) (by omega)
    replace xrg2 := t10.cell (cell_step (by (repeat (first | (with_reducible exact Below.refl _ _) | (with_reducible refine below_setCell ?_ (by first | (simp; done) | (simp; omega) | omega)) | (with_reducible refine below_alloc _ ?_) | (with_reducible refine below_drewN ?_ _) | (with_reducible assumption) | (with_reducible refine below_after (by assumption) ?_)))) xrg2) (by omega)
    replace xrg3 := t10.cell (cell_step (by (repeat (first | (with_reducible exact Below.refl _ _) | (with_reducible refine below_setCell ?_ (by first | (simp; done) | (simp; omega) | omega)) | (with_reducible refine below_alloc _ ?_) | (with_reducible refine below_drewN ?_ _) | (with_reducible assumption) | (with_reducible refine below_after (by assumption) ?_)))) xrg3) (by omega)
    replace b := Turn.below t10 (by omega) (below_after (by (repeat (first | (with_reducible exact Below.refl _ _) | (with_reducible refine below_setCell ?_ (by first | (simp; done) | (simp; omega) | omega)) | (with_reducible refine below_alloc _ ?_) | (with_reducible refine below_drewN ?_ _) | (with_reducible assumption) | (with_reducible refine below_after (by assumption) ?_)))) b)
    have z10 : u9.heap.size ≤ u10.heap.size := Nat.le_trans (Below.size (B := u9.heap.size) (w := u9) (by (repeat (first | (with_reducible exact Below.refl _ _) | (with_reducible refine below_setCell ?_ (by first | (simp; done) | (simp; omega) | omega)) | (with_reducible refine below_alloc _ ?_) | (with_reducible refine below_drewN ?_ _) | (with_reducible assumption) | (with_reducible refine below_after (by assumption) ?_))))) t10.size
    replace qxrw := Nat.lt_of_lt_of_le qxrw z10
    replace qxrg := Nat.lt_of_lt_of_le qxrg z10
    clear t10 rg
    obtain ⟨KR, hKR⟩ : ∃ KR : Nat, 1 + LR = KR := ⟨_, rfl⟩
    have hKRn : (0 : Int) ≤ (KR : Int) := by omega
    rw [hKR] at HhR ⊢
    have hKRu : KR ≤ 1073741824 := by omega
    clear hKR
    go_wp2_with fail
    refine (HhR.out hKRu _ _ (hhrg.below (by (repeat (first | (with_reducible exact Below.refl _ _) | (with_reducible refine below_setCell ?_ (by first | (simp; done) | (simp; omega) | omega)) | (with_reducible refine below_alloc _ ?_) | (with_reducible refine below_drewN ?_ _) | (with_reducible assumption) | (with_reducible refine below_after (by assumption) ?_)))))).mono ?_
    rintro e u11 ⟨rfl, k11⟩
    have m11 : Below u10.heap.size u10 u11 := below_after k11 (by (repeat (first | (with_reducible exact Below.refl _ _) | (with_reducible refine below_setCell ?_ (by first | (simp; done) | (simp; omega) | omega)) | (with_reducible refine below_alloc _ ?_) | (with_reducible refine below_drewN ?_ _) | (with_reducible assumption) | (with_reducible refine below_after (by assumption) ?_))))
    replace s0 := s0.below m11
    replace rw := rw.below m11
    replace hhrg := hhrg.below m11
    replace xrw0 := cell_step m11 xrw0
    replace xrw1 := cell_step m11 xrw1
    replace xrw2 := cell_step m11 xrw2
    replace xrw3 := cell_step m11 xrw3
    replace xrg0 := cell_step m11 xrg0
    replace xrg1 := cell_step m11 xrg1
    replace xrg2 := cell_step m11 xrg2
    replace xrg3 := cell_step m11 xrg3
    replace qxrw := Nat.lt_of_lt_of_le qxrw m11.size
    replace qxrg := Nat.lt_of_lt_of_le qxrg m11.size
    have z11 : u10.heap.size ≤ u11.heap.size := m11.size
    replace b := m11.mono b.size |> b.trans
    clear m11 k11
    go_wp2_with fail
    refine (Ht.out _ (s0.below (by (repeat (first | (with_reducible exact Below.refl _ _) | (with_reducible refine below_setCell ?_ (by first | (simp; done) | (simp; omega) | omega)) | (with_reducible refine below_alloc _ ?_) | (with_reducible refine below_drewN ?_ _) | (with_reducible assumption) | (with_reducible refine below_after (by assumption) ?_))))).rd).mono ?_
    rintro e u12 ⟨vay, rfl, oay, k12⟩
    have ay := (Own.mono oay (Below.size (B := u11.heap.size) (w := u11) (by (repeat (first | (with_reducible exact Below.refl _ _) | (with_reducible refine below_setCell ?_ (by first | (simp; done) | (simp; omega) | omega)) | (with_reducible refine below_alloc _ ?_) | (with_reducible refine below_drewN ?_ _) | (with_reducible assumption) | (with_reducible refine below_after (by assumption) ?_)))))).within
    clear oay
    have m12 : Below u11.heap.size u11 u12 := below_after k12 (by (repeat (first | (with_reducible exact Below.refl _ _) | (with_reducible refine below_setCell ?_ (by first | (simp; done) | (simp; omega) | omega)) | (with_reducible refine below_alloc _ ?_) | (with_reducible refine below_drewN ?_ _) | (with_reducible assumption) | (with_reducible refine below_after (by assumption) ?_))))
    replace s0 := s0.below m12
    replace rw := rw.below m12
    replace hhrg := hhrg.below m12
    replace xrw0 := cell_step m12 xrw0
    replace xrw1 := cell_step m12 xrw1
    replace xrw2 := cell_step m12 xrw2
    replace xrw3 := cell_step m12 xrw3
    replace xrg0 := cell_step m12 xrg0
    replace xrg1 := cell_step m12 xrg1
    replace xrg2 := cell_step m12 xrg2
    replace xrg3 := cell_step m12 xrg3
    replace qxrw := Nat.lt_of_lt_of_le qxrw m12.size
    replace qxrg := Nat.lt_of_lt_of_le qxrg m12.size
    have z12 : u11.heap.size ≤ u12.heap.size := m12.size
    replace b := m12.mono b.size |> b.trans
    clear m12 k12
    go_wp2_with fail
    refine (HI.out _ _ (ay.below (by (repeat (first | (with_reducible exact Below.refl _ _) | (with_reducible refine below_setCell ?_ (by first | (simp; done) | (simp; omega) | omega)) | (with_reducible refine below_alloc _ ?_) | (with_reducible refine below_drewN ?_ _) | (with_reducible assumption) | (with_reducible refine below_after (by assumption) ?_))))).rd).mono ?_
    rintro e u13 ⟨⟨prh, nrh, crh, rfl, orh⟩, k13⟩
    have rh := (Own.mono orh (Below.size (B := u12.heap.size) (w := u12) (by (repeat (first | (with_reducible exact Below.refl _ _) | (with_reducible refine below_setCell ?_ (by first | (simp; done) | (simp; omega) | omega)) | (with_reducible refine below_alloc _ ?_) | (with_reducible refine below_drewN ?_ _) | (with_reducible assumption) | (with_reducible refine below_after (by assumption) ?_)))))).within
    clear orh
    have m13 : Below u12.heap.size u12 u13 := below_after k13 (by (repeat (first | (with_reducible exact Below.refl _ _) | (with_reducible refine below_setCell ?_ (by first | (simp; done) | (simp; omega) | omega)) | (with_reducible refine below_alloc _ ?_) | (with_reducible refine below_drewN ?_ _) | (with_reducible assumption) | (with_reducible refine below_after (by assumption) ?_))))
    replace s0 := s0.below m13
    replace rw := rw.below m13
    replace hhrg := hhrg.below m13
    replace ay := ay.below m13
    replace xrw0 := cell_step m13 xrw0
    replace xrw1 := cell_step m13 xrw1
    replace xrw2 := cell_step m13 xrw2
    replace xrw3 := cell_step m13 xrw3
    replace xrg0 := cell_step m13 xrg0
    replace xrg1 := cell_step m13 xrg1
    replace xrg2 := cell_step m13 xrg2
    replace xrg3 := cell_step m13 xrg3
    replace qxrw := Nat.lt_of_lt_of_le qxrw m13.size
    replace qxrg := Nat.lt_of_lt_of_le qxrg m13.size
    have z13 : u12.heap.size ≤ u13.heap.size := m13.size
    replace b := m13.mono b.size |> b.trans
    clear m13 k13
    clear ay
    go_wp2_with fail
    refine (HeR.out _ _ _ (rh.below (by (repeat (first | (with_reducible exact Below.refl _ _) | (with_reducible refine below_setCell ?_ (by first | (simp; done) | (simp; omega) | omega)) | (with_reducible refine below_alloc _ ?_) | (with_reducible refine below_drewN ?_ _) | (with_reducible assumption) | (with_reducible refine below_after (by assumption) ?_))))).rd (rw.below (by (repeat (first | (with_reducible exact Below.refl _ _) | (with_reducible refine below_setCell ?_ (by first | (simp; done) | (simp; omega) | omega)) | (with_reducible refine below_alloc _ ?_) | (with_reducible refine below_drewN ?_ _) | (with_reducible assumption) | (with_reducible refine below_after (by assumption) ?_))))).rd).mono ?_
    rintro e u14 ⟨rfl, k14⟩
    have m14 : Below u13.heap.size u13 u14 := below_after k14 (by (repeat (first | (with_reducible exact Below.refl _ _) | (with_reducible refine below_setCell ?_ (by first | (simp; done) | (simp; omega) | omega)) | (with_reducible refine below_alloc _ ?_) | (with_reducible refine below_drewN ?_ _) | (with_reducible assumption) | (with_reducible refine below_after (by assumption) ?_))))
    replace s0 := s0.below m14
    replace rw := rw.below m14
    replace hhrg := hhrg.below m14
    replace rh := rh.below m14
    replace xrw0 := cell_step m14 xrw0
    replace xrw1 := cell_step m14 xrw1
    replace xrw2 := cell_step m14 xrw2
    replace xrw3 := cell_step m14 xrw3
    replace xrg0 := cell_step m14 xrg0
    replace xrg1 := cell_step m14 xrg1
    replace xrg2 := cell_step m14 xrg2
    replace xrg3 := cell_step m14 xrg3
    replace qxrw := Nat.lt_of_lt_of_le qxrw m14.size
    replace qxrg := Nat.lt_of_lt_of_le qxrg m14.size
    have qxrh : u13.heap.size < u14.heap.size := by have := k14.size; simp at this; omega
    have yqxrh := qxrh
    have xrh0 : u14.cell? ⟨u13.heap.size, 0, none⟩ = some (.int .i64 0) := by rw [(bcell k14).1 _ _ (by first | (simp; done) | (simp; omega))]; simp [go_sem]
    have xrh1 : u14.cell? ⟨u13.heap.size, 1, none⟩ = some (.slice prh nrh crh) := by rw [(bcell k14).1 _ _ (by first | (simp; done) | (simp; omega))]; simp [go_sem]
    have xrh2 : u14.cell? ⟨u13.heap.size, 2, none⟩ = some (.int .i64 fr) := by rw [(bcell k14).1 _ _ (by first | (simp; done) | (simp; omega))]; simp [go_sem]
    have xrh3 : u14.cell? ⟨u13.heap.size, 3, none⟩ = some (.slice none 0 0) := by rw [(bcell k14).1 _ _ (by first | (simp; done) | (simp; omega))]; simp [go_sem]
    have z14 : u13.heap.size ≤ u14.heap.size := m14.size
    replace b := m14.mono b.size |> b.trans
    clear m14 k14
    go_wp2_with fail
    refine (HhR.out hKRu _ _ (hhrg.below (by (repeat (first | (with_reducible exact Below.refl _ _) | (with_reducible refine below_setCell ?_ (by first | (simp; done) | (simp; omega) | omega)) | (with_reducible refine below_alloc _ ?_) | (with_reducible refine below_drewN ?_ _) | (with_reducible assumption) | (with_reducible refine below_after (by assumption) ?_)))))).mono ?_
    rintro e u15 ⟨rfl, k15⟩
    have m15 : Below u14.heap.size u14 u15 := below_after k15 (by (repeat (first | (with_reducible exact Below.refl _ _) | (with_reducible refine below_setCell ?_ (by first | (simp; done) | (simp; omega) | omega)) | (with_reducible refine below_alloc _ ?_) | (with_reducible refine below_drewN ?_ _) | (with_reducible assumption) | (with_reducible refine below_after (by assumption) ?_))))
    replace s0 := s0.below m15
    replace rw := rw.below m15
    replace hhrg := hhrg.below m15
    replace rh := rh.below m15
    replace xrw0 := cell_step m15 xrw0
    replace xrw1 := cell_step m15 xrw1
    replace xrw2 := cell_step m15 xrw2
    replace xrw3 := cell_step m15 xrw3
    replace xrg0 := cell_step m15 xrg0
    replace xrg1 := cell_step m15 xrg1
    replace xrg2 := cell_step m15 xrg2
    replace xrg3 := cell_step m15 xrg3
    replace xrh0 := cell_step m15 xrh0
    replace xrh1 := cell_step m15 xrh1
    replace xrh2 := cell_step m15 xrh2
    replace xrh3 := cell_step m15 xrh3
    replace qxrw := Nat.lt_of_lt_of_le qxrw m15.size
    replace qxrg := Nat.lt_of_lt_of_le qxrg m15.size
    replace qxrh := Nat.lt_of_lt_of_le qxrh m15.size
    have z15 : u14.heap.size ≤ u15.heap.size := m15.size
    replace b := m15.mono b.size |> b.trans
    clear m15 k15
    go_wp2
    go_ret
    exact ⟨rfl, below_after (by (repeat (first | (with_reducible exact Below.refl _ _) | (with_reducible refine below_setCell ?_ (by first | (simp; done) | (simp; omega) | omega)) | (with_reducible refine below_alloc _ ?_) | (with_reducible refine below_drewN ?_ _) | (with_reducible assumption) | (with_reducible refine below_after (by assumption) ?_)))) b⟩

end Go.Proofs.Ytejedccfmcaooaa.fnExactNewNet
