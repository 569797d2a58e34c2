/- laws.FnOldTerm: the walk. Printed by mkold2.py. -/
import Derived.Test.YtogdbjalgledpaaRunb
namespace Go.Proofs.Ytogdbjalgledpaa
open Go.RowKit

set_option maxRecDepth 100000 in
set_option maxHeartbeats 6400000 in
/-- laws.FnOldTerm answers true. -/
theorem walk {w : World} (v : Value) (cd : List UInt8) (h : Rd Cod.u8 w v cd) : Calls Try.prog 7 #[v] w fun e w' => e = .returned (.bool true) ∧ Below w.heap.size w w' := by
  by_cases hbig : 65536 < cd.length
  · obtain ⟨p, c, rfl, hc1, hc2, -⟩ := h.form
    have Hb := Lib.hid (fun W => vBig_any p cd.length c W (by unfold maxLen at hc2; omega))
    rw [decide_eq_true hbig] at Hb
    clear h hc1 hc2 hbig
    generalize cd.length = n at *
    go_enter Try.func7, Try.ntmps7
    go_wp2_with fail
    refine (Hb.out _).mono ?_
    rintro e w1 ⟨rfl, rfl⟩
    go_wp2
    go_ret
    exact ⟨rfl, by (repeat (first | (with_reducible exact Below.refl _ _) | (with_reducible refine below_setCell ?_ (by first | (simp; done) | (simp; omega) | omega)) | (with_reducible refine below_alloc _ ?_) | (with_reducible refine below_drewN ?_ _) | (with_reducible assumption) | (with_reducible refine below_after (by assumption) ?_)))⟩

  have Hv0 := Lib.hid (fun (W : World) (b : Below w.heap.size w W) => vAt_val v cd (by omega) 0 (by omega) W (h.below b))
  have Hv1 := Lib.hid (fun (W : World) (b : Below w.heap.size w W) => vAt_val v cd (by omega) 1 (by omega) W (h.below b))
  have Hvr := Lib.hid (fun (i : Nat) (hi : i ≤ 65536) (W : World) (b : Below w.heap.size w W) => vRec_any v cd (by omega) i hi W (h.below b))
  have hx0 := vAtN_lt cd 0
  have hx1 := vAtN_lt cd 1
  obtain ⟨P, B, D, E, F, f1, f2, f3, f4, f5, f6, f7, f8, f9, f10, f11, f12, f13, f14⟩ := old_facts cd (1 + vAtN cd 0 % 4) (1 + vAtN cd 1 % 2) (by omega) (by omega) (by omega)
  have F1 := Lib.hid f1
  have F2 := Lib.hid f2
  have F3 := Lib.hid f3
  have F4 := Lib.hid f4
  have F5 := Lib.hid f5
  have F6 := Lib.hid f6
  have F7 := Lib.hid f7
  have F8 := Lib.hid f8
  have F9 := Lib.hid f9
  have F10 := Lib.hid f10
  have F11 := Lib.hid f11
  have F12 := Lib.hid f12
  have F13 := Lib.hid f13
  have F14 := Lib.hid f14
  clear f1 f2 f3 f4 f5 f6 f7 f8 f9 f10 f11 f12 f13 f14
  obtain ⟨p, c, rfl, hc1, hc2, -⟩ := h.form
  have Hb := Lib.hid (fun W => vBig_any p cd.length c W (by unfold maxLen at hc2; omega))
  rw [decide_eq_false hbig] at Hb
  have hx0i : (vAtN cd 0 : Int) < 256 := by omega
  have hx1i : (vAtN cd 1 : Int) < 256 := by omega
  have HW3 : Hid (∀ k : Nat, k < 100 → ∀ W, Below w.heap.size w W → Calls Try.prog 31 #[.slice p cd.length c, .int .i64 (3 * (k : Int) + 1)] W fun e w' => e = .returned (.agg #[.int .i64 (recN cd (3 * k + 1)).Kind, .int .i64 (recN cd (3 * k + 1)).Txn, .int .i64 (recN cd (3 * k + 1)).Time, .int .i64 (recN cd (3 * k + 1)).Lead, .slice none 0 0, .slice none 0 0, .bool (recN cd (3 * k + 1)).Yes]) ∧ Below W.heap.size W w') := Lib.hid (fun k hk W b => by
    have h := Hvr.out (3 * k + 1) (by omega) W b
    rwa [show ((3 * k + 1 : Nat) : Int) = 3 * (k : Int) + 1 from by omega] at h)
  have HW40 : Hid (∀ W, Below w.heap.size w W → Calls Try.prog 31 #[.slice p cd.length c, .int .i64 40] W fun e w' => e = .returned (.agg #[.int .i64 (recN cd 40).Kind, .int .i64 (recN cd 40).Txn, .int .i64 (recN cd 40).Time, .int .i64 (recN cd 40).Lead, .slice none 0 0, .slice none 0 0, .bool (recN cd 40).Yes]) ∧ Below W.heap.size W w') := Lib.hid (fun W b => Hvr.out 40 (by omega) W b)
  have HX0 : Hid (∀ W, Below w.heap.size w W → Calls Try.prog 26 #[.slice p cd.length c, .int .i64 0] W fun e w' => e = .returned (.int .i64 (vAtN cd 0 : Int)) ∧ W = w') := Lib.hid (fun W b => Hv0.out W b)
  have HX1 : Hid (∀ W, Below w.heap.size w W → Calls Try.prog 26 #[.slice p cd.length c, .int .i64 1] W fun e w' => e = .returned (.int .i64 (vAtN cd 1 : Int)) ∧ W = w') := Lib.hid (fun W b => Hv1.out W b)
  clear h hc1 hc2 hbig hx0 hx1 Hv0 Hv1 Hvr
  generalize recN cd 40 = y40 at *
  generalize recN cd = Y at *
  generalize vAtN cd 0 = x0 at *
  generalize vAtN cd 1 = x1 at *
  generalize cd.length = n at *
  obtain ⟨m, hm⟩ : ∃ m, 1 + x0 % 4 = m := ⟨_, rfl⟩
  obtain ⟨r, hr⟩ : ∃ r, 1 + x1 % 2 = r := ⟨_, rfl⟩
  have hmI : 1 + (x0 : Int) % 4 = (m : Int) := by omega
  have hrI : 1 + (x1 : Int) % 2 = (r : Int) := by omega
  have HmI := Lib.hid hmI
  have HrI := Lib.hid hrI
  have hm5 : (m : Int) ≤ 4 := by omega
  have hr2 : (r : Int) ≤ 2 := by omega
  rw [hm] at F3 F4 F5 F13
  rw [hr] at F5 F11
  clear hrI hm hr
  go_enter Try.func7, Try.ntmps7
  go_wp2_with fail
  refine (Hb.out _).mono ?_
  rintro e w1 ⟨rfl, rfl⟩
  go_wp2_with fail
  refine (F1.out _).mono ?_
  rintro e w1 ⟨p1, c1, rfl, o1, k1⟩
  have b1 : Below w.heap.size w w1 := below_after k1 (by (repeat (first | (with_reducible exact Below.refl _ _) | (with_reducible refine below_setCell ?_ (by first | (simp; done) | (simp; omega) | omega)) | (with_reducible refine below_alloc _ ?_) | (with_reducible refine below_drewN ?_ _) | (with_reducible assumption) | (with_reducible refine below_after (by assumption) ?_))))
  have z1 : w.heap.size ≤ w1.heap.size := b1.size
  go_upto_region 4 with fail
  generalize hw2 : World.alloc _ _ = w2
  have q0 : w2.cell? ⟨w1.heap.size, 0, none⟩ = some (.slice p1 3 c1) := by rw [← hw2]; simp [go_sem]
  have q1 : w2.cell? ⟨w1.heap.size, 1, none⟩ = some (.int .i64 0) := by rw [← hw2]; simp [go_sem]
  have q2 : w2.cell? ⟨w1.heap.size, 2, none⟩ = some (.int .i64 (-1)) := by rw [← hw2]; simp [go_sem]
  have g0 : w2.frozen? ⟨w1.heap.size, 0, none⟩ = false := by rw [← hw2]; simp [go_sem]
  have g1 : w2.frozen? ⟨w1.heap.size, 1, none⟩ = false := by rw [← hw2]; simp [go_sem]
  have g2 : w2.frozen? ⟨w1.heap.size, 2, none⟩ = false := by rw [← hw2]; simp [go_sem]
  have z2 : w1.heap.size < w2.heap.size := by rw [← hw2]; simp
  have m2 : Below w1.heap.size w1 w2 := by rw [← hw2]; exact below_new _ _
  have bw2 : Below w.heap.size w w2 := below_after m2 b1
  have hR := o1.rd.below m2
  clear hw2 o1 k1 m2
  go_wp2_with fail
  have zb := z2
  refine (F2.out _ _ _ hR).mono ?_
  rintro e w3 ⟨p2, c2, rfl, o2, k2⟩
  replace q0 := cell_step k2 q0
  replace q1 := cell_step k2 q1
  replace q2 := cell_step k2 q2
  replace g0 : w3.frozen? ⟨w1.heap.size, 0, none⟩ = false := (k2.frozen (p := ⟨w1.heap.size, 0, none⟩) zb).trans g0
  replace g1 : w3.frozen? ⟨w1.heap.size, 1, none⟩ = false := (k2.frozen (p := ⟨w1.heap.size, 1, none⟩) zb).trans g1
  replace g2 : w3.frozen? ⟨w1.heap.size, 2, none⟩ = false := (k2.frozen (p := ⟨w1.heap.size, 2, none⟩) zb).trans g2
  replace z2 := Nat.lt_of_lt_of_le zb k2.size
  have bw3 : Below w.heap.size w w3 := below_after k2 bw2
  clear k2 hR
  go_upto_region 5 with fail
  generalize hwx : World.setCell _ _ _ = w4
  have n0 : w4.cell? ⟨w1.heap.size, 0, none⟩ = some (.slice p2 3 c2) := by rw [← hwx]; simp [go_sem, q0]
  have n1 : w4.cell? ⟨w1.heap.size, 1, none⟩ = some (.int .i64 1) := by rw [← hwx]; simp [go_sem, q1]
  have n2 : w4.cell? ⟨w1.heap.size, 2, none⟩ = some (.int .i64 0) := by rw [← hwx]; simp [go_sem, q2]
  have bw4 : Below w.heap.size w w4 := by rw [← hwx]; (repeat (first | (with_reducible exact Below.refl _ _) | (with_reducible refine below_setCell ?_ (by first | (simp; done) | (simp; omega) | omega)) | (with_reducible refine below_alloc _ ?_) | (with_reducible refine below_drewN ?_ _) | (with_reducible assumption) | (with_reducible refine below_after (by assumption) ?_)))
  have hR : Rd Cod.replica w4 (.slice p2 3 c2) (P 0) := (o2.keep (Nat.le_refl _) (show Keep w2.heap.size w3 w4 from by rw [← hwx]; (repeat (first | (with_reducible exact Keep.refl _ _) | (with_reducible refine keep_set ?_ (by first | (simp; done) | (simp; omega) | omega)) | (with_reducible refine keep_alloc _ ?_) | (with_reducible refine keep_drewN ?_ _) | (with_reducible assumption) | (with_reducible refine keep_below (by assumption) ?_))))).rd
  have zw4 : w1.heap.size < w4.heap.size := by rw [← hwx]; simp; omega
  replace g0 : w4.frozen? ⟨w1.heap.size, 0, none⟩ = false := by rw [← hwx]; simp only [World.frozen?_setCell]; exact g0
  replace g1 : w4.frozen? ⟨w1.heap.size, 1, none⟩ = false := by rw [← hwx]; simp only [World.frozen?_setCell]; exact g1
  replace g2 : w4.frozen? ⟨w1.heap.size, 2, none⟩ = false := by rw [← hwx]; simp only [World.frozen?_setCell]; exact g2
  clear hwx q0 q1 q2 z2 zb bw3 o2
  have q0 := n0
  have q1 := n1
  have q2 := n2
  have z2 := zw4
  clear n0 n1 n2 zw4
  go_wp2_with fail
  refine (HX0.out _ bw4).mono ?_
  rintro e w5 ⟨rfl, rfl⟩
  go_wp2
  clear hmI
  go_loopw [6] (fun i wr => ∃ (k : Nat) (p2 : Option Addr) (c2 : Nat), i = .int .i64 (k : Int) ∧ k ≤ m ∧ (wr.cell? ⟨w1.heap.size, 0, none⟩ = some (.slice p2 3 c2) ∧ wr.cell? ⟨w1.heap.size, 1, none⟩ = some (.int .i64 1) ∧ wr.cell? ⟨w1.heap.size, 2, none⟩ = some (.int .i64 0)) ∧ (wr.frozen? ⟨w1.heap.size, 0, none⟩ = false ∧ wr.frozen? ⟨w1.heap.size, 1, none⟩ = false ∧ wr.frozen? ⟨w1.heap.size, 2, none⟩ = false) ∧ w1.heap.size < wr.heap.size ∧ Rd Cod.replica wr (.slice p2 3 c2) (P k) ∧ Below w.heap.size w wr) (fun i _ => m - (intOf i).toNat)
  case atStart => exact ⟨0, p2, c2, rfl, Nat.zero_le _, ⟨q0, q1, q2⟩, ⟨g0, g1, g2⟩, z2, hR, bw4⟩
  case round =>
    clear q0 q1 q2 g0 g1 g2 z2 hR bw4
    obtain ⟨k, p2, c2, rfl, hk, ⟨q0, q1, q2⟩, ⟨g0, g1, g2⟩, z2, hR, bwr⟩ := hrel
    by_cases hlt : k < m
    · have hlt2 : (k : Int) < (m : Int) := by omega
      have hk4 : (k : Int) ≤ 4 := by omega
      have Hrec := Lib.hid (HW3.out k (by omega))
      have hwk : IntKind.i64.wrap (IntKind.i64.wrap (3 * (k : Int)) + 1) = 3 * (k : Int) + 1 := by rw [IntWalk.i64_in (3 * (k : Int)) (by omega), IntWalk.i64_in _ (by omega)]
      have Hput := Lib.hid (F3.out k hlt)
      generalize Y (3 * k + 1) = y at *
      go_upto_region 9 with fail
      refine wp_region_d 10 (fun w' => w'.cell? ⟨w1.heap.size, 0, none⟩ = some (.slice p2 3 c2) ∧ w'.cell? ⟨w1.heap.size, 1, none⟩ = some (.int .i64 1) ∧ w'.cell? ⟨w1.heap.size, 2, none⟩ = some (.int .i64 0)) (by kernel_rfl) ?_
      have hS : wr.drew.cell? ⟨w1.heap.size, 0, none⟩ = some (.slice p2 3 c2) ∧ wr.drew.cell? ⟨w1.heap.size, 1, none⟩ = some (.int .i64 1) ∧ wr.drew.cell? ⟨w1.heap.size, 2, none⟩ = some (.int .i64 0) := ⟨q0, q1, q2⟩
      refine d_take (f := 30) (v := ?_) 0 rfl (by kernel_rfl) (fun _ _ _ h => h) (Or.inl ⟨by rfl, ?_⟩) hS ?_
      rotate_left
      · intro wx hx
        obtain ⟨x0, x1, x2⟩ := hx
        first | (go_simp; done) | (go_simp; with_reducible rfl)
      simp only [Act.put, List.setIfInBounds_toArray]
      refine d_take (f := 30) (v := ?_) 1 rfl (by kernel_rfl) (fun _ _ _ h => h) (Or.inl ⟨by rfl, ?_⟩) hS ?_
      rotate_left
      · intro wx hx
        obtain ⟨x0, x1, x2⟩ := hx
        first | (go_simp; done) | (go_simp; with_reducible rfl)
      simp only [Act.put]
      refine d_take (f := 30) (v := ?_) 2 rfl (by kernel_rfl) (fun _ _ _ h => h) (Or.inl ⟨by rfl, ?_⟩) hS ?_
      rotate_left
      · intro wx hx
        obtain ⟨x0, x1, x2⟩ := hx
        first | (go_simp; done) | (go_simp; with_reducible rfl)
      simp only [Act.put]
      refine d_take (f := 30) (v := ?_) 3 rfl (by kernel_rfl) (fun _ _ _ h => h) (Or.inl ⟨by rfl, ?_⟩) hS ?_
      rotate_left
      · intro wx hx
        obtain ⟨x0, x1, x2⟩ := hx
        first | (go_simp; done) | (go_simp; with_reducible rfl)
      simp only [Act.put]
      refine d_take (f := 30) (v := ?_) 4 rfl (by kernel_rfl) (fun _ _ _ h => h) (Or.inl ⟨by rfl, ?_⟩) hS ?_
      rotate_left
      · intro wx hx
        obtain ⟨x0, x1, x2⟩ := hx
        first | (go_simp; done) | (go_simp; with_reducible rfl)
      simp only [Act.put]
      refine d_step 5 (by kernel_rfl) rfl (fun K hK => ?_)
      go_simp
      go_at_call 31
      refine (Hrec.out _ (show Below w.heap.size w wr.drew from by (repeat (first | (with_reducible exact Below.refl _ _) | (with_reducible refine below_setCell ?_ (by first | (simp; done) | (simp; omega) | omega)) | (with_reducible refine below_alloc _ ?_) | (with_reducible refine below_drewN ?_ _) | (with_reducible refine below_drew_step ?_) | (with_reducible assumption) | (with_reducible refine below_after (by assumption) ?_))))).mono ?_
      rintro e wv ⟨rfl, kv⟩
      have mv : Below wr.heap.size wr wv := below_after kv (by (repeat (first | (with_reducible exact Below.refl _ _) | (with_reducible refine below_setCell ?_ (by first | (simp; done) | (simp; omega) | omega)) | (with_reducible refine below_alloc _ ?_) | (with_reducible refine below_drewN ?_ _) | (with_reducible refine below_drew_step ?_) | (with_reducible assumption) | (with_reducible refine below_after (by assumption) ?_))))
      have hRv := hR.below mv
      have bv : Below w.heap.size w wv := below_after mv bwr
      replace q0 := cell_step mv q0
      replace q1 := cell_step mv q1
      replace q2 := cell_step mv q2
      replace g0 : wv.frozen? ⟨w1.heap.size, 0, none⟩ = false := (mv.frozen (p := ⟨w1.heap.size, 0, none⟩) z2).trans g0
      replace g1 : wv.frozen? ⟨w1.heap.size, 1, none⟩ = false := (mv.frozen (p := ⟨w1.heap.size, 1, none⟩) z2).trans g1
      replace g2 : wv.frozen? ⟨w1.heap.size, 2, none⟩ = false := (mv.frozen (p := ⟨w1.heap.size, 2, none⟩) z2).trans g2
      have zb : w1.heap.size < wv.heap.size := Nat.lt_of_lt_of_le z2 mv.size
      have hSv : wv.cell? ⟨w1.heap.size, 0, none⟩ = some (.slice p2 3 c2) ∧ wv.cell? ⟨w1.heap.size, 1, none⟩ = some (.int .i64 1) ∧ wv.cell? ⟨w1.heap.size, 2, none⟩ = some (.int .i64 0) := ⟨q0, q1, q2⟩
      refine hK.out _ _ (fun _ => hSv) ?_
      clear hK K
      try simp only [Act.put, List.setIfInBounds_toArray, List.set_cons_zero, List.set_cons_succ]
      refine d_step 6 (by kernel_rfl) rfl (fun K hK => ?_)
      go_simp
      go_at_call 22
      refine (Hput.out _ _ _ hRv).mono ?_
      rintro e wm ⟨p3, c3, rfl, o2, k2⟩
      replace q0 := cell_step k2 q0
      replace q1 := cell_step k2 q1
      replace q2 := cell_step k2 q2
      replace g0 : wm.frozen? ⟨w1.heap.size, 0, none⟩ = false := (k2.frozen (p := ⟨w1.heap.size, 0, none⟩) zb).trans g0
      replace g1 : wm.frozen? ⟨w1.heap.size, 1, none⟩ = false := (k2.frozen (p := ⟨w1.heap.size, 1, none⟩) zb).trans g1
      replace g2 : wm.frozen? ⟨w1.heap.size, 2, none⟩ = false := (k2.frozen (p := ⟨w1.heap.size, 2, none⟩) zb).trans g2
      have zm : w1.heap.size < wm.heap.size := Nat.lt_of_lt_of_le zb k2.size
      have bwm : Below w.heap.size w wm := below_after k2 bv
      have hSm : wm.cell? ⟨w1.heap.size, 0, none⟩ = some (.slice p2 3 c2) ∧ wm.cell? ⟨w1.heap.size, 1, none⟩ = some (.int .i64 1) ∧ wm.cell? ⟨w1.heap.size, 2, none⟩ = some (.int .i64 0) := ⟨q0, q1, q2⟩
      refine hK.out _ _ (fun _ => hSm) ?_
      clear hK K
      try simp only [Act.put, List.setIfInBounds_toArray, List.set_cons_zero, List.set_cons_succ]
      refine d_takeY (v := ?_) 7 rfl (by kernel_rfl) (fun _ _ _ h => h) (Or.inl ⟨by rfl, ?_⟩) hSm ?_
      rotate_left
      · intro wx _
        first | (go_simp; done) | (go_simp; with_reducible rfl)
      simp only [Act.put, List.setIfInBounds_toArray]
      refine d_takeY (v := ?_) 8 rfl (by kernel_rfl) (fun _ _ _ h => h) (Or.inl ⟨by rfl, ?_⟩) hSm ?_
      rotate_left
      · intro wx _
        first | (go_simp; done) | (go_simp; with_reducible rfl)
      simp only [Act.put]
      refine d_takeY (v := ?_) 9 rfl (by kernel_rfl) (fun _ _ _ h => h) (Or.inl ⟨by rfl, ?_⟩) hSm ?_
      rotate_left
      · intro wx _
        first | (go_simp; done) | (go_simp; with_reducible rfl)
      simp only [Act.put]
      refine d_step 10 (by kernel_rfl) rfl (fun K hK => ?_)
      go_simp
      refine hK.out _ _ (fun h => by exact absurd h (by decide)) ?_
      clear hK K
      refine d_done (by kernel_rfl) ?_ _
      try simp only [Act.put, List.setIfInBounds_toArray, List.set_cons_zero, List.set_cons_succ]
      generalize hwx : World.setCell _ _ _ = wy
      have n0 : wy.cell? ⟨w1.heap.size, 0, none⟩ = some (.slice p3 3 c3) := by rw [← hwx]; simp [go_sem, q0]
      have n1 : wy.cell? ⟨w1.heap.size, 1, none⟩ = some (.int .i64 1) := by rw [← hwx]; simp [go_sem, q1]
      have n2 : wy.cell? ⟨w1.heap.size, 2, none⟩ = some (.int .i64 0) := by rw [← hwx]; simp [go_sem, q2]
      have bwy : Below w.heap.size w wy := by rw [← hwx]; (repeat (first | (with_reducible exact Below.refl _ _) | (with_reducible refine below_setCell ?_ (by first | (simp; done) | (simp; omega) | omega)) | (with_reducible refine below_alloc _ ?_) | (with_reducible refine below_drewN ?_ _) | (with_reducible assumption) | (with_reducible refine below_after (by assumption) ?_)))
      have hR : Rd Cod.replica wy (.slice p3 3 c3) (P (k + 1)) := (o2.keep (Nat.le_refl _) (show Keep wv.heap.size wm wy from by rw [← hwx]; (repeat (first | (with_reducible exact Keep.refl _ _) | (with_reducible refine keep_set ?_ (by first | (simp; done) | (simp; omega) | omega)) | (with_reducible refine keep_alloc _ ?_) | (with_reducible refine keep_drewN ?_ _) | (with_reducible assumption) | (with_reducible refine keep_below (by assumption) ?_))))).rd
      have zwy : w1.heap.size < wy.heap.size := by rw [← hwx]; simp; exact zm
      replace g0 : wy.frozen? ⟨w1.heap.size, 0, none⟩ = false := by rw [← hwx]; simp only [World.frozen?_setCell]; exact g0
      replace g1 : wy.frozen? ⟨w1.heap.size, 1, none⟩ = false := by rw [← hwx]; simp only [World.frozen?_setCell]; exact g1
      replace g2 : wy.frozen? ⟨w1.heap.size, 2, none⟩ = false := by rw [← hwx]; simp only [World.frozen?_setCell]; exact g2
      clear hwx q0 q1 q2 z2 zb zm bwm o2 hS
      have q0 := n0
      have q1 := n1
      have q2 := n2
      have z2 := zwy
      clear n0 n1 n2 zwy
      go_wp2
      go_roundw
      case rel => exact ⟨k + 1, p3, c3, by go_num, by omega, ⟨q0, q1, q2⟩, ⟨g0, g1, g2⟩, z2, hR, bwy⟩
      case measure => simp [intOf]; omega
    · have hlt2 : (m : Int) ≤ (k : Int) := by omega
      obtain rfl : m = k := by omega
      have hrI := HrI.out
      have hwr : IntKind.i64.wrap (1 + (x1 : Int).tmod 2) = (r : Int) := by rw [Int.tmod_eq_emod_of_nonneg (by omega), IntWalk.i64_in _ (by omega)]; exact hrI
      clear HW3 F3 F1 F2 Hb HX0
      go_wp2_with fail
      have zb := z2
      refine (F4.out _ _ _ hR).mono ?_
      rintro e w3 ⟨p3, c3, rfl, o2, k2⟩
      replace q0 := cell_step k2 q0
      replace q1 := cell_step k2 q1
      replace q2 := cell_step k2 q2
      replace g0 : w3.frozen? ⟨w1.heap.size, 0, none⟩ = false := (k2.frozen (p := ⟨w1.heap.size, 0, none⟩) zb).trans g0
      replace g1 : w3.frozen? ⟨w1.heap.size, 1, none⟩ = false := (k2.frozen (p := ⟨w1.heap.size, 1, none⟩) zb).trans g1
      replace g2 : w3.frozen? ⟨w1.heap.size, 2, none⟩ = false := (k2.frozen (p := ⟨w1.heap.size, 2, none⟩) zb).trans g2
      replace z2 := Nat.lt_of_lt_of_le zb k2.size
      have bw3 : Below w.heap.size w w3 := below_after k2 bwr
      clear k2 hR
      go_upto_region 11 with fail
      generalize hwx : World.setCell _ _ _ = wa
      have n0 : wa.cell? ⟨w1.heap.size, 0, none⟩ = some (.slice p3 3 c3) := by rw [← hwx]; simp [go_sem, q0]
      have n1 : wa.cell? ⟨w1.heap.size, 1, none⟩ = some (.int .i64 2) := by rw [← hwx]; simp [go_sem, q1]
      have n2 : wa.cell? ⟨w1.heap.size, 2, none⟩ = some (.int .i64 0) := by rw [← hwx]; simp [go_sem, q2]
      have bwa : Below w.heap.size w wa := by rw [← hwx]; (repeat (first | (with_reducible exact Below.refl _ _) | (with_reducible refine below_setCell ?_ (by first | (simp; done) | (simp; omega) | omega)) | (with_reducible refine below_alloc _ ?_) | (with_reducible refine below_drewN ?_ _) | (with_reducible assumption) | (with_reducible refine below_after (by assumption) ?_)))
      have hR : Rd Cod.replica wa (.slice p3 3 c3) (P m) := (o2.keep (Nat.le_refl _) (show Keep wr.heap.size w3 wa from by rw [← hwx]; (repeat (first | (with_reducible exact Keep.refl _ _) | (with_reducible refine keep_set ?_ (by first | (simp; done) | (simp; omega) | omega)) | (with_reducible refine keep_alloc _ ?_) | (with_reducible refine keep_drewN ?_ _) | (with_reducible assumption) | (with_reducible refine keep_below (by assumption) ?_))))).rd
      have zwa : w1.heap.size < wa.heap.size := by rw [← hwx]; simp; omega
      replace g0 : wa.frozen? ⟨w1.heap.size, 0, none⟩ = false := by rw [← hwx]; simp only [World.frozen?_setCell]; exact g0
      replace g1 : wa.frozen? ⟨w1.heap.size, 1, none⟩ = false := by rw [← hwx]; simp only [World.frozen?_setCell]; exact g1
      replace g2 : wa.frozen? ⟨w1.heap.size, 2, none⟩ = false := by rw [← hwx]; simp only [World.frozen?_setCell]; exact g2
      clear hwx q0 q1 q2 z2 zb bw3 o2
      have q0 := n0
      have q1 := n1
      have q2 := n2
      have z2 := zwa
      clear n0 n1 n2 zwa
      go_upto_region 11 with fail
      refine wp_region_d 9 (fun w' => w'.cell? ⟨w1.heap.size, 0, none⟩ = some (.slice p3 3 c3) ∧ w'.cell? ⟨w1.heap.size, 1, none⟩ = some (.int .i64 2) ∧ w'.cell? ⟨w1.heap.size, 2, none⟩ = some (.int .i64 0)) (by kernel_rfl) ?_
      have hS : wa.drew.cell? ⟨w1.heap.size, 0, none⟩ = some (.slice p3 3 c3) ∧ wa.drew.cell? ⟨w1.heap.size, 1, none⟩ = some (.int .i64 2) ∧ wa.drew.cell? ⟨w1.heap.size, 2, none⟩ = some (.int .i64 0) := ⟨q0, q1, q2⟩
      refine d_take (f := 30) (v := ?_) 0 rfl (by kernel_rfl) (fun _ _ _ h => h) (Or.inl ⟨by rfl, ?_⟩) hS ?_
      rotate_left
      · intro wx hx
        obtain ⟨x0, x1, x2⟩ := hx
        first | (go_simp; done) | (go_simp; with_reducible rfl)
      simp only [Act.put, List.setIfInBounds_toArray]
      refine d_take (f := 30) (v := ?_) 1 rfl (by kernel_rfl) (fun _ _ _ h => h) (Or.inl ⟨by rfl, ?_⟩) hS ?_
      rotate_left
      · intro wx hx
        obtain ⟨x0, x1, x2⟩ := hx
        first | (go_simp; done) | (go_simp; with_reducible rfl)
      simp only [Act.put]
      refine d_step 2 (by kernel_rfl) rfl (fun K hK => ?_)
      go_simp
      go_at_call 26
      refine (HX1.out _ (show Below w.heap.size w wa.drew from by (repeat (first | (with_reducible exact Below.refl _ _) | (with_reducible refine below_setCell ?_ (by first | (simp; done) | (simp; omega) | omega)) | (with_reducible refine below_alloc _ ?_) | (with_reducible refine below_drewN ?_ _) | (with_reducible refine below_drew_step ?_) | (with_reducible assumption) | (with_reducible refine below_after (by assumption) ?_))))).mono ?_
      rintro e wv ⟨rfl, rfl⟩
      refine hK.out _ _ (fun _ => hS) ?_
      clear hK K
      try simp only [Act.put, List.setIfInBounds_toArray, List.set_cons_zero, List.set_cons_succ]
      have hRv : Rd Cod.replica wa.drew _ _ := hR.below (show Below wa.heap.size wa wa.drew from by (repeat (first | (with_reducible exact Below.refl _ _) | (with_reducible refine below_setCell ?_ (by first | (simp; done) | (simp; omega) | omega)) | (with_reducible refine below_alloc _ ?_) | (with_reducible refine below_drewN ?_ _) | (with_reducible refine below_drew_step ?_) | (with_reducible assumption) | (with_reducible refine below_after (by assumption) ?_))))
      have bv : Below w.heap.size w wa.drew := by (repeat (first | (with_reducible exact Below.refl _ _) | (with_reducible refine below_setCell ?_ (by first | (simp; done) | (simp; omega) | omega)) | (with_reducible refine below_alloc _ ?_) | (with_reducible refine below_drewN ?_ _) | (with_reducible refine below_drew_step ?_) | (with_reducible assumption) | (with_reducible refine below_after (by assumption) ?_)))
      have zb : w1.heap.size < wa.drew.heap.size := z2
      have sv : wa.heap.size ≤ wa.drew.heap.size := Nat.le_refl _
      refine d_take (f := 30) (v := ?_) 3 rfl (by kernel_rfl) (fun _ _ _ h => h) (Or.inl ⟨by rfl, ?_⟩) hS ?_
      rotate_left
      · intro wx hx
        obtain ⟨x0, x1, x2⟩ := hx
        first | (go_simp; done) | (go_simp; with_reducible rfl)
      simp only [Act.put, List.setIfInBounds_toArray]
      refine d_take (f := 30) (v := ?_) 4 rfl (by kernel_rfl) (fun _ _ _ h => h) (Or.inl ⟨by rfl, ?_⟩) hS ?_
      rotate_left
      · intro wx hx
        obtain ⟨x0, x1, x2⟩ := hx
        first | (go_simp; done) | (go_simp; with_reducible rfl)
      simp only [Act.put]
      replace q0 : wa.drew.cell? ⟨w1.heap.size, 0, none⟩ = _ := q0
      replace q1 : wa.drew.cell? ⟨w1.heap.size, 1, none⟩ = _ := q1
      replace q2 : wa.drew.cell? ⟨w1.heap.size, 2, none⟩ = _ := q2
      replace g0 : wa.drew.frozen? ⟨w1.heap.size, 0, none⟩ = false := g0
      replace g1 : wa.drew.frozen? ⟨w1.heap.size, 1, none⟩ = false := g1
      replace g2 : wa.drew.frozen? ⟨w1.heap.size, 2, none⟩ = false := g2
      refine d_step 5 (by kernel_rfl) rfl (fun K hK => ?_)
      go_simp
      go_at_call 32
      refine (F5.out _ _ _ hRv).mono ?_
      rintro e wm ⟨p4, c4, rfl, o2, k2⟩
      replace q0 := cell_step k2 q0
      replace q1 := cell_step k2 q1
      replace q2 := cell_step k2 q2
      replace g0 : wm.frozen? ⟨w1.heap.size, 0, none⟩ = false := (k2.frozen (p := ⟨w1.heap.size, 0, none⟩) zb).trans g0
      replace g1 : wm.frozen? ⟨w1.heap.size, 1, none⟩ = false := (k2.frozen (p := ⟨w1.heap.size, 1, none⟩) zb).trans g1
      replace g2 : wm.frozen? ⟨w1.heap.size, 2, none⟩ = false := (k2.frozen (p := ⟨w1.heap.size, 2, none⟩) zb).trans g2
      have zm : w1.heap.size < wm.heap.size := Nat.lt_of_lt_of_le zb k2.size
      have bwm : Below w.heap.size w wm := below_after k2 bv
      have hSm : wm.cell? ⟨w1.heap.size, 0, none⟩ = some (.slice p3 3 c3) ∧ wm.cell? ⟨w1.heap.size, 1, none⟩ = some (.int .i64 2) ∧ wm.cell? ⟨w1.heap.size, 2, none⟩ = some (.int .i64 0) := ⟨q0, q1, q2⟩
      refine hK.out _ _ (fun _ => hSm) ?_
      clear hK K
      try simp only [Act.put, List.setIfInBounds_toArray, List.set_cons_zero, List.set_cons_succ]
      refine d_takeY (v := ?_) 6 rfl (by kernel_rfl) (fun _ _ _ h => h) (Or.inl ⟨by rfl, ?_⟩) hSm ?_
      rotate_left
      · intro wx _
        first | (go_simp; done) | (go_simp; with_reducible rfl)
      simp only [Act.put, List.setIfInBounds_toArray]
      refine d_takeY (v := ?_) 7 rfl (by kernel_rfl) (fun _ _ _ h => h) (Or.inl ⟨by rfl, ?_⟩) hSm ?_
      rotate_left
      · intro wx _
        first | (go_simp; done) | (go_simp; with_reducible rfl)
      simp only [Act.put]
      refine d_takeY (v := ?_) 8 rfl (by kernel_rfl) (fun _ _ _ h => h) (Or.inl ⟨by rfl, ?_⟩) hSm ?_
      rotate_left
      · intro wx _
        first | (go_simp; done) | (go_simp; with_reducible rfl)
      simp only [Act.put]
      refine d_step 9 (by kernel_rfl) rfl (fun K hK => ?_)
      go_simp
      refine hK.out _ _ (fun h => by exact absurd h (by decide)) ?_
      clear hK K
      refine d_done (by kernel_rfl) ?_ _
      try simp only [Act.put, List.setIfInBounds_toArray, List.set_cons_zero, List.set_cons_succ]
      generalize hwx : World.setCell _ _ _ = wb
      have n0 : wb.cell? ⟨w1.heap.size, 0, none⟩ = some (.slice p4 3 c4) := by rw [← hwx]; simp [go_sem, q0]
      have n1 : wb.cell? ⟨w1.heap.size, 1, none⟩ = some (.int .i64 2) := by rw [← hwx]; simp [go_sem, q1]
      have n2 : wb.cell? ⟨w1.heap.size, 2, none⟩ = some (.int .i64 0) := by rw [← hwx]; simp [go_sem, q2]
      have bwb : Below w.heap.size w wb := by rw [← hwx]; (repeat (first | (with_reducible exact Below.refl _ _) | (with_reducible refine below_setCell ?_ (by first | (simp; done) | (simp; omega) | omega)) | (with_reducible refine below_alloc _ ?_) | (with_reducible refine below_drewN ?_ _) | (with_reducible assumption) | (with_reducible refine below_after (by assumption) ?_)))
      have hR : Rd Cod.replica wb (.slice p4 3 c4) B := (o2.keep (Nat.le_refl _) (show Keep wa.drew.heap.size wm wb from by rw [← hwx]; (repeat (first | (with_reducible exact Keep.refl _ _) | (with_reducible refine keep_set ?_ (by first | (simp; done) | (simp; omega) | omega)) | (with_reducible refine keep_alloc _ ?_) | (with_reducible refine keep_drewN ?_ _) | (with_reducible assumption) | (with_reducible refine keep_below (by assumption) ?_))))).rd
      have zwb : w1.heap.size < wb.heap.size := by rw [← hwx]; simp; exact zm
      replace g0 : wb.frozen? ⟨w1.heap.size, 0, none⟩ = false := by rw [← hwx]; simp only [World.frozen?_setCell]; exact g0
      replace g1 : wb.frozen? ⟨w1.heap.size, 1, none⟩ = false := by rw [← hwx]; simp only [World.frozen?_setCell]; exact g1
      replace g2 : wb.frozen? ⟨w1.heap.size, 2, none⟩ = false := by rw [← hwx]; simp only [World.frozen?_setCell]; exact g2
      clear hwx q0 q1 q2 z2 zb zm bwm o2 hS
      have q0 := n0
      have q1 := n1
      have q2 := n2
      have z2 := zwb
      clear n0 n1 n2 zwb

      go_wp2_with fail
      have zb := z2
      refine (F6.out _ _ _ hR).mono ?_
      rintro e w7 ⟨p5, c5, rfl, o5, k5⟩
      replace q0 := cell_step k5 q0
      replace q1 := cell_step k5 q1
      replace q2 := cell_step k5 q2
      replace g0 : w7.frozen? ⟨w1.heap.size, 0, none⟩ = false := (k5.frozen (p := ⟨w1.heap.size, 0, none⟩) zb).trans g0
      replace g1 : w7.frozen? ⟨w1.heap.size, 1, none⟩ = false := (k5.frozen (p := ⟨w1.heap.size, 1, none⟩) zb).trans g1
      replace g2 : w7.frozen? ⟨w1.heap.size, 2, none⟩ = false := (k5.frozen (p := ⟨w1.heap.size, 2, none⟩) zb).trans g2
      replace z2 := Nat.lt_of_lt_of_le zb k5.size
      have bw7 : Below w.heap.size w w7 := below_after k5 bwb
      have hR7 := hR.below k5
      have hA7 := o5.rd
      clear k5 o5 hR bwb
      go_upto_region 13 with fail
      generalize hw8 : World.alloc _ _ = w8
      have a0 : w8.cell? ⟨w7.heap.size, 0, none⟩ = some (.slice p5 3 c5) := by rw [← hw8]; simp [go_sem]
      have a1 : w8.cell? ⟨w7.heap.size, 1, none⟩ = some (.int .i64 2) := by rw [← hw8]; simp [go_sem]
      have a2 : w8.cell? ⟨w7.heap.size, 2, none⟩ = some (.int .i64 0) := by rw [← hw8]; simp [go_sem]
      have za : w7.heap.size < w8.heap.size := by rw [← hw8]; simp
      have m8 : Below w7.heap.size w7 w8 := by rw [← hw8]; exact below_new _ _
      replace q0 := cell_step m8 q0
      replace q1 := cell_step m8 q1
      replace q2 := cell_step m8 q2
      replace g0 : w8.frozen? ⟨w1.heap.size, 0, none⟩ = false := (m8.frozen (p := ⟨w1.heap.size, 0, none⟩) z2).trans g0
      replace g1 : w8.frozen? ⟨w1.heap.size, 1, none⟩ = false := (m8.frozen (p := ⟨w1.heap.size, 1, none⟩) z2).trans g1
      replace g2 : w8.frozen? ⟨w1.heap.size, 2, none⟩ = false := (m8.frozen (p := ⟨w1.heap.size, 2, none⟩) z2).trans g2
      replace z2 := Nat.lt_of_lt_of_le z2 m8.size
      have bw8 : Below w.heap.size w w8 := below_after m8 bw7
      have hR8 := hR7.below m8
      have hA8 := hA7.below m8
      clear hw8 m8 hR7 hA7 bw7
      go_wp2_with fail
      refine (F7.out _ _ _ hR8).mono ?_
      rintro e w9 ⟨p6, c6, rfl, o9, k9⟩
      replace q0 := cell_step k9 q0
      replace q1 := cell_step k9 q1
      replace q2 := cell_step k9 q2
      replace a0 := cell_step k9 a0
      replace a1 := cell_step k9 a1
      replace a2 := cell_step k9 a2
      replace g0 : w9.frozen? ⟨w1.heap.size, 0, none⟩ = false := (k9.frozen (p := ⟨w1.heap.size, 0, none⟩) z2).trans g0
      replace g1 : w9.frozen? ⟨w1.heap.size, 1, none⟩ = false := (k9.frozen (p := ⟨w1.heap.size, 1, none⟩) z2).trans g1
      replace g2 : w9.frozen? ⟨w1.heap.size, 2, none⟩ = false := (k9.frozen (p := ⟨w1.heap.size, 2, none⟩) z2).trans g2
      replace z2 := Nat.lt_of_lt_of_le z2 k9.size
      replace za := Nat.lt_of_lt_of_le za k9.size
      have bw9 : Below w.heap.size w w9 := below_after k9 bw8
      have hA9 := hA8.below k9
      have hX9 := o9.rd
      clear k9 o9 hR8 hA8 bw8
      go_upto_region 14 with fail
      generalize hw10 : World.alloc _ _ = w10
      have b0 : w10.cell? ⟨w9.heap.size, 0, none⟩ = some (.slice p6 3 c6) := by rw [← hw10]; simp [go_sem]
      have b1 : w10.cell? ⟨w9.heap.size, 1, none⟩ = some (.int .i64 2) := by rw [← hw10]; simp [go_sem]
      have b2 : w10.cell? ⟨w9.heap.size, 2, none⟩ = some (.int .i64 0) := by rw [← hw10]; simp [go_sem]
      have m10 : Below w9.heap.size w9 w10 := by rw [← hw10]; exact below_new _ _
      replace q0 := cell_step m10 q0
      replace q1 := cell_step m10 q1
      replace q2 := cell_step m10 q2
      replace a0 := cell_step m10 a0
      replace a1 := cell_step m10 a1
      replace a2 := cell_step m10 a2
      replace g0 : w10.frozen? ⟨w1.heap.size, 0, none⟩ = false := (m10.frozen (p := ⟨w1.heap.size, 0, none⟩) z2).trans g0
      replace g1 : w10.frozen? ⟨w1.heap.size, 1, none⟩ = false := (m10.frozen (p := ⟨w1.heap.size, 1, none⟩) z2).trans g1
      replace g2 : w10.frozen? ⟨w1.heap.size, 2, none⟩ = false := (m10.frozen (p := ⟨w1.heap.size, 2, none⟩) z2).trans g2
      replace z2 := Nat.lt_of_lt_of_le z2 m10.size
      replace za := Nat.lt_of_lt_of_le za m10.size
      have bw10 : Below w.heap.size w w10 := below_after m10 bw9
      have hA10 := hA9.below m10
      have hX10 := hX9.below m10
      clear hw10 m10 hA9 hX9 bw9
      go_wp2_with fail
      refine (F8.out _ _ _ _ _ hA10 hX10).mono ?_
      rintro e w11 ⟨rfl, k11⟩
      replace q0 := cell_step k11 q0
      replace q1 := cell_step k11 q1
      replace q2 := cell_step k11 q2
      replace a0 := cell_step k11 a0
      replace a1 := cell_step k11 a1
      replace a2 := cell_step k11 a2
      replace g0 : w11.frozen? ⟨w1.heap.size, 0, none⟩ = false := (k11.frozen (p := ⟨w1.heap.size, 0, none⟩) z2).trans g0
      replace g1 : w11.frozen? ⟨w1.heap.size, 1, none⟩ = false := (k11.frozen (p := ⟨w1.heap.size, 1, none⟩) z2).trans g1
      replace g2 : w11.frozen? ⟨w1.heap.size, 2, none⟩ = false := (k11.frozen (p := ⟨w1.heap.size, 2, none⟩) z2).trans g2
      replace z2 := Nat.lt_of_lt_of_le z2 k11.size
      replace za := Nat.lt_of_lt_of_le za k11.size
      have bw11 : Below w.heap.size w w11 := below_after k11 bw10
      have hA11 := hA10.below k11
      clear k11 hA10 hX10 bw10 b0 b1 b2
      go_wp2_with fail
      refine (F9.out _ _ _ hA11).mono ?_
      rintro e w12 ⟨ps, cs, rfl, k12⟩
      replace q0 := cell_step k12 q0
      replace q1 := cell_step k12 q1
      replace q2 := cell_step k12 q2
      replace a0 := cell_step k12 a0
      replace a1 := cell_step k12 a1
      replace a2 := cell_step k12 a2
      replace g0 : w12.frozen? ⟨w1.heap.size, 0, none⟩ = false := (k12.frozen (p := ⟨w1.heap.size, 0, none⟩) z2).trans g0
      replace g1 : w12.frozen? ⟨w1.heap.size, 1, none⟩ = false := (k12.frozen (p := ⟨w1.heap.size, 1, none⟩) z2).trans g1
      replace g2 : w12.frozen? ⟨w1.heap.size, 2, none⟩ = false := (k12.frozen (p := ⟨w1.heap.size, 2, none⟩) z2).trans g2
      replace z2 := Nat.lt_of_lt_of_le z2 k12.size
      replace za := Nat.lt_of_lt_of_le za k12.size
      have bw12 : Below w.heap.size w w12 := below_after k12 bw11
      have hR := hA11.below k12
      clear k12 hA11 bw11
      go_upto_region 17 with fail
      refine wp_region_d 7 (fun w' => w'.cell? ⟨w7.heap.size, 0, none⟩ = some (.slice p5 3 c5) ∧ w'.cell? ⟨w7.heap.size, 1, none⟩ = some (.int .i64 2) ∧ w'.cell? ⟨w7.heap.size, 2, none⟩ = some (.int .i64 0)) (by kernel_rfl) ?_
      have hS : w12.drew.cell? ⟨w7.heap.size, 0, none⟩ = some (.slice p5 3 c5) ∧ w12.drew.cell? ⟨w7.heap.size, 1, none⟩ = some (.int .i64 2) ∧ w12.drew.cell? ⟨w7.heap.size, 2, none⟩ = some (.int .i64 0) := ⟨a0, a1, a2⟩
      refine d_take (f := 30) (v := ?_) 0 rfl (by kernel_rfl) (fun _ _ _ h => h) (Or.inl ⟨by rfl, ?_⟩) hS ?_
      rotate_left
      · intro wx hx
        obtain ⟨x0, x1, x2⟩ := hx
        first | (go_simp; done) | (go_simp; with_reducible rfl)
      simp only [Act.put, List.setIfInBounds_toArray]
      refine d_take (f := 30) (v := ?_) 1 rfl (by kernel_rfl) (fun _ _ _ h => h) (Or.inl ⟨by rfl, ?_⟩) hS ?_
      rotate_left
      · intro wx hx
        obtain ⟨x0, x1, x2⟩ := hx
        first | (go_simp; done) | (go_simp; with_reducible rfl)
      simp only [Act.put]
      refine d_step 2 (by kernel_rfl) rfl (fun K hK => ?_)
      go_simp
      go_at_call 31
      refine (HW40.out _ (show Below w.heap.size w w12.drew from by (repeat (first | (with_reducible exact Below.refl _ _) | (with_reducible refine below_setCell ?_ (by first | (simp; done) | (simp; omega) | omega)) | (with_reducible refine below_alloc _ ?_) | (with_reducible refine below_drewN ?_ _) | (with_reducible refine below_drew_step ?_) | (with_reducible assumption) | (with_reducible refine below_after (by assumption) ?_))))).mono ?_
      rintro e wv ⟨rfl, kv⟩
      have mv : Below w12.heap.size w12 wv := below_after kv (by (repeat (first | (with_reducible exact Below.refl _ _) | (with_reducible refine below_setCell ?_ (by first | (simp; done) | (simp; omega) | omega)) | (with_reducible refine below_alloc _ ?_) | (with_reducible refine below_drewN ?_ _) | (with_reducible refine below_drew_step ?_) | (with_reducible assumption) | (with_reducible refine below_after (by assumption) ?_))))
      have hRv := hR.below mv
      have bv : Below w.heap.size w wv := below_after mv bw12
      replace q0 := cell_step mv q0
      replace q1 := cell_step mv q1
      replace q2 := cell_step mv q2
      replace a0 := cell_step mv a0
      replace a1 := cell_step mv a1
      replace a2 := cell_step mv a2
      replace g0 : wv.frozen? ⟨w1.heap.size, 0, none⟩ = false := (mv.frozen (p := ⟨w1.heap.size, 0, none⟩) z2).trans g0
      replace g1 : wv.frozen? ⟨w1.heap.size, 1, none⟩ = false := (mv.frozen (p := ⟨w1.heap.size, 1, none⟩) z2).trans g1
      replace g2 : wv.frozen? ⟨w1.heap.size, 2, none⟩ = false := (mv.frozen (p := ⟨w1.heap.size, 2, none⟩) z2).trans g2
      have zb : w1.heap.size < wv.heap.size := Nat.lt_of_lt_of_le z2 mv.size
      have hSv : wv.cell? ⟨w7.heap.size, 0, none⟩ = some (.slice p5 3 c5) ∧ wv.cell? ⟨w7.heap.size, 1, none⟩ = some (.int .i64 2) ∧ wv.cell? ⟨w7.heap.size, 2, none⟩ = some (.int .i64 0) := ⟨a0, a1, a2⟩
      refine hK.out _ _ (fun _ => hSv) ?_
      clear hK K
      try simp only [Act.put, List.setIfInBounds_toArray, List.set_cons_zero, List.set_cons_succ]
      refine d_step 3 (by kernel_rfl) rfl (fun K hK => ?_)
      go_simp
      go_at_call 22
      refine (F10.out _ _ _ hRv).mono ?_
      rintro e wm ⟨p7, c7, rfl, o2, k2⟩
      replace q0 := cell_step k2 q0
      replace q1 := cell_step k2 q1
      replace q2 := cell_step k2 q2
      replace a0 := cell_step k2 a0
      replace a1 := cell_step k2 a1
      replace a2 := cell_step k2 a2
      replace g0 : wm.frozen? ⟨w1.heap.size, 0, none⟩ = false := (k2.frozen (p := ⟨w1.heap.size, 0, none⟩) zb).trans g0
      replace g1 : wm.frozen? ⟨w1.heap.size, 1, none⟩ = false := (k2.frozen (p := ⟨w1.heap.size, 1, none⟩) zb).trans g1
      replace g2 : wm.frozen? ⟨w1.heap.size, 2, none⟩ = false := (k2.frozen (p := ⟨w1.heap.size, 2, none⟩) zb).trans g2
      have zm : w1.heap.size < wm.heap.size := Nat.lt_of_lt_of_le zb k2.size
      have bwm : Below w.heap.size w wm := below_after k2 bv
      have hSm : wm.cell? ⟨w7.heap.size, 0, none⟩ = some (.slice p5 3 c5) ∧ wm.cell? ⟨w7.heap.size, 1, none⟩ = some (.int .i64 2) ∧ wm.cell? ⟨w7.heap.size, 2, none⟩ = some (.int .i64 0) := ⟨a0, a1, a2⟩
      refine hK.out _ _ (fun _ => hSm) ?_
      clear hK K
      try simp only [Act.put, List.setIfInBounds_toArray, List.set_cons_zero, List.set_cons_succ]
      refine d_takeY (v := ?_) 4 rfl (by kernel_rfl) (fun _ _ _ h => h) (Or.inl ⟨by rfl, ?_⟩) hSm ?_
      rotate_left
      · intro wx _
        first | (go_simp; done) | (go_simp; with_reducible rfl)
      simp only [Act.put, List.setIfInBounds_toArray]
      refine d_takeY (v := ?_) 5 rfl (by kernel_rfl) (fun _ _ _ h => h) (Or.inl ⟨by rfl, ?_⟩) hSm ?_
      rotate_left
      · intro wx _
        first | (go_simp; done) | (go_simp; with_reducible rfl)
      simp only [Act.put]
      refine d_takeY (v := ?_) 6 rfl (by kernel_rfl) (fun _ _ _ h => h) (Or.inl ⟨by rfl, ?_⟩) hSm ?_
      rotate_left
      · intro wx _
        first | (go_simp; done) | (go_simp; with_reducible rfl)
      simp only [Act.put]
      refine d_step 7 (by kernel_rfl) rfl (fun K hK => ?_)
      go_simp
      refine hK.out _ _ (fun h => by exact absurd h (by decide)) ?_
      clear hK K
      refine d_done (by kernel_rfl) ?_ _
      try simp only [Act.put, List.setIfInBounds_toArray, List.set_cons_zero, List.set_cons_succ]
      generalize hwx : World.setCell _ _ _ = w13
      have n0 : w13.cell? ⟨w1.heap.size, 0, none⟩ = some (.slice p7 3 c7) := by rw [← hwx]; simp [go_sem, q0]
      have n1 : w13.cell? ⟨w1.heap.size, 1, none⟩ = some (.int .i64 2) := by rw [← hwx]; simp [go_sem, q1]
      have n2 : w13.cell? ⟨w1.heap.size, 2, none⟩ = some (.int .i64 0) := by rw [← hwx]; simp [go_sem, q2]
      have bw13 : Below w.heap.size w w13 := by rw [← hwx]; (repeat (first | (with_reducible exact Below.refl _ _) | (with_reducible refine below_setCell ?_ (by first | (simp; done) | (simp; omega) | omega)) | (with_reducible refine below_alloc _ ?_) | (with_reducible refine below_drewN ?_ _) | (with_reducible assumption) | (with_reducible refine below_after (by assumption) ?_)))
      have hR : Rd Cod.replica w13 (.slice p7 3 c7) D := (o2.keep (Nat.le_refl _) (show Keep wv.heap.size wm w13 from by rw [← hwx]; (repeat (first | (with_reducible exact Keep.refl _ _) | (with_reducible refine keep_set ?_ (by first | (simp; done) | (simp; omega) | omega)) | (with_reducible refine keep_alloc _ ?_) | (with_reducible refine keep_drewN ?_ _) | (with_reducible assumption) | (with_reducible refine keep_below (by assumption) ?_))))).rd
      have zw13 : w1.heap.size < w13.heap.size := by rw [← hwx]; simp; exact zm
      replace g0 : w13.frozen? ⟨w1.heap.size, 0, none⟩ = false := by rw [← hwx]; simp only [World.frozen?_setCell]; exact g0
      replace g1 : w13.frozen? ⟨w1.heap.size, 1, none⟩ = false := by rw [← hwx]; simp only [World.frozen?_setCell]; exact g1
      replace g2 : w13.frozen? ⟨w1.heap.size, 2, none⟩ = false := by rw [← hwx]; simp only [World.frozen?_setCell]; exact g2
      clear hwx q0 q1 q2 z2 zb zm bwm o2 hS
      have q0 := n0
      have q1 := n1
      have q2 := n2
      have z2 := zw13
      clear n0 n1 n2 zw13
      clear a0 a1 a2 za bv hRv
      go_upto_region 18 with fail
      refine wp_region_d 9 (fun w' => w'.cell? ⟨w1.heap.size, 0, none⟩ = some (.slice p7 3 c7) ∧ w'.cell? ⟨w1.heap.size, 1, none⟩ = some (.int .i64 2) ∧ w'.cell? ⟨w1.heap.size, 2, none⟩ = some (.int .i64 0)) (by kernel_rfl) ?_
      have hS : w13.drew.cell? ⟨w1.heap.size, 0, none⟩ = some (.slice p7 3 c7) ∧ w13.drew.cell? ⟨w1.heap.size, 1, none⟩ = some (.int .i64 2) ∧ w13.drew.cell? ⟨w1.heap.size, 2, none⟩ = some (.int .i64 0) := ⟨q0, q1, q2⟩
      refine d_take (f := 30) (v := ?_) 0 rfl (by kernel_rfl) (fun _ _ _ h => h) (Or.inl ⟨by rfl, ?_⟩) hS ?_
      rotate_left
      · intro wx hx
        obtain ⟨x0, x1, x2⟩ := hx
        first | (go_simp; done) | (go_simp; with_reducible rfl)
      simp only [Act.put, List.setIfInBounds_toArray]
      refine d_take (f := 30) (v := ?_) 1 rfl (by kernel_rfl) (fun _ _ _ h => h) (Or.inl ⟨by rfl, ?_⟩) hS ?_
      rotate_left
      · intro wx hx
        obtain ⟨x0, x1, x2⟩ := hx
        first | (go_simp; done) | (go_simp; with_reducible rfl)
      simp only [Act.put]
      refine d_step 2 (by kernel_rfl) rfl (fun K hK => ?_)
      go_simp
      go_at_call 26
      refine (HX1.out _ (show Below w.heap.size w w13.drew from by (repeat (first | (with_reducible exact Below.refl _ _) | (with_reducible refine below_setCell ?_ (by first | (simp; done) | (simp; omega) | omega)) | (with_reducible refine below_alloc _ ?_) | (with_reducible refine below_drewN ?_ _) | (with_reducible refine below_drew_step ?_) | (with_reducible assumption) | (with_reducible refine below_after (by assumption) ?_))))).mono ?_
      rintro e wv ⟨rfl, rfl⟩
      refine hK.out _ _ (fun _ => hS) ?_
      clear hK K
      try simp only [Act.put, List.setIfInBounds_toArray, List.set_cons_zero, List.set_cons_succ]
      have hRv : Rd Cod.replica w13.drew _ _ := hR.below (show Below w13.heap.size w13 w13.drew from by (repeat (first | (with_reducible exact Below.refl _ _) | (with_reducible refine below_setCell ?_ (by first | (simp; done) | (simp; omega) | omega)) | (with_reducible refine below_alloc _ ?_) | (with_reducible refine below_drewN ?_ _) | (with_reducible refine below_drew_step ?_) | (with_reducible assumption) | (with_reducible refine below_after (by assumption) ?_))))
      have bv : Below w.heap.size w w13.drew := by (repeat (first | (with_reducible exact Below.refl _ _) | (with_reducible refine below_setCell ?_ (by first | (simp; done) | (simp; omega) | omega)) | (with_reducible refine below_alloc _ ?_) | (with_reducible refine below_drewN ?_ _) | (with_reducible refine below_drew_step ?_) | (with_reducible assumption) | (with_reducible refine below_after (by assumption) ?_)))
      have zb : w1.heap.size < w13.drew.heap.size := z2
      have sv : w13.heap.size ≤ w13.drew.heap.size := Nat.le_refl _
      refine d_take (f := 30) (v := ?_) 3 rfl (by kernel_rfl) (fun _ _ _ h => h) (Or.inl ⟨by rfl, ?_⟩) hS ?_
      rotate_left
      · intro wx hx
        obtain ⟨x0, x1, x2⟩ := hx
        first | (go_simp; done) | (go_simp; with_reducible rfl)
      simp only [Act.put, List.setIfInBounds_toArray]
      refine d_take (f := 30) (v := ?_) 4 rfl (by kernel_rfl) (fun _ _ _ h => h) (Or.inl ⟨by rfl, ?_⟩) hS ?_
      rotate_left
      · intro wx hx
        obtain ⟨x0, x1, x2⟩ := hx
        first | (go_simp; done) | (go_simp; with_reducible rfl)
      simp only [Act.put]
      replace q0 : w13.drew.cell? ⟨w1.heap.size, 0, none⟩ = _ := q0
      replace q1 : w13.drew.cell? ⟨w1.heap.size, 1, none⟩ = _ := q1
      replace q2 : w13.drew.cell? ⟨w1.heap.size, 2, none⟩ = _ := q2
      replace g0 : w13.drew.frozen? ⟨w1.heap.size, 0, none⟩ = false := g0
      replace g1 : w13.drew.frozen? ⟨w1.heap.size, 1, none⟩ = false := g1
      replace g2 : w13.drew.frozen? ⟨w1.heap.size, 2, none⟩ = false := g2
      refine d_step 5 (by kernel_rfl) rfl (fun K hK => ?_)
      go_simp
      go_at_call 32
      refine (F11.out _ _ _ hRv).mono ?_
      rintro e wm ⟨p8, c8, rfl, o2, k2⟩
      replace q0 := cell_step k2 q0
      replace q1 := cell_step k2 q1
      replace q2 := cell_step k2 q2
      replace g0 : wm.frozen? ⟨w1.heap.size, 0, none⟩ = false := (k2.frozen (p := ⟨w1.heap.size, 0, none⟩) zb).trans g0
      replace g1 : wm.frozen? ⟨w1.heap.size, 1, none⟩ = false := (k2.frozen (p := ⟨w1.heap.size, 1, none⟩) zb).trans g1
      replace g2 : wm.frozen? ⟨w1.heap.size, 2, none⟩ = false := (k2.frozen (p := ⟨w1.heap.size, 2, none⟩) zb).trans g2
      have zm : w1.heap.size < wm.heap.size := Nat.lt_of_lt_of_le zb k2.size
      have bwm : Below w.heap.size w wm := below_after k2 bv
      have hSm : wm.cell? ⟨w1.heap.size, 0, none⟩ = some (.slice p7 3 c7) ∧ wm.cell? ⟨w1.heap.size, 1, none⟩ = some (.int .i64 2) ∧ wm.cell? ⟨w1.heap.size, 2, none⟩ = some (.int .i64 0) := ⟨q0, q1, q2⟩
      refine hK.out _ _ (fun _ => hSm) ?_
      clear hK K
      try simp only [Act.put, List.setIfInBounds_toArray, List.set_cons_zero, List.set_cons_succ]
      refine d_takeY (v := ?_) 6 rfl (by kernel_rfl) (fun _ _ _ h => h) (Or.inl ⟨by rfl, ?_⟩) hSm ?_
      rotate_left
      · intro wx _
        first | (go_simp; done) | (go_simp; with_reducible rfl)
      simp only [Act.put, List.setIfInBounds_toArray]
      refine d_takeY (v := ?_) 7 rfl (by kernel_rfl) (fun _ _ _ h => h) (Or.inl ⟨by rfl, ?_⟩) hSm ?_
      rotate_left
      · intro wx _
        first | (go_simp; done) | (go_simp; with_reducible rfl)
      simp only [Act.put]
      refine d_takeY (v := ?_) 8 rfl (by kernel_rfl) (fun _ _ _ h => h) (Or.inl ⟨by rfl, ?_⟩) hSm ?_
      rotate_left
      · intro wx _
        first | (go_simp; done) | (go_simp; with_reducible rfl)
      simp only [Act.put]
      refine d_step 9 (by kernel_rfl) rfl (fun K hK => ?_)
      go_simp
      refine hK.out _ _ (fun h => by exact absurd h (by decide)) ?_
      clear hK K
      refine d_done (by kernel_rfl) ?_ _
      try simp only [Act.put, List.setIfInBounds_toArray, List.set_cons_zero, List.set_cons_succ]
      generalize hwx : World.setCell _ _ _ = w14
      have n0 : w14.cell? ⟨w1.heap.size, 0, none⟩ = some (.slice p8 3 c8) := by rw [← hwx]; simp [go_sem, q0]
      have n1 : w14.cell? ⟨w1.heap.size, 1, none⟩ = some (.int .i64 2) := by rw [← hwx]; simp [go_sem, q1]
      have n2 : w14.cell? ⟨w1.heap.size, 2, none⟩ = some (.int .i64 0) := by rw [← hwx]; simp [go_sem, q2]
      have bw14 : Below w.heap.size w w14 := by rw [← hwx]; (repeat (first | (with_reducible exact Below.refl _ _) | (with_reducible refine below_setCell ?_ (by first | (simp; done) | (simp; omega) | omega)) | (with_reducible refine below_alloc _ ?_) | (with_reducible refine below_drewN ?_ _) | (with_reducible assumption) | (with_reducible refine below_after (by assumption) ?_)))
      have hR : Rd Cod.replica w14 (.slice p8 3 c8) E := (o2.keep (Nat.le_refl _) (show Keep w13.drew.heap.size wm w14 from by rw [← hwx]; (repeat (first | (with_reducible exact Keep.refl _ _) | (with_reducible refine keep_set ?_ (by first | (simp; done) | (simp; omega) | omega)) | (with_reducible refine keep_alloc _ ?_) | (with_reducible refine keep_drewN ?_ _) | (with_reducible assumption) | (with_reducible refine keep_below (by assumption) ?_))))).rd
      have zw14 : w1.heap.size < w14.heap.size := by rw [← hwx]; simp; exact zm
      replace g0 : w14.frozen? ⟨w1.heap.size, 0, none⟩ = false := by rw [← hwx]; simp only [World.frozen?_setCell]; exact g0
      replace g1 : w14.frozen? ⟨w1.heap.size, 1, none⟩ = false := by rw [← hwx]; simp only [World.frozen?_setCell]; exact g1
      replace g2 : w14.frozen? ⟨w1.heap.size, 2, none⟩ = false := by rw [← hwx]; simp only [World.frozen?_setCell]; exact g2
      clear hwx q0 q1 q2 z2 zb zm bwm o2 hS
      have q0 := n0
      have q1 := n1
      have q2 := n2
      have z2 := zw14
      clear n0 n1 n2 zw14
      go_wp2_with fail
      have zb := z2
      refine (F12.out _ _ _ hR).mono ?_
      rintro e w15 ⟨p9, c9, rfl, o2, k2⟩
      replace q0 := cell_step k2 q0
      replace q1 := cell_step k2 q1
      replace q2 := cell_step k2 q2
      replace g0 : w15.frozen? ⟨w1.heap.size, 0, none⟩ = false := (k2.frozen (p := ⟨w1.heap.size, 0, none⟩) zb).trans g0
      replace g1 : w15.frozen? ⟨w1.heap.size, 1, none⟩ = false := (k2.frozen (p := ⟨w1.heap.size, 1, none⟩) zb).trans g1
      replace g2 : w15.frozen? ⟨w1.heap.size, 2, none⟩ = false := (k2.frozen (p := ⟨w1.heap.size, 2, none⟩) zb).trans g2
      replace z2 := Nat.lt_of_lt_of_le zb k2.size
      have bw15 : Below w.heap.size w w15 := below_after k2 bw14
      clear k2 hR
      go_upto_region 20 with fail
      generalize hwx : World.setCell _ _ _ = w16
      have n0 : w16.cell? ⟨w1.heap.size, 0, none⟩ = some (.slice p9 3 c9) := by rw [← hwx]; simp [go_sem, q0]
      have n1 : w16.cell? ⟨w1.heap.size, 1, none⟩ = some (.int .i64 2) := by rw [← hwx]; simp [go_sem, q1]
      have n2 : w16.cell? ⟨w1.heap.size, 2, none⟩ = some (.int .i64 0) := by rw [← hwx]; simp [go_sem, q2]
      have bw16 : Below w.heap.size w w16 := by rw [← hwx]; (repeat (first | (with_reducible exact Below.refl _ _) | (with_reducible refine below_setCell ?_ (by first | (simp; done) | (simp; omega) | omega)) | (with_reducible refine below_alloc _ ?_) | (with_reducible refine below_drewN ?_ _) | (with_reducible assumption) | (with_reducible refine below_after (by assumption) ?_)))
      have hR : Rd Cod.replica w16 (.slice p9 3 c9) F := (o2.keep (Nat.le_refl _) (show Keep w14.heap.size w15 w16 from by rw [← hwx]; (repeat (first | (with_reducible exact Keep.refl _ _) | (with_reducible refine keep_set ?_ (by first | (simp; done) | (simp; omega) | omega)) | (with_reducible refine keep_alloc _ ?_) | (with_reducible refine keep_drewN ?_ _) | (with_reducible assumption) | (with_reducible refine keep_below (by assumption) ?_))))).rd
      have zw16 : w1.heap.size < w16.heap.size := by rw [← hwx]; simp; omega
      replace g0 : w16.frozen? ⟨w1.heap.size, 0, none⟩ = false := by rw [← hwx]; simp only [World.frozen?_setCell]; exact g0
      replace g1 : w16.frozen? ⟨w1.heap.size, 1, none⟩ = false := by rw [← hwx]; simp only [World.frozen?_setCell]; exact g1
      replace g2 : w16.frozen? ⟨w1.heap.size, 2, none⟩ = false := by rw [← hwx]; simp only [World.frozen?_setCell]; exact g2
      clear hwx q0 q1 q2 z2 zb bw15 o2
      have q0 := n0
      have q1 := n1
      have q2 := n2
      have z2 := zw16
      clear n0 n1 n2 zw16
      go_wp2_with fail
      refine (F13.out _ _ _ hR).mono ?_
      rintro e w17 ⟨pz, cz, rfl, k17⟩
      replace q0 := cell_step k17 q0
      replace q1 := cell_step k17 q1
      replace q2 := cell_step k17 q2
      replace g0 : w17.frozen? ⟨w1.heap.size, 0, none⟩ = false := (k17.frozen (p := ⟨w1.heap.size, 0, none⟩) z2).trans g0
      replace g1 : w17.frozen? ⟨w1.heap.size, 1, none⟩ = false := (k17.frozen (p := ⟨w1.heap.size, 1, none⟩) z2).trans g1
      replace g2 : w17.frozen? ⟨w1.heap.size, 2, none⟩ = false := (k17.frozen (p := ⟨w1.heap.size, 2, none⟩) z2).trans g2
      replace z2 := Nat.lt_of_lt_of_le z2 k17.size
      have bw17 : Below w.heap.size w w17 := below_after k17 bw16
      have hR17 := hR.below k17
      clear k17 hR bw16
      go_wp2_with fail
      refine (F14.out _ _ _ hR17).mono ?_
      rintro e w18 ⟨rfl, k18⟩
      have bw18 : Below w.heap.size w w18 := below_after k18 bw17
      go_wp2
      go_ret
      exact ⟨rfl, bw18⟩


end Go.Proofs.Ytogdbjalgledpaa
