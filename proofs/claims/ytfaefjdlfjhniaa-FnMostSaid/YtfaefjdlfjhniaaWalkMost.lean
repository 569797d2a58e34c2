/- laws.FnMost: the walk. Printed by mkmost.py. -/
import Derived.Test.YtfaefjdlfjhniaaMostF
namespace Go.Proofs.Ytfaefjdlfjhniaa
open Go.RowKit

set_option maxRecDepth 100000 in
set_option maxHeartbeats 6400000 in
/-- laws.FnMost answers true. -/
theorem walk {w : World} (v : Value) (cd : List UInt8) (h : Rd Cod.u8 w v cd) : Calls Try.prog 3 #[v] w fun e w' => e = .returned (.bool true) ∧ Below w.heap.size w w' := by
  by_cases hbig : 65536 < cd.length
  · obtain ⟨p, c, rfl, hc1, hc2, -⟩ := h.form
    have Hb := Lib.hid (fun W => vBig_any p cd.length c W (by unfold maxLen at hc2; omega))
    rw [decide_eq_true hbig] at Hb
    clear h hc1 hc2 hbig
    generalize cd.length = n at *
    go_enter Try.func3, Try.ntmps3
    go_wp2_with fail
    refine (Hb.out _).mono ?_
    rintro e w1 ⟨rfl, rfl⟩
    go_wp2
    go_ret
    exact ⟨rfl, by (repeat (first | (with_reducible exact Below.refl _ _) | (with_reducible refine below_setCell ?_ (by first | (simp; done) | (simp; omega) | omega)) | (with_reducible refine below_alloc _ ?_) | (with_reducible refine below_drewN ?_ _) | (with_reducible assumption) | (with_reducible refine below_after (by assumption) ?_)))⟩

  have Hv0 := Lib.hid (fun (W : World) (b : Below w.heap.size w W) => vAt_val v cd (by omega) 0 (by omega) W (h.below b))
  have Hv1 := Lib.hid (fun (W : World) (b : Below w.heap.size w W) => vAt_val v cd (by omega) 1 (by omega) W (h.below b))
  have Hv2 := Lib.hid (fun (W : World) (b : Below w.heap.size w W) => vAt_val v cd (by omega) 2 (by omega) W (h.below b))
  have Hvr := Lib.hid (fun (i : Nat) (hi : i ≤ 65536) (W : World) (b : Below w.heap.size w W) => vRec_any v cd (by omega) i hi W (h.below b))
  have hx0 := vAtN_lt cd 0
  have hx1 := vAtN_lt cd 1
  have hx2 := vAtN_lt cd 2
  obtain ⟨n, hn⟩ : ∃ n, 3 + 2 * (vAtN cd 0 % 2) = n := ⟨_, rfl⟩
  obtain ⟨d, hd⟩ : ∃ d, vAtN cd 1 % (n + 1) = d := ⟨_, rfl⟩
  obtain ⟨m, hm⟩ : ∃ m, vAtN cd 2 % 6 = m := ⟨_, rfl⟩
  have hn35 : n = 3 ∨ n = 5 := by omega
  have hdn : d ≤ n := by have := Nat.mod_lt (vAtN cd 1) (show 0 < n + 1 by omega); omega
  have hm5 : m ≤ 5 := by omega
  have hnI : 3 + 2 * ((vAtN cd 0 : Int) % 2) = (n : Int) := by omega
  have hdI : (vAtN cd 1 : Int) % ((n : Int) + 1) = (d : Int) := by rw [← hd, Int.natCast_emod]; rfl
  have hmI : (vAtN cd 2 : Int) % 6 = (m : Int) := by omega
  obtain ⟨A, P, Q, E, F, f1, f2, f3, f4, f5, f6, f7, f8, f9, f10, f11, f12, f13⟩ := most_facts cd n d m hn35 hdn hm5
  have F1 := Lib.hid f1
  have F2 := Lib.hid f2
  have F3 := Lib.hid f3
  have F4 := Lib.hid f4
  have F5 := Lib.hid f5
  have F6 := Lib.hid f6
  have F7 := Lib.hid f7
  have F9 := Lib.hid f9
  have F10 := Lib.hid f10
  have F11 := Lib.hid f11
  have F12 := Lib.hid f12
  have F13 := Lib.hid f13
  have F8 := Lib.hid f8
  clear f1 f2 f3 f4 f5 f6 f7 f8 f9 f10 f11 f12 f13
  obtain ⟨p, c, rfl, hc1, hc2, -⟩ := h.form
  have Hb := Lib.hid (fun W => vBig_any p cd.length c W (by unfold maxLen at hc2; omega))
  rw [decide_eq_false hbig] at Hb
  have hx0i : (vAtN cd 0 : Int) < 256 := by omega
  have hx1i : (vAtN cd 1 : Int) < 256 := by omega
  have hx2i : (vAtN cd 2 : Int) < 256 := by omega
  have HW3 : Hid (∀ k : Nat, k < 100 → ∀ W, Below w.heap.size w W → Calls Try.prog 14 #[.slice p cd.length c, .int .i64 (3 * (k : Int) + 3)] W fun e w' => e = .returned (.agg #[.int .i64 (recN cd (3 * k + 3)).Kind, .int .i64 (recN cd (3 * k + 3)).Txn, .int .i64 (recN cd (3 * k + 3)).Time, .int .i64 (recN cd (3 * k + 3)).Lead, .slice none 0 0, .slice none 0 0, .bool (recN cd (3 * k + 3)).Yes]) ∧ Below W.heap.size W w') := Lib.hid (fun k hk W b => by
    have h := Hvr.out (3 * k + 3) (by omega) W b
    rwa [show ((3 * k + 3 : Nat) : Int) = 3 * (k : Int) + 3 from by omega] at h)
  have HX0 : Hid (∀ W, Below w.heap.size w W → Calls Try.prog 7 #[.slice p cd.length c, .int .i64 0] W fun e w' => e = .returned (.int .i64 (vAtN cd 0 : Int)) ∧ W = w') := Lib.hid (fun W b => Hv0.out W b)
  have HX1 : Hid (∀ W, Below w.heap.size w W → Calls Try.prog 7 #[.slice p cd.length c, .int .i64 1] W fun e w' => e = .returned (.int .i64 (vAtN cd 1 : Int)) ∧ W = w') := Lib.hid (fun W b => Hv1.out W b)
  have HX2 : Hid (∀ W, Below w.heap.size w W → Calls Try.prog 7 #[.slice p cd.length c, .int .i64 2] W fun e w' => e = .returned (.int .i64 (vAtN cd 2 : Int)) ∧ W = w') := Lib.hid (fun W b => Hv2.out W b)
  clear h hc1 hc2 hbig hx0 hx1 hx2 Hv0 Hv1 Hv2 Hvr hn hd hm
  generalize recN cd = Y at *
  generalize vAtN cd 0 = x0 at *
  generalize vAtN cd 1 = x1 at *
  generalize vAtN cd 2 = x2 at *
  generalize cd.length = N at *
  have hn3I : 3 ≤ (n : Int) := by omega
  have hn5I : (n : Int) ≤ 5 := by omega
  have hdnI : (d : Int) ≤ (n : Int) := by omega
  have hm5I : (m : Int) ≤ 5 := by omega
  have HmI := Lib.hid hmI
  have HdI := Lib.hid hdI
  have HnI := Lib.hid hnI
  have Hn35 := Lib.hid hn35
  clear hmI hdI hn35
  go_enter Try.func3, Try.ntmps3
  go_wp2_with fail
  refine (Hb.out _).mono ?_
  rintro e w1 ⟨rfl, rfl⟩
  go_wp2_with fail
  refine (HX0.out _ (Below.refl _ _)).mono ?_
  rintro e w1 ⟨rfl, rfl⟩
  go_wp2_with fail
  refine (F1.out _).mono ?_
  rintro e w1 ⟨p1, c1, rfl, o1, k1⟩
  clear hnI
  have b1 : Below w.heap.size w w1 := below_after k1 (by (repeat (first | (with_reducible exact Below.refl _ _) | (with_reducible refine below_setCell ?_ (by first | (simp; done) | (simp; omega) | omega)) | (with_reducible refine below_alloc _ ?_) | (with_reducible refine below_drewN ?_ _) | (with_reducible assumption) | (with_reducible refine below_after (by assumption) ?_))))
  have z1 : w.heap.size ≤ w1.heap.size := b1.size
  go_upto_region 5 with fail
  generalize hw2 : World.alloc _ _ = w2
  have q0 : w2.cell? ⟨w1.heap.size, 0, none⟩ = some (.slice p1 n c1) := by rw [← hw2]; simp [go_sem]
  have q1 : w2.cell? ⟨w1.heap.size, 1, none⟩ = some (.int .i64 0) := by rw [← hw2]; simp [go_sem]
  have q2 : w2.cell? ⟨w1.heap.size, 2, none⟩ = some (.int .i64 (-1)) := by rw [← hw2]; simp [go_sem]
  have g0 : w2.frozen? ⟨w1.heap.size, 0, none⟩ = false := by rw [← hw2]; simp [go_sem]
  have g1 : w2.frozen? ⟨w1.heap.size, 1, none⟩ = false := by rw [← hw2]; simp [go_sem]
  have g2 : w2.frozen? ⟨w1.heap.size, 2, none⟩ = false := by rw [← hw2]; simp [go_sem]
  have z2 : w1.heap.size < w2.heap.size := by rw [← hw2]; simp
  have m2 : Below w1.heap.size w1 w2 := by rw [← hw2]; exact below_new _ _
  have bw2 : Below w.heap.size w w2 := below_after m2 b1
  have hR := o1.rd.below m2
  clear hw2 o1 k1 m2
  have hdI := HdI.out
  go_wp2_with fail
  refine (HX1.out _ bw2).mono ?_
  rintro e w5 ⟨rfl, rfl⟩
  go_wp2
  try simp only [HdI.out]
  clear hdI
  go_loopw [7] (fun i wr => ∃ (k : Nat) (p2 : Option Addr) (c2 : Nat), i = .int .i64 (k : Int) ∧ k ≤ d ∧ (wr.cell? ⟨w1.heap.size, 0, none⟩ = some (.slice p2 n c2) ∧ wr.cell? ⟨w1.heap.size, 1, none⟩ = some (.int .i64 0) ∧ wr.cell? ⟨w1.heap.size, 2, none⟩ = some (.int .i64 (-1))) ∧ (wr.frozen? ⟨w1.heap.size, 0, none⟩ = false ∧ wr.frozen? ⟨w1.heap.size, 1, none⟩ = false ∧ wr.frozen? ⟨w1.heap.size, 2, none⟩ = false) ∧ w1.heap.size < wr.heap.size ∧ Rd Cod.replica wr (.slice p2 n c2) (A k) ∧ Below w.heap.size w wr) (fun i _ => d - (intOf i).toNat)
  case atStart => exact ⟨0, p1, c1, rfl, Nat.zero_le _, ⟨q0, q1, q2⟩, ⟨g0, g1, g2⟩, z2, hR, bw2⟩
  case round =>
    clear q0 q1 q2 g0 g1 g2 z2 hR bw2
    obtain ⟨k, p2, c2, rfl, hk, ⟨q0, q1, q2⟩, ⟨g0, g1, g2⟩, z2, hR, bwr⟩ := hrel
    by_cases hlt : k < d
    · have hlt2 : (k : Int) < (d : Int) := by omega
      have Hcr := Lib.hid (F2.out k hlt)
      go_wp2_with fail
      have zb := z2
      refine (Hcr.out _ _ _ hR).mono ?_
      rintro e w3 ⟨p3, c3, rfl, o2, k2⟩
      replace q0 := cell_step k2 q0
      replace q1 := cell_step k2 q1
      replace q2 := cell_step k2 q2
      replace g0 : w3.frozen? ⟨w1.heap.size, 0, none⟩ = false := (k2.frozen (p := ⟨w1.heap.size, 0, none⟩) zb).trans g0
      replace g1 : w3.frozen? ⟨w1.heap.size, 1, none⟩ = false := (k2.frozen (p := ⟨w1.heap.size, 1, none⟩) zb).trans g1
      replace g2 : w3.frozen? ⟨w1.heap.size, 2, none⟩ = false := (k2.frozen (p := ⟨w1.heap.size, 2, none⟩) zb).trans g2
      replace z2 := Nat.lt_of_lt_of_le zb k2.size
      have bw3 : Below w.heap.size w w3 := below_after k2 bwr
      clear k2 hR
      go_upto_region 8 with fail
      generalize hwx : World.setCell _ _ _ = wy
      have n0 : wy.cell? ⟨w1.heap.size, 0, none⟩ = some (.slice p3 n c3) := by rw [← hwx]; simp [go_sem, q0, q1, q2]
      have n1 : wy.cell? ⟨w1.heap.size, 1, none⟩ = some (.int .i64 0) := by rw [← hwx]; simp [go_sem, q0, q1, q2]
      have n2 : wy.cell? ⟨w1.heap.size, 2, none⟩ = some (.int .i64 (-1)) := by rw [← hwx]; simp [go_sem, q0, q1, q2]
      have bwy : Below w.heap.size w wy := by rw [← hwx]; (repeat (first | (with_reducible exact Below.refl _ _) | (with_reducible refine below_setCell ?_ (by first | (simp; done) | (simp; omega) | omega)) | (with_reducible refine below_alloc _ ?_) | (with_reducible refine below_drewN ?_ _) | (with_reducible assumption) | (with_reducible refine below_after (by assumption) ?_)))
      have hR : Rd Cod.replica wy (.slice p3 n c3) (A (k + 1)) := (o2.keep (Nat.le_refl _) (show Keep wr.heap.size w3 wy from by rw [← hwx]; (repeat (first | (with_reducible exact Keep.refl _ _) | (with_reducible refine keep_set ?_ (by first | (simp; done) | (simp; omega) | omega)) | (with_reducible refine keep_alloc _ ?_) | (with_reducible refine keep_drewN ?_ _) | (with_reducible assumption) | (with_reducible refine keep_below (by assumption) ?_))))).rd
      have zwy : w1.heap.size < wy.heap.size := by rw [← hwx]; simp; omega
      replace g0 : wy.frozen? ⟨w1.heap.size, 0, none⟩ = false := by rw [← hwx]; simp only [World.frozen?_setCell]; exact g0
      replace g1 : wy.frozen? ⟨w1.heap.size, 1, none⟩ = false := by rw [← hwx]; simp only [World.frozen?_setCell]; exact g1
      replace g2 : wy.frozen? ⟨w1.heap.size, 2, none⟩ = false := by rw [← hwx]; simp only [World.frozen?_setCell]; exact g2
      clear hwx q0 q1 q2 z2 zb bw3 o2
      have q0 := n0
      have q1 := n1
      have q2 := n2
      have z2 := zwy
      clear n0 n1 n2 zwy
      go_wp2
      go_roundw
      case rel => exact ⟨k + 1, p3, c3, by go_num, by omega, ⟨q0, q1, q2⟩, ⟨g0, g1, g2⟩, z2, hR, bwy⟩
      case measure => simp [intOf]; omega
    · have hlt2 : (d : Int) ≤ (k : Int) := by omega
      obtain rfl : d = k := by omega
      go_wp2
      go_loopw [8] (fun i wr => ∃ (k : Nat), i = .int .i64 (k : Int) ∧ k ≤ n ∧ (wr.cell? ⟨w1.heap.size, 0, none⟩ = some (.slice p2 n c2) ∧ wr.cell? ⟨w1.heap.size, 1, none⟩ = some (.int .i64 0) ∧ wr.cell? ⟨w1.heap.size, 2, none⟩ = some (.int .i64 (-1))) ∧ (wr.frozen? ⟨w1.heap.size, 0, none⟩ = false ∧ wr.frozen? ⟨w1.heap.size, 1, none⟩ = false ∧ wr.frozen? ⟨w1.heap.size, 2, none⟩ = false) ∧ w1.heap.size < wr.heap.size ∧ Rd Cod.replica wr (.slice p2 n c2) (A d) ∧ Below w.heap.size w wr) (fun i _ => n - (intOf i).toNat)
      case atStart => exact ⟨0, rfl, Nat.zero_le _, ⟨q0, q1, q2⟩, ⟨g0, g1, g2⟩, z2, hR, bwr⟩
      case round =>
        clear q0 q1 q2 g0 g1 g2 z2 hR bwr
        obtain ⟨k, rfl, hk, ⟨q0, q1, q2⟩, ⟨g0, g1, g2⟩, z2, hR, bwr⟩ := hrel
        clear hlt2 hlt

        by_cases hlt : k < n
        · have hlt2 : (k : Int) < (n : Int) := by omega
          by_cases hmj : n < 2 * (n - d)
          · by_cases hdk : d ≤ k
            · have H3 := Lib.hid (F3.out k hlt)
              have H4 := Lib.hid (F4.out k hlt)
              have H5 := Lib.hid (F5.out k hlt)
              rw [decide_eq_true hmj, decide_eq_true hdk] at H3 H4
              try simp only [Bool.true_and, Bool.and_true, Bool.and_false, Bool.false_and] at H3 H4
              have e1 : (n : Int) < 2 * ((n : Int) - (d : Int)) := by omega
              have e2 : (d : Int) ≤ (k : Int) := by omega
              clear F1 F2 F3 F4 F5 F6 F7 F8 F9 F10 F11 F12 F13 HW3 HX0 HX1 HX2 Hb HnI HdI HmI Hn35
              generalize E k = G at *
              go_wp2_with fail
              refine (H3.out _ _ _ hR).mono ?_
              rintro e w3 ⟨p3, c3, rfl, oN, kN⟩
              replace q0 := cell_step kN q0
              replace q1 := cell_step kN q1
              replace q2 := cell_step kN q2
              replace g0 : w3.frozen? ⟨w1.heap.size, 0, none⟩ = false := (kN.frozen (p := ⟨w1.heap.size, 0, none⟩) z2).trans g0
              replace g1 : w3.frozen? ⟨w1.heap.size, 1, none⟩ = false := (kN.frozen (p := ⟨w1.heap.size, 1, none⟩) z2).trans g1
              replace g2 : w3.frozen? ⟨w1.heap.size, 2, none⟩ = false := (kN.frozen (p := ⟨w1.heap.size, 2, none⟩) z2).trans g2
              replace z2 := Nat.lt_of_lt_of_le z2 kN.size
              have bw3 : Below w.heap.size w w3 := below_after kN bwr
              replace hR := hR.below kN
              have ha := oN.rd
              clear oN
              clear kN bwr
              go_upto_region 14 with fail
              generalize hwx : World.alloc _ _ = w4
              have a0 : w4.cell? ⟨w3.heap.size, 0, none⟩ = some (.slice p3 G.Reps.length c3) := by rw [← hwx]; simp [go_sem]
              have a1 : w4.cell? ⟨w3.heap.size, 1, none⟩ = some (.int .i64 G.Term) := by rw [← hwx]; simp [go_sem]
              have a2 : w4.cell? ⟨w3.heap.size, 2, none⟩ = some (.int .i64 G.Lead) := by rw [← hwx]; simp [go_sem]
              have za : w3.heap.size < w4.heap.size := by rw [← hwx]; simp
              have mN : Below w3.heap.size w3 w4 := by rw [← hwx]; exact below_new _ _
              replace q0 := cell_step mN q0
              replace q1 := cell_step mN q1
              replace q2 := cell_step mN q2
              replace g0 : w4.frozen? ⟨w1.heap.size, 0, none⟩ = false := (mN.frozen (p := ⟨w1.heap.size, 0, none⟩) z2).trans g0
              replace g1 : w4.frozen? ⟨w1.heap.size, 1, none⟩ = false := (mN.frozen (p := ⟨w1.heap.size, 1, none⟩) z2).trans g1
              replace g2 : w4.frozen? ⟨w1.heap.size, 2, none⟩ = false := (mN.frozen (p := ⟨w1.heap.size, 2, none⟩) z2).trans g2
              replace z2 := Nat.lt_of_lt_of_le z2 mN.size
              have bw4 : Below w.heap.size w w4 := below_after mN bw3
              replace hR := hR.below mN
              replace ha := ha.below mN
              clear hwx mN bw3
              go_wp2_with fail
              refine (H4.out _ _ _ hR).mono ?_
              rintro e w5 ⟨p4, c4, rfl, oN, kN⟩
              replace q0 := cell_step kN q0
              replace q1 := cell_step kN q1
              replace q2 := cell_step kN q2
              replace a0 := cell_step kN a0
              replace a1 := cell_step kN a1
              replace a2 := cell_step kN a2
              replace g0 : w5.frozen? ⟨w1.heap.size, 0, none⟩ = false := (kN.frozen (p := ⟨w1.heap.size, 0, none⟩) z2).trans g0
              replace g1 : w5.frozen? ⟨w1.heap.size, 1, none⟩ = false := (kN.frozen (p := ⟨w1.heap.size, 1, none⟩) z2).trans g1
              replace g2 : w5.frozen? ⟨w1.heap.size, 2, none⟩ = false := (kN.frozen (p := ⟨w1.heap.size, 2, none⟩) z2).trans g2
              replace z2 := Nat.lt_of_lt_of_le z2 kN.size
              replace za := Nat.lt_of_lt_of_le za kN.size
              have bw5 : Below w.heap.size w w5 := below_after kN bw4
              replace hR := hR.below kN
              replace ha := ha.below kN
              have hb := oN.rd
              clear oN
              clear kN bw4
              go_upto_region 15 with fail
              generalize hwx : World.alloc _ _ = w6
              have b0 : w6.cell? ⟨w5.heap.size, 0, none⟩ = some (.slice p4 G.Reps.length c4) := by rw [← hwx]; simp [go_sem]
              have b1 : w6.cell? ⟨w5.heap.size, 1, none⟩ = some (.int .i64 G.Term) := by rw [← hwx]; simp [go_sem]
              have b2 : w6.cell? ⟨w5.heap.size, 2, none⟩ = some (.int .i64 G.Lead) := by rw [← hwx]; simp [go_sem]
              have zb : w5.heap.size < w6.heap.size := by rw [← hwx]; simp
              have mN : Below w5.heap.size w5 w6 := by rw [← hwx]; exact below_new _ _
              replace q0 := cell_step mN q0
              replace q1 := cell_step mN q1
              replace q2 := cell_step mN q2
              replace a0 := cell_step mN a0
              replace a1 := cell_step mN a1
              replace a2 := cell_step mN a2
              replace g0 : w6.frozen? ⟨w1.heap.size, 0, none⟩ = false := (mN.frozen (p := ⟨w1.heap.size, 0, none⟩) z2).trans g0
              replace g1 : w6.frozen? ⟨w1.heap.size, 1, none⟩ = false := (mN.frozen (p := ⟨w1.heap.size, 1, none⟩) z2).trans g1
              replace g2 : w6.frozen? ⟨w1.heap.size, 2, none⟩ = false := (mN.frozen (p := ⟨w1.heap.size, 2, none⟩) z2).trans g2
              replace z2 := Nat.lt_of_lt_of_le z2 mN.size
              replace za := Nat.lt_of_lt_of_le za mN.size
              have bw6 : Below w.heap.size w w6 := below_after mN bw5
              replace hR := hR.below mN
              replace ha := ha.below mN
              replace hb := hb.below mN
              clear hwx mN bw5
              go_wp2_with fail
              refine (H5.out _ _ _ _ _ ha hb).mono ?_
              rintro e w7 ⟨rfl, k7⟩
              replace q0 := cell_step k7 q0
              replace q1 := cell_step k7 q1
              replace q2 := cell_step k7 q2
              replace g0 : w7.frozen? ⟨w1.heap.size, 0, none⟩ = false := (k7.frozen (p := ⟨w1.heap.size, 0, none⟩) z2).trans g0
              replace g1 : w7.frozen? ⟨w1.heap.size, 1, none⟩ = false := (k7.frozen (p := ⟨w1.heap.size, 1, none⟩) z2).trans g1
              replace g2 : w7.frozen? ⟨w1.heap.size, 2, none⟩ = false := (k7.frozen (p := ⟨w1.heap.size, 2, none⟩) z2).trans g2
              replace z2 := Nat.lt_of_lt_of_le z2 k7.size
              have bw7 : Below w.heap.size w w7 := below_after k7 bw6
              replace hR := hR.below k7
              clear k7 ha hb a0 a1 a2 b0 b1 b2 za zb bw6 H3 H4 H5
              go_wp2
              go_roundw
              case rel => exact ⟨k + 1, by go_num, by omega, ⟨q0, q1, q2⟩, ⟨g0, g1, g2⟩, z2, hR, bw7⟩
              case measure => simp [intOf]; omega
            · have H3 := Lib.hid (F3.out k hlt)
              have H4 := Lib.hid (F4.out k hlt)
              have H5 := Lib.hid (F5.out k hlt)
              rw [decide_eq_true hmj, decide_eq_false hdk] at H3 H4
              try simp only [Bool.true_and, Bool.and_true, Bool.and_false, Bool.false_and] at H3 H4
              have e1 : (n : Int) < 2 * ((n : Int) - (d : Int)) := by omega
              have e2 : (k : Int) < (d : Int) := by omega
              clear F1 F2 F3 F4 F5 F6 F7 F8 F9 F10 F11 F12 F13 HW3 HX0 HX1 HX2 Hb HnI HdI HmI Hn35
              generalize E k = G at *
              go_wp2_with fail
              refine (H3.out _ _ _ hR).mono ?_
              rintro e w3 ⟨p3, c3, rfl, oN, kN⟩
              replace q0 := cell_step kN q0
              replace q1 := cell_step kN q1
              replace q2 := cell_step kN q2
              replace g0 : w3.frozen? ⟨w1.heap.size, 0, none⟩ = false := (kN.frozen (p := ⟨w1.heap.size, 0, none⟩) z2).trans g0
              replace g1 : w3.frozen? ⟨w1.heap.size, 1, none⟩ = false := (kN.frozen (p := ⟨w1.heap.size, 1, none⟩) z2).trans g1
              replace g2 : w3.frozen? ⟨w1.heap.size, 2, none⟩ = false := (kN.frozen (p := ⟨w1.heap.size, 2, none⟩) z2).trans g2
              replace z2 := Nat.lt_of_lt_of_le z2 kN.size
              have bw3 : Below w.heap.size w w3 := below_after kN bwr
              replace hR := hR.below kN
              have ha := oN.rd
              clear oN
              clear kN bwr
              go_upto_region 14 with fail
              generalize hwx : World.alloc _ _ = w4
              have a0 : w4.cell? ⟨w3.heap.size, 0, none⟩ = some (.slice p3 G.Reps.length c3) := by rw [← hwx]; simp [go_sem]
              have a1 : w4.cell? ⟨w3.heap.size, 1, none⟩ = some (.int .i64 G.Term) := by rw [← hwx]; simp [go_sem]
              have a2 : w4.cell? ⟨w3.heap.size, 2, none⟩ = some (.int .i64 G.Lead) := by rw [← hwx]; simp [go_sem]
              have za : w3.heap.size < w4.heap.size := by rw [← hwx]; simp
              have mN : Below w3.heap.size w3 w4 := by rw [← hwx]; exact below_new _ _
              replace q0 := cell_step mN q0
              replace q1 := cell_step mN q1
              replace q2 := cell_step mN q2
              replace g0 : w4.frozen? ⟨w1.heap.size, 0, none⟩ = false := (mN.frozen (p := ⟨w1.heap.size, 0, none⟩) z2).trans g0
              replace g1 : w4.frozen? ⟨w1.heap.size, 1, none⟩ = false := (mN.frozen (p := ⟨w1.heap.size, 1, none⟩) z2).trans g1
              replace g2 : w4.frozen? ⟨w1.heap.size, 2, none⟩ = false := (mN.frozen (p := ⟨w1.heap.size, 2, none⟩) z2).trans g2
              replace z2 := Nat.lt_of_lt_of_le z2 mN.size
              have bw4 : Below w.heap.size w w4 := below_after mN bw3
              replace hR := hR.below mN
              replace ha := ha.below mN
              clear hwx mN bw3
              go_wp2_with fail
              refine (H4.out _ _ _ hR).mono ?_
              rintro e w5 ⟨p4, c4, rfl, oN, kN⟩
              replace q0 := cell_step kN q0
              replace q1 := cell_step kN q1
              replace q2 := cell_step kN q2
              replace a0 := cell_step kN a0
              replace a1 := cell_step kN a1
              replace a2 := cell_step kN a2
              replace g0 : w5.frozen? ⟨w1.heap.size, 0, none⟩ = false := (kN.frozen (p := ⟨w1.heap.size, 0, none⟩) z2).trans g0
              replace g1 : w5.frozen? ⟨w1.heap.size, 1, none⟩ = false := (kN.frozen (p := ⟨w1.heap.size, 1, none⟩) z2).trans g1
              replace g2 : w5.frozen? ⟨w1.heap.size, 2, none⟩ = false := (kN.frozen (p := ⟨w1.heap.size, 2, none⟩) z2).trans g2
              replace z2 := Nat.lt_of_lt_of_le z2 kN.size
              replace za := Nat.lt_of_lt_of_le za kN.size
              have bw5 : Below w.heap.size w w5 := below_after kN bw4
              replace hR := hR.below kN
              replace ha := ha.below kN
              have hb := oN.rd
              clear oN
              clear kN bw4
              go_upto_region 15 with fail
              generalize hwx : World.alloc _ _ = w6
              have b0 : w6.cell? ⟨w5.heap.size, 0, none⟩ = some (.slice p4 G.Reps.length c4) := by rw [← hwx]; simp [go_sem]
              have b1 : w6.cell? ⟨w5.heap.size, 1, none⟩ = some (.int .i64 G.Term) := by rw [← hwx]; simp [go_sem]
              have b2 : w6.cell? ⟨w5.heap.size, 2, none⟩ = some (.int .i64 G.Lead) := by rw [← hwx]; simp [go_sem]
              have zb : w5.heap.size < w6.heap.size := by rw [← hwx]; simp
              have mN : Below w5.heap.size w5 w6 := by rw [← hwx]; exact below_new _ _
              replace q0 := cell_step mN q0
              replace q1 := cell_step mN q1
              replace q2 := cell_step mN q2
              replace a0 := cell_step mN a0
              replace a1 := cell_step mN a1
              replace a2 := cell_step mN a2
              replace g0 : w6.frozen? ⟨w1.heap.size, 0, none⟩ = false := (mN.frozen (p := ⟨w1.heap.size, 0, none⟩) z2).trans g0
              replace g1 : w6.frozen? ⟨w1.heap.size, 1, none⟩ = false := (mN.frozen (p := ⟨w1.heap.size, 1, none⟩) z2).trans g1
              replace g2 : w6.frozen? ⟨w1.heap.size, 2, none⟩ = false := (mN.frozen (p := ⟨w1.heap.size, 2, none⟩) z2).trans g2
              replace z2 := Nat.lt_of_lt_of_le z2 mN.size
              replace za := Nat.lt_of_lt_of_le za mN.size
              have bw6 : Below w.heap.size w w6 := below_after mN bw5
              replace hR := hR.below mN
              replace ha := ha.below mN
              replace hb := hb.below mN
              clear hwx mN bw5
              go_wp2_with fail
              refine (H5.out _ _ _ _ _ ha hb).mono ?_
              rintro e w7 ⟨rfl, k7⟩
              replace q0 := cell_step k7 q0
              replace q1 := cell_step k7 q1
              replace q2 := cell_step k7 q2
              replace g0 : w7.frozen? ⟨w1.heap.size, 0, none⟩ = false := (k7.frozen (p := ⟨w1.heap.size, 0, none⟩) z2).trans g0
              replace g1 : w7.frozen? ⟨w1.heap.size, 1, none⟩ = false := (k7.frozen (p := ⟨w1.heap.size, 1, none⟩) z2).trans g1
              replace g2 : w7.frozen? ⟨w1.heap.size, 2, none⟩ = false := (k7.frozen (p := ⟨w1.heap.size, 2, none⟩) z2).trans g2
              replace z2 := Nat.lt_of_lt_of_le z2 k7.size
              have bw7 : Below w.heap.size w w7 := below_after k7 bw6
              replace hR := hR.below k7
              clear k7 ha hb a0 a1 a2 b0 b1 b2 za zb bw6 H3 H4 H5
              go_wp2
              go_roundw
              case rel => exact ⟨k + 1, by go_num, by omega, ⟨q0, q1, q2⟩, ⟨g0, g1, g2⟩, z2, hR, bw7⟩
              case measure => simp [intOf]; omega
          · have H3 := Lib.hid (F3.out k hlt)
            have H4 := Lib.hid (F4.out k hlt)
            have H5 := Lib.hid (F5.out k hlt)
            rw [decide_eq_false hmj, Bool.false_and] at H3 H4
            try simp only [Bool.true_and, Bool.and_true, Bool.and_false, Bool.false_and] at H3 H4
            have e1 : 2 * ((n : Int) - (d : Int)) ≤ (n : Int) := by omega
            clear F1 F2 F3 F4 F5 F6 F7 F8 F9 F10 F11 F12 F13 HW3 HX0 HX1 HX2 Hb HnI HdI HmI Hn35
            generalize E k = G at *
            go_wp2_with fail
            refine (H3.out _ _ _ hR).mono ?_
            rintro e w3 ⟨p3, c3, rfl, oN, kN⟩
            replace q0 := cell_step kN q0
            replace q1 := cell_step kN q1
            replace q2 := cell_step kN q2
            replace g0 : w3.frozen? ⟨w1.heap.size, 0, none⟩ = false := (kN.frozen (p := ⟨w1.heap.size, 0, none⟩) z2).trans g0
            replace g1 : w3.frozen? ⟨w1.heap.size, 1, none⟩ = false := (kN.frozen (p := ⟨w1.heap.size, 1, none⟩) z2).trans g1
            replace g2 : w3.frozen? ⟨w1.heap.size, 2, none⟩ = false := (kN.frozen (p := ⟨w1.heap.size, 2, none⟩) z2).trans g2
            replace z2 := Nat.lt_of_lt_of_le z2 kN.size
            have bw3 : Below w.heap.size w w3 := below_after kN bwr
            replace hR := hR.below kN
            have ha := oN.rd
            clear oN
            clear kN bwr
            go_upto_region 14 with fail
            generalize hwx : World.alloc _ _ = w4
            have a0 : w4.cell? ⟨w3.heap.size, 0, none⟩ = some (.slice p3 G.Reps.length c3) := by rw [← hwx]; simp [go_sem]
            have a1 : w4.cell? ⟨w3.heap.size, 1, none⟩ = some (.int .i64 G.Term) := by rw [← hwx]; simp [go_sem]
            have a2 : w4.cell? ⟨w3.heap.size, 2, none⟩ = some (.int .i64 G.Lead) := by rw [← hwx]; simp [go_sem]
            have za : w3.heap.size < w4.heap.size := by rw [← hwx]; simp
            have mN : Below w3.heap.size w3 w4 := by rw [← hwx]; exact below_new _ _
            replace q0 := cell_step mN q0
            replace q1 := cell_step mN q1
            replace q2 := cell_step mN q2
            replace g0 : w4.frozen? ⟨w1.heap.size, 0, none⟩ = false := (mN.frozen (p := ⟨w1.heap.size, 0, none⟩) z2).trans g0
            replace g1 : w4.frozen? ⟨w1.heap.size, 1, none⟩ = false := (mN.frozen (p := ⟨w1.heap.size, 1, none⟩) z2).trans g1
            replace g2 : w4.frozen? ⟨w1.heap.size, 2, none⟩ = false := (mN.frozen (p := ⟨w1.heap.size, 2, none⟩) z2).trans g2
            replace z2 := Nat.lt_of_lt_of_le z2 mN.size
            have bw4 : Below w.heap.size w w4 := below_after mN bw3
            replace hR := hR.below mN
            replace ha := ha.below mN
            clear hwx mN bw3
            go_wp2_with fail
            refine (H4.out _ _ _ hR).mono ?_
            rintro e w5 ⟨p4, c4, rfl, oN, kN⟩
            replace q0 := cell_step kN q0
            replace q1 := cell_step kN q1
            replace q2 := cell_step kN q2
            replace a0 := cell_step kN a0
            replace a1 := cell_step kN a1
            replace a2 := cell_step kN a2
            replace g0 : w5.frozen? ⟨w1.heap.size, 0, none⟩ = false := (kN.frozen (p := ⟨w1.heap.size, 0, none⟩) z2).trans g0
            replace g1 : w5.frozen? ⟨w1.heap.size, 1, none⟩ = false := (kN.frozen (p := ⟨w1.heap.size, 1, none⟩) z2).trans g1
            replace g2 : w5.frozen? ⟨w1.heap.size, 2, none⟩ = false := (kN.frozen (p := ⟨w1.heap.size, 2, none⟩) z2).trans g2
            replace z2 := Nat.lt_of_lt_of_le z2 kN.size
            replace za := Nat.lt_of_lt_of_le za kN.size
            have bw5 : Below w.heap.size w w5 := below_after kN bw4
            replace hR := hR.below kN
            replace ha := ha.below kN
            have hb := oN.rd
            clear oN
            clear kN bw4
            go_upto_region 15 with fail
            generalize hwx : World.alloc _ _ = w6
            have b0 : w6.cell? ⟨w5.heap.size, 0, none⟩ = some (.slice p4 G.Reps.length c4) := by rw [← hwx]; simp [go_sem]
            have b1 : w6.cell? ⟨w5.heap.size, 1, none⟩ = some (.int .i64 G.Term) := by rw [← hwx]; simp [go_sem]
            have b2 : w6.cell? ⟨w5.heap.size, 2, none⟩ = some (.int .i64 G.Lead) := by rw [← hwx]; simp [go_sem]
            have zb : w5.heap.size < w6.heap.size := by rw [← hwx]; simp
            have mN : Below w5.heap.size w5 w6 := by rw [← hwx]; exact below_new _ _
            replace q0 := cell_step mN q0
            replace q1 := cell_step mN q1
            replace q2 := cell_step mN q2
            replace a0 := cell_step mN a0
            replace a1 := cell_step mN a1
            replace a2 := cell_step mN a2
            replace g0 : w6.frozen? ⟨w1.heap.size, 0, none⟩ = false := (mN.frozen (p := ⟨w1.heap.size, 0, none⟩) z2).trans g0
            replace g1 : w6.frozen? ⟨w1.heap.size, 1, none⟩ = false := (mN.frozen (p := ⟨w1.heap.size, 1, none⟩) z2).trans g1
            replace g2 : w6.frozen? ⟨w1.heap.size, 2, none⟩ = false := (mN.frozen (p := ⟨w1.heap.size, 2, none⟩) z2).trans g2
            replace z2 := Nat.lt_of_lt_of_le z2 mN.size
            replace za := Nat.lt_of_lt_of_le za mN.size
            have bw6 : Below w.heap.size w w6 := below_after mN bw5
            replace hR := hR.below mN
            replace ha := ha.below mN
            replace hb := hb.below mN
            clear hwx mN bw5
            go_wp2_with fail
            refine (H5.out _ _ _ _ _ ha hb).mono ?_
            rintro e w7 ⟨rfl, k7⟩
            replace q0 := cell_step k7 q0
            replace q1 := cell_step k7 q1
            replace q2 := cell_step k7 q2
            replace g0 : w7.frozen? ⟨w1.heap.size, 0, none⟩ = false := (k7.frozen (p := ⟨w1.heap.size, 0, none⟩) z2).trans g0
            replace g1 : w7.frozen? ⟨w1.heap.size, 1, none⟩ = false := (k7.frozen (p := ⟨w1.heap.size, 1, none⟩) z2).trans g1
            replace g2 : w7.frozen? ⟨w1.heap.size, 2, none⟩ = false := (k7.frozen (p := ⟨w1.heap.size, 2, none⟩) z2).trans g2
            replace z2 := Nat.lt_of_lt_of_le z2 k7.size
            have bw7 : Below w.heap.size w w7 := below_after k7 bw6
            replace hR := hR.below k7
            clear k7 ha hb a0 a1 a2 b0 b1 b2 za zb bw6 H3 H4 H5
            go_wp2
            go_roundw
            case rel => exact ⟨k + 1, by go_num, by omega, ⟨q0, q1, q2⟩, ⟨g0, g1, g2⟩, z2, hR, bw7⟩
            case measure => simp [intOf]; omega
        · have hlt2 : (n : Int) ≤ (k : Int) := by omega
          obtain rfl : n = k := by omega
          clear F1 F2 F3 F4 F5 HX0 HX1 Hb HnI HdI
          by_cases hmj : n < 2 * (n - d)
          · have e1 : (n : Int) < 2 * ((n : Int) - (d : Int)) := by omega
            have G6 := Lib.hid (F6.out hmj)
            have G7 := Lib.hid (F7.out hmj)
            have G9 := Lib.hid (F9.out hmj)
            have G10 := Lib.hid (F10.out hmj)
            have G11 := Lib.hid (F11.out hmj)
            have G12 := Lib.hid (F12.out hmj)
            have G13 := Lib.hid (F13.out hmj)
            clear F6 F7 F9 F10 F11 F12 F13
            go_wp2_with fail
            have zb := z2
            refine (G6.out _ _ _ hR).mono ?_
            rintro e w3 ⟨p3, c3, rfl, o2, k2⟩
            replace q0 := cell_step k2 q0
            replace q1 := cell_step k2 q1
            replace q2 := cell_step k2 q2
            replace g0 : w3.frozen? ⟨w1.heap.size, 0, none⟩ = false := (k2.frozen (p := ⟨w1.heap.size, 0, none⟩) zb).trans g0
            replace g1 : w3.frozen? ⟨w1.heap.size, 1, none⟩ = false := (k2.frozen (p := ⟨w1.heap.size, 1, none⟩) zb).trans g1
            replace g2 : w3.frozen? ⟨w1.heap.size, 2, none⟩ = false := (k2.frozen (p := ⟨w1.heap.size, 2, none⟩) zb).trans g2
            replace z2 := Nat.lt_of_lt_of_le zb k2.size
            have bw3 : Below w.heap.size w w3 := below_after k2 bwr
            clear k2 hR
            go_upto_region 20 with fail
            generalize hwx : World.setCell _ _ _ = wa
            have n0 : wa.cell? ⟨w1.heap.size, 0, none⟩ = some (.slice p3 n c3) := by rw [← hwx]; simp [go_sem, q0, q1, q2]
            have n1 : wa.cell? ⟨w1.heap.size, 1, none⟩ = some (.int .i64 1) := by rw [← hwx]; simp [go_sem, q0, q1, q2]
            have n2 : wa.cell? ⟨w1.heap.size, 2, none⟩ = some (.int .i64 (d : Int)) := by rw [← hwx]; simp [go_sem, q0, q1, q2]
            have bwa : Below w.heap.size w wa := by rw [← hwx]; (repeat (first | (with_reducible exact Below.refl _ _) | (with_reducible refine below_setCell ?_ (by first | (simp; done) | (simp; omega) | omega)) | (with_reducible refine below_alloc _ ?_) | (with_reducible refine below_drewN ?_ _) | (with_reducible assumption) | (with_reducible refine below_after (by assumption) ?_)))
            have hR : Rd Cod.replica wa (.slice p3 n c3) (P 0) := (o2.keep (Nat.le_refl _) (show Keep wr.heap.size w3 wa from by rw [← hwx]; (repeat (first | (with_reducible exact Keep.refl _ _) | (with_reducible refine keep_set ?_ (by first | (simp; done) | (simp; omega) | omega)) | (with_reducible refine keep_alloc _ ?_) | (with_reducible refine keep_drewN ?_ _) | (with_reducible assumption) | (with_reducible refine keep_below (by assumption) ?_))))).rd
            have zwa : w1.heap.size < wa.heap.size := by rw [← hwx]; simp; omega
            replace g0 : wa.frozen? ⟨w1.heap.size, 0, none⟩ = false := by rw [← hwx]; simp only [World.frozen?_setCell]; exact g0
            replace g1 : wa.frozen? ⟨w1.heap.size, 1, none⟩ = false := by rw [← hwx]; simp only [World.frozen?_setCell]; exact g1
            replace g2 : wa.frozen? ⟨w1.heap.size, 2, none⟩ = false := by rw [← hwx]; simp only [World.frozen?_setCell]; exact g2
            clear hwx q0 q1 q2 z2 zb bw3 o2
            have q0 := n0
            have q1 := n1
            have q2 := n2
            have z2 := zwa
            clear n0 n1 n2 zwa
            have hmI := HmI.out
            go_wp2_with fail
            refine (HX2.out _ bwa).mono ?_
            rintro e w5 ⟨rfl, rfl⟩
            go_wp2
            try simp only [HmI.out]
            clear hmI HmI HX2 hlt hk hlt2
            go_loopw [14] (fun i wr => ∃ (k : Nat) (p2 : Option Addr) (c2 : Nat), i = .int .i64 (k : Int) ∧ k ≤ m ∧ (wr.cell? ⟨w1.heap.size, 0, none⟩ = some (.slice p2 n c2) ∧ wr.cell? ⟨w1.heap.size, 1, none⟩ = some (.int .i64 1) ∧ wr.cell? ⟨w1.heap.size, 2, none⟩ = some (.int .i64 (d : Int))) ∧ (wr.frozen? ⟨w1.heap.size, 0, none⟩ = false ∧ wr.frozen? ⟨w1.heap.size, 1, none⟩ = false ∧ wr.frozen? ⟨w1.heap.size, 2, none⟩ = false) ∧ w1.heap.size < wr.heap.size ∧ Rd Cod.replica wr (.slice p2 n c2) (P k) ∧ Below w.heap.size w wr) (fun i _ => m - (intOf i).toNat)
            case atStart => exact ⟨0, p3, c3, rfl, Nat.zero_le _, ⟨q0, q1, q2⟩, ⟨g0, g1, g2⟩, z2, hR, bwa⟩
            case round =>
              clear q0 q1 q2 g0 g1 g2 z2 hR bwa
              obtain ⟨k, p2, c2, rfl, hk, ⟨q0, q1, q2⟩, ⟨g0, g1, g2⟩, z2, hR, bwr⟩ := hrel
              by_cases hlt : k < m
              · have hlt2 : (k : Int) < (m : Int) := by omega
                have hk4 : (k : Int) ≤ 4 := by omega
                have Hrec := Lib.hid (HW3.out k (by omega))
                have hwk : IntKind.i64.wrap (IntKind.i64.wrap (3 * (k : Int)) + 3) = 3 * (k : Int) + 3 := by rw [IntWalk.i64_in (3 * (k : Int)) (by omega), IntWalk.i64_in _ (by omega)]
                have Hput := Lib.hid (G7.out k hlt)
                generalize Y (3 * k + 3) = y at *
                go_upto_region 24 with fail
                refine wp_region_d 10 (fun w' => w'.cell? ⟨w1.heap.size, 0, none⟩ = some (.slice p2 n c2) ∧ w'.cell? ⟨w1.heap.size, 1, none⟩ = some (.int .i64 1) ∧ w'.cell? ⟨w1.heap.size, 2, none⟩ = some (.int .i64 (d : Int))) (by kernel_rfl) ?_
                have hS : wr.drew.cell? ⟨w1.heap.size, 0, none⟩ = some (.slice p2 n c2) ∧ wr.drew.cell? ⟨w1.heap.size, 1, none⟩ = some (.int .i64 1) ∧ wr.drew.cell? ⟨w1.heap.size, 2, none⟩ = some (.int .i64 (d : Int)) := ⟨q0, q1, q2⟩
                refine d_take (f := 30) (v := ?_) 0 rfl (by kernel_rfl) (fun _ _ _ h => h) (Or.inl ⟨by rfl, ?_⟩) hS ?_
                rotate_left
                · intro wx hx
                  obtain ⟨x0, x1, x2⟩ := hx
                  first | (go_simp; done) | (go_simp; with_reducible rfl)
                simp only [Act.put, List.setIfInBounds_toArray, List.set_cons_zero, List.set_cons_succ]
                refine d_take (f := 30) (v := ?_) 1 rfl (by kernel_rfl) (fun _ _ _ h => h) (Or.inl ⟨by rfl, ?_⟩) hS ?_
                rotate_left
                · intro wx hx
                  obtain ⟨x0, x1, x2⟩ := hx
                  first | (go_simp; done) | (go_simp; with_reducible rfl)
                simp only [Act.put, List.setIfInBounds_toArray, List.set_cons_zero, List.set_cons_succ]
                refine d_take (f := 30) (v := ?_) 2 rfl (by kernel_rfl) (fun _ _ _ h => h) (Or.inl ⟨by rfl, ?_⟩) hS ?_
                rotate_left
                · intro wx hx
                  obtain ⟨x0, x1, x2⟩ := hx
                  first | (go_simp; done) | (go_simp; with_reducible rfl)
                simp only [Act.put, List.setIfInBounds_toArray, List.set_cons_zero, List.set_cons_succ]
                refine d_take (f := 30) (v := ?_) 3 rfl (by kernel_rfl) (fun _ _ _ h => h) (Or.inl ⟨by rfl, ?_⟩) hS ?_
                rotate_left
                · intro wx hx
                  obtain ⟨x0, x1, x2⟩ := hx
                  first | (go_simp; done) | (go_simp; with_reducible rfl)
                simp only [Act.put, List.setIfInBounds_toArray, List.set_cons_zero, List.set_cons_succ]
                refine d_take (f := 30) (v := ?_) 4 rfl (by kernel_rfl) (fun _ _ _ h => h) (Or.inl ⟨by rfl, ?_⟩) hS ?_
                rotate_left
                · intro wx hx
                  obtain ⟨x0, x1, x2⟩ := hx
                  first | (go_simp; done) | (go_simp; with_reducible rfl)
                simp only [Act.put, List.setIfInBounds_toArray, List.set_cons_zero, List.set_cons_succ]
                refine d_step 5 (by kernel_rfl) rfl (fun K hK => ?_)
                go_simp
                go_at_call 14
                refine (Hrec.out _ (show Below w.heap.size w wr.drew from by (repeat (first | (with_reducible exact Below.refl _ _) | (with_reducible refine below_setCell ?_ (by first | (simp; done) | (simp; omega) | omega)) | (with_reducible refine below_alloc _ ?_) | (with_reducible refine below_drewN ?_ _) | (with_reducible refine below_drew_step ?_) | (with_reducible assumption) | (with_reducible refine below_after (by assumption) ?_))))).mono ?_
                rintro e wv ⟨rfl, kv⟩
                have mv : Below wr.heap.size wr wv := below_after kv (by (repeat (first | (with_reducible exact Below.refl _ _) | (with_reducible refine below_setCell ?_ (by first | (simp; done) | (simp; omega) | omega)) | (with_reducible refine below_alloc _ ?_) | (with_reducible refine below_drewN ?_ _) | (with_reducible refine below_drew_step ?_) | (with_reducible assumption) | (with_reducible refine below_after (by assumption) ?_))))
                have hRv := hR.below mv
                have bv : Below w.heap.size w wv := below_after mv bwr
                replace q0 := cell_step mv q0
                replace q1 := cell_step mv q1
                replace q2 := cell_step mv q2
                replace g0 : wv.frozen? ⟨w1.heap.size, 0, none⟩ = false := (mv.frozen (p := ⟨w1.heap.size, 0, none⟩) z2).trans g0
                replace g1 : wv.frozen? ⟨w1.heap.size, 1, none⟩ = false := (mv.frozen (p := ⟨w1.heap.size, 1, none⟩) z2).trans g1
                replace g2 : wv.frozen? ⟨w1.heap.size, 2, none⟩ = false := (mv.frozen (p := ⟨w1.heap.size, 2, none⟩) z2).trans g2
                have zb : w1.heap.size < wv.heap.size := Nat.lt_of_lt_of_le z2 mv.size
                have hSv : wv.cell? ⟨w1.heap.size, 0, none⟩ = some (.slice p2 n c2) ∧ wv.cell? ⟨w1.heap.size, 1, none⟩ = some (.int .i64 1) ∧ wv.cell? ⟨w1.heap.size, 2, none⟩ = some (.int .i64 (d : Int)) := ⟨q0, q1, q2⟩
                refine hK.out _ _ (fun _ => hSv) ?_
                clear hK K
                try simp only [Act.put, List.setIfInBounds_toArray, List.set_cons_zero, List.set_cons_succ]
                refine d_step 6 (by kernel_rfl) rfl (fun K hK => ?_)
                go_simp
                go_at_call 13
                refine (Hput.out _ _ _ hRv).mono ?_
                rintro e wm ⟨p4, c4, rfl, o2, k2⟩
                replace q0 := cell_step k2 q0
                replace q1 := cell_step k2 q1
                replace q2 := cell_step k2 q2
                replace g0 : wm.frozen? ⟨w1.heap.size, 0, none⟩ = false := (k2.frozen (p := ⟨w1.heap.size, 0, none⟩) zb).trans g0
                replace g1 : wm.frozen? ⟨w1.heap.size, 1, none⟩ = false := (k2.frozen (p := ⟨w1.heap.size, 1, none⟩) zb).trans g1
                replace g2 : wm.frozen? ⟨w1.heap.size, 2, none⟩ = false := (k2.frozen (p := ⟨w1.heap.size, 2, none⟩) zb).trans g2
                have zm : w1.heap.size < wm.heap.size := Nat.lt_of_lt_of_le zb k2.size
                have bwm : Below w.heap.size w wm := below_after k2 bv
                have hSm : wm.cell? ⟨w1.heap.size, 0, none⟩ = some (.slice p2 n c2) ∧ wm.cell? ⟨w1.heap.size, 1, none⟩ = some (.int .i64 1) ∧ wm.cell? ⟨w1.heap.size, 2, none⟩ = some (.int .i64 (d : Int)) := ⟨q0, q1, q2⟩
                refine hK.out _ _ (fun _ => hSm) ?_
                clear hK K
                try simp only [Act.put, List.setIfInBounds_toArray, List.set_cons_zero, List.set_cons_succ]
                refine d_takeY (v := ?_) 7 rfl (by kernel_rfl) (fun _ _ _ h => h) (Or.inl ⟨by rfl, ?_⟩) hSm ?_
                rotate_left
                · intro wx _
                  first | (go_simp; done) | (go_simp; with_reducible rfl)
                simp only [Act.put, List.setIfInBounds_toArray, List.set_cons_zero, List.set_cons_succ]
                refine d_takeY (v := ?_) 8 rfl (by kernel_rfl) (fun _ _ _ h => h) (Or.inl ⟨by rfl, ?_⟩) hSm ?_
                rotate_left
                · intro wx _
                  first | (go_simp; done) | (go_simp; with_reducible rfl)
                simp only [Act.put, List.setIfInBounds_toArray, List.set_cons_zero, List.set_cons_succ]
                refine d_takeY (v := ?_) 9 rfl (by kernel_rfl) (fun _ _ _ h => h) (Or.inl ⟨by rfl, ?_⟩) hSm ?_
                rotate_left
                · intro wx _
                  first | (go_simp; done) | (go_simp; with_reducible rfl)
                simp only [Act.put, List.setIfInBounds_toArray, List.set_cons_zero, List.set_cons_succ]
                refine d_step 10 (by kernel_rfl) rfl (fun K hK => ?_)
                go_simp
                refine hK.out _ _ (fun h => by exact absurd h (by decide)) ?_
                clear hK K
                refine d_done (by kernel_rfl) ?_ _
                try simp only [Act.put, List.setIfInBounds_toArray, List.set_cons_zero, List.set_cons_succ]
                generalize hwx : World.setCell _ _ _ = wy
                have n0 : wy.cell? ⟨w1.heap.size, 0, none⟩ = some (.slice p4 n c4) := by rw [← hwx]; simp [go_sem, q0, q1, q2]
                have n1 : wy.cell? ⟨w1.heap.size, 1, none⟩ = some (.int .i64 1) := by rw [← hwx]; simp [go_sem, q0, q1, q2]
                have n2 : wy.cell? ⟨w1.heap.size, 2, none⟩ = some (.int .i64 (d : Int)) := by rw [← hwx]; simp [go_sem, q0, q1, q2]
                have bwy : Below w.heap.size w wy := by rw [← hwx]; (repeat (first | (with_reducible exact Below.refl _ _) | (with_reducible refine below_setCell ?_ (by first | (simp; done) | (simp; omega) | omega)) | (with_reducible refine below_alloc _ ?_) | (with_reducible refine below_drewN ?_ _) | (with_reducible assumption) | (with_reducible refine below_after (by assumption) ?_)))
                have hR : Rd Cod.replica wy (.slice p4 n c4) (P (k + 1)) := (o2.keep (Nat.le_refl _) (show Keep wv.heap.size wm wy from by rw [← hwx]; (repeat (first | (with_reducible exact Keep.refl _ _) | (with_reducible refine keep_set ?_ (by first | (simp; done) | (simp; omega) | omega)) | (with_reducible refine keep_alloc _ ?_) | (with_reducible refine keep_drewN ?_ _) | (with_reducible assumption) | (with_reducible refine keep_below (by assumption) ?_))))).rd
                have zwy : w1.heap.size < wy.heap.size := by rw [← hwx]; simp; exact zm
                replace g0 : wy.frozen? ⟨w1.heap.size, 0, none⟩ = false := by rw [← hwx]; simp only [World.frozen?_setCell]; exact g0
                replace g1 : wy.frozen? ⟨w1.heap.size, 1, none⟩ = false := by rw [← hwx]; simp only [World.frozen?_setCell]; exact g1
                replace g2 : wy.frozen? ⟨w1.heap.size, 2, none⟩ = false := by rw [← hwx]; simp only [World.frozen?_setCell]; exact g2
                clear hwx q0 q1 q2 z2 zb zm bwm o2 hS
                have q0 := n0
                have q1 := n1
                have q2 := n2
                have z2 := zwy
                clear n0 n1 n2 zwy
                go_wp2
                go_roundw
                case rel => exact ⟨k + 1, p4, c4, by go_num, by omega, ⟨q0, q1, q2⟩, ⟨g0, g1, g2⟩, z2, hR, bwy⟩
                case measure => simp [intOf]; omega
              · have hlt2 : (m : Int) ≤ (k : Int) := by omega
                obtain rfl : m = k := by omega
                rw [F8.out] at hR
                clear F8 G6 G7 HW3
                go_wp2
                go_loopw [15] (fun i wr => ∃ (k : Nat) (p2 : Option Addr) (c2 : Nat), i = .int .i64 (k : Int) ∧ k ≤ n ∧ (wr.cell? ⟨w1.heap.size, 0, none⟩ = some (.slice p2 n c2) ∧ wr.cell? ⟨w1.heap.size, 1, none⟩ = some (.int .i64 1) ∧ wr.cell? ⟨w1.heap.size, 2, none⟩ = some (.int .i64 (d : Int))) ∧ (wr.frozen? ⟨w1.heap.size, 0, none⟩ = false ∧ wr.frozen? ⟨w1.heap.size, 1, none⟩ = false ∧ wr.frozen? ⟨w1.heap.size, 2, none⟩ = false) ∧ w1.heap.size < wr.heap.size ∧ Rd Cod.replica wr (.slice p2 n c2) (Q k) ∧ Below w.heap.size w wr) (fun i _ => n - (intOf i).toNat)
                case atStart => exact ⟨0, p2, c2, rfl, Nat.zero_le _, ⟨q0, q1, q2⟩, ⟨g0, g1, g2⟩, z2, hR, bwr⟩
                case round =>
                  clear q0 q1 q2 g0 g1 g2 z2 hR bwr
                  obtain ⟨k, p2, c2, rfl, hk, ⟨q0, q1, q2⟩, ⟨g0, g1, g2⟩, z2, hR, bwr⟩ := hrel
                  clear hlt2 hlt
                  by_cases hlt : k < n
                  · have hlt2 : (k : Int) < (n : Int) := by omega
                    by_cases hdk : d < k
                    · have H9 := Lib.hid (G9.out k hlt hdk)
                      clear G9 G10 G11 G12 G13
                      have zk : w1.heap.size + 1 ≤ wr.heap.size := z2
                      go_wp2_with fail
                      refine (H9.out _ _ _ hR).mono ?_
                      rintro e w3 ⟨p4, c4, rfl, oN, kN⟩
                      replace q0 := cell_step kN q0
                      replace q1 := cell_step kN q1
                      replace q2 := cell_step kN q2
                      replace g0 : w3.frozen? ⟨w1.heap.size, 0, none⟩ = false := (kN.frozen (p := ⟨w1.heap.size, 0, none⟩) z2).trans g0
                      replace g1 : w3.frozen? ⟨w1.heap.size, 1, none⟩ = false := (kN.frozen (p := ⟨w1.heap.size, 1, none⟩) z2).trans g1
                      replace g2 : w3.frozen? ⟨w1.heap.size, 2, none⟩ = false := (kN.frozen (p := ⟨w1.heap.size, 2, none⟩) z2).trans g2
                      replace z2 := Nat.lt_of_lt_of_le z2 kN.size
                      have bw3 : Below w.heap.size w w3 := below_after kN bwr
                      replace hR := hR.below kN
                      have ha := oN.mono zk
                      clear oN
                      clear kN bwr
                      go_upto_region 30 with fail
                      generalize hwx : World.alloc _ _ = w4
                      have a0 : w4.cell? ⟨w3.heap.size, 0, none⟩ = some (.slice p4 n c4) := by rw [← hwx]; simp [go_sem]
                      have a1 : w4.cell? ⟨w3.heap.size, 1, none⟩ = some (.int .i64 1) := by rw [← hwx]; simp [go_sem]
                      have a2 : w4.cell? ⟨w3.heap.size, 2, none⟩ = some (.int .i64 (d : Int)) := by rw [← hwx]; simp [go_sem]
                      have za : w3.heap.size < w4.heap.size := by rw [← hwx]; simp
                      have zn : w1.heap.size < w3.heap.size := z2
                      have mN : Below w3.heap.size w3 w4 := by rw [← hwx]; exact below_new _ _
                      replace q0 := cell_step mN q0
                      replace q1 := cell_step mN q1
                      replace q2 := cell_step mN q2
                      replace g0 : w4.frozen? ⟨w1.heap.size, 0, none⟩ = false := (mN.frozen (p := ⟨w1.heap.size, 0, none⟩) z2).trans g0
                      replace g1 : w4.frozen? ⟨w1.heap.size, 1, none⟩ = false := (mN.frozen (p := ⟨w1.heap.size, 1, none⟩) z2).trans g1
                      replace g2 : w4.frozen? ⟨w1.heap.size, 2, none⟩ = false := (mN.frozen (p := ⟨w1.heap.size, 2, none⟩) z2).trans g2
                      replace z2 := Nat.lt_of_lt_of_le z2 mN.size
                      have bw4 : Below w.heap.size w w4 := below_after mN bw3
                      replace hR := hR.below mN
                      replace ha := ha.below mN
                      clear hwx mN bw3
                      have nea : w1.heap.size ≠ w3.heap.size := Nat.ne_of_lt zn
                      go_upto_region 27 with fail
                      generalize hwx : World.setCell _ _ _ = w5
                      have n0 : w5.cell? ⟨w1.heap.size, 0, none⟩ = some (.slice p4 n c4) := by rw [← hwx]; simp [go_sem, q0, q1, q2]
                      have n1 : w5.cell? ⟨w1.heap.size, 1, none⟩ = some (.int .i64 1) := by rw [← hwx]; simp [go_sem, q0, q1, q2]
                      have n2 : w5.cell? ⟨w1.heap.size, 2, none⟩ = some (.int .i64 (d : Int)) := by rw [← hwx]; simp [go_sem, q0, q1, q2]
                      have bw5 : Below w.heap.size w w5 := by rw [← hwx]; (repeat (first | (with_reducible exact Below.refl _ _) | (with_reducible refine below_setCell ?_ (by first | (simp; done) | (simp; omega) | omega)) | (with_reducible refine below_alloc _ ?_) | (with_reducible refine below_drewN ?_ _) | (with_reducible assumption) | (with_reducible refine below_after (by assumption) ?_)))
                      have hN := (ha.keep (Nat.le_refl _) (show Keep (w1.heap.size + 1) w4 w5 from by rw [← hwx]; (repeat (first | (with_reducible exact Keep.refl _ _) | (with_reducible refine keep_set ?_ (by first | (simp; done) | (simp; omega) | omega)) | (with_reducible refine keep_alloc _ ?_) | (with_reducible refine keep_drewN ?_ _) | (with_reducible assumption) | (with_reducible refine keep_below (by assumption) ?_))))).rd
                      have zN : w1.heap.size < w5.heap.size := by rw [← hwx]; simp; omega
                      replace g0 : w5.frozen? ⟨w1.heap.size, 0, none⟩ = false := by rw [← hwx]; simp only [World.frozen?_setCell]; exact g0
                      replace g1 : w5.frozen? ⟨w1.heap.size, 1, none⟩ = false := by rw [← hwx]; simp only [World.frozen?_setCell]; exact g1
                      replace g2 : w5.frozen? ⟨w1.heap.size, 2, none⟩ = false := by rw [← hwx]; simp only [World.frozen?_setCell]; exact g2
                      clear hwx q0 q1 q2 z2 ha a0 a1 a2 za zk nea zn
                      go_wp2
                      go_roundw
                      case rel => exact ⟨k + 1, p4, c4, by go_num, by omega, ⟨n0, n1, n2⟩, ⟨g0, g1, g2⟩, zN, hN, bw5⟩
                      case measure => simp [intOf]; omega
                    · have H10 := Lib.hid (G10.out k hlt hdk).2
                      have hQ := Lib.hid (G10.out k hlt hdk).1
                      clear G9 G10 G11 G12 G13
                      go_wp2_with fail
                      refine (H10.out _ _ _ hR).mono ?_
                      rintro e w3 ⟨p4, c4, rfl, kN⟩
                      replace q0 := cell_step kN q0
                      replace q1 := cell_step kN q1
                      replace q2 := cell_step kN q2
                      replace g0 : w3.frozen? ⟨w1.heap.size, 0, none⟩ = false := (kN.frozen (p := ⟨w1.heap.size, 0, none⟩) z2).trans g0
                      replace g1 : w3.frozen? ⟨w1.heap.size, 1, none⟩ = false := (kN.frozen (p := ⟨w1.heap.size, 1, none⟩) z2).trans g1
                      replace g2 : w3.frozen? ⟨w1.heap.size, 2, none⟩ = false := (kN.frozen (p := ⟨w1.heap.size, 2, none⟩) z2).trans g2
                      replace z2 := Nat.lt_of_lt_of_le z2 kN.size
                      have bw3 : Below w.heap.size w w3 := below_after kN bwr
                      replace hR := hR.below kN
                      clear kN bwr
                      go_upto_region 29 with fail
                      generalize hwx : World.alloc _ _ = w4
                      have a0 : w4.cell? ⟨w3.heap.size, 0, none⟩ = some (.slice p4 0 c4) := by rw [← hwx]; simp [go_sem]
                      have a1 : w4.cell? ⟨w3.heap.size, 1, none⟩ = some (.int .i64 0) := by rw [← hwx]; simp [go_sem]
                      have a2 : w4.cell? ⟨w3.heap.size, 2, none⟩ = some (.int .i64 0) := by rw [← hwx]; simp [go_sem]
                      have za : w3.heap.size < w4.heap.size := by rw [← hwx]; simp
                      have mN : Below w3.heap.size w3 w4 := by rw [← hwx]; exact below_new _ _
                      replace q0 := cell_step mN q0
                      replace q1 := cell_step mN q1
                      replace q2 := cell_step mN q2
                      replace g0 : w4.frozen? ⟨w1.heap.size, 0, none⟩ = false := (mN.frozen (p := ⟨w1.heap.size, 0, none⟩) z2).trans g0
                      replace g1 : w4.frozen? ⟨w1.heap.size, 1, none⟩ = false := (mN.frozen (p := ⟨w1.heap.size, 1, none⟩) z2).trans g1
                      replace g2 : w4.frozen? ⟨w1.heap.size, 2, none⟩ = false := (mN.frozen (p := ⟨w1.heap.size, 2, none⟩) z2).trans g2
                      replace z2 := Nat.lt_of_lt_of_le z2 mN.size
                      have bw4 : Below w.heap.size w w4 := below_after mN bw3
                      replace hR := hR.below mN
                      clear hwx mN bw3
                      rw [← hQ.out] at hR
                      clear a0 a1 a2 za hQ H10
                      go_wp2
                      go_roundw
                      case rel => exact ⟨k + 1, p2, c2, by go_num, by omega, ⟨q0, q1, q2⟩, ⟨g0, g1, g2⟩, z2, hR, bw4⟩
                      case measure => simp [intOf]; omega
                  · have hlt2 : (n : Int) ≤ (k : Int) := by omega
                    obtain rfl : n = k := by omega
                    clear G9 G10
                    go_wp2_with fail
                    have zb := z2
                    refine (G11.out _ _ _ hR).mono ?_
                    rintro e w3 ⟨p3, c3, rfl, o2, k2⟩
                    replace q0 := cell_step k2 q0
                    replace q1 := cell_step k2 q1
                    replace q2 := cell_step k2 q2
                    replace g0 : w3.frozen? ⟨w1.heap.size, 0, none⟩ = false := (k2.frozen (p := ⟨w1.heap.size, 0, none⟩) zb).trans g0
                    replace g1 : w3.frozen? ⟨w1.heap.size, 1, none⟩ = false := (k2.frozen (p := ⟨w1.heap.size, 1, none⟩) zb).trans g1
                    replace g2 : w3.frozen? ⟨w1.heap.size, 2, none⟩ = false := (k2.frozen (p := ⟨w1.heap.size, 2, none⟩) zb).trans g2
                    replace z2 := Nat.lt_of_lt_of_le zb k2.size
                    have bw3 : Below w.heap.size w w3 := below_after k2 bwr
                    clear k2 hR
                    go_upto_region 32 with fail
                    generalize hwx : World.setCell _ _ _ = wa
                    have n0 : wa.cell? ⟨w1.heap.size, 0, none⟩ = some (.slice p3 n c3) := by rw [← hwx]; simp [go_sem, q0, q1, q2]
                    have n1 : wa.cell? ⟨w1.heap.size, 1, none⟩ = some (.int .i64 1) := by rw [← hwx]; simp [go_sem, q0, q1, q2]
                    have n2 : wa.cell? ⟨w1.heap.size, 2, none⟩ = some (.int .i64 (d : Int)) := by rw [← hwx]; simp [go_sem, q0, q1, q2]
                    have bwa : Below w.heap.size w wa := by rw [← hwx]; (repeat (first | (with_reducible exact Below.refl _ _) | (with_reducible refine below_setCell ?_ (by first | (simp; done) | (simp; omega) | omega)) | (with_reducible refine below_alloc _ ?_) | (with_reducible refine below_drewN ?_ _) | (with_reducible assumption) | (with_reducible refine below_after (by assumption) ?_)))
                    have hR : Rd Cod.replica wa (.slice p3 n c3) F := (o2.keep (Nat.le_refl _) (show Keep wr.heap.size w3 wa from by rw [← hwx]; (repeat (first | (with_reducible exact Keep.refl _ _) | (with_reducible refine keep_set ?_ (by first | (simp; done) | (simp; omega) | omega)) | (with_reducible refine keep_alloc _ ?_) | (with_reducible refine keep_drewN ?_ _) | (with_reducible assumption) | (with_reducible refine keep_below (by assumption) ?_))))).rd
                    have zwa : w1.heap.size < wa.heap.size := by rw [← hwx]; simp; omega
                    replace g0 : wa.frozen? ⟨w1.heap.size, 0, none⟩ = false := by rw [← hwx]; simp only [World.frozen?_setCell]; exact g0
                    replace g1 : wa.frozen? ⟨w1.heap.size, 1, none⟩ = false := by rw [← hwx]; simp only [World.frozen?_setCell]; exact g1
                    replace g2 : wa.frozen? ⟨w1.heap.size, 2, none⟩ = false := by rw [← hwx]; simp only [World.frozen?_setCell]; exact g2
                    clear hwx q0 q1 q2 z2 zb bw3 o2
                    have q0 := n0
                    have q1 := n1
                    have q2 := n2
                    have z2 := zwa
                    clear n0 n1 n2 zwa
                    go_wp2_with fail
                    refine (G12.out _ _ _ hR).mono ?_
                    rintro e w4 ⟨ps, cs, rfl, kN⟩
                    replace q0 := cell_step kN q0
                    replace q1 := cell_step kN q1
                    replace q2 := cell_step kN q2
                    have bw4 : Below w.heap.size w w4 := below_after kN bwa
                    replace hR := hR.below kN
                    clear kN
                    go_wp2_with fail
                    refine (G13.out _ _ _ hR).mono ?_
                    rintro e w5 ⟨rfl, kN⟩
                    have bw5 : Below w.heap.size w w5 := below_after kN bw4
                    go_wp2
                    go_ret
                    exact ⟨rfl, bw5⟩
          · have e1 : 2 * ((n : Int) - (d : Int)) ≤ (n : Int) := by omega
            clear F6 F7 F8 F9 F10 F11 F12 F13
            go_wp2
            go_ret
            exact ⟨rfl, bwr⟩


end Go.Proofs.Ytfaefjdlfjhniaa
