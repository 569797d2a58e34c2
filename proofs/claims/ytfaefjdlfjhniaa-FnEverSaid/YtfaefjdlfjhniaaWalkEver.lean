/- laws.FnEver: the walk. Printed by mkrun2.py. -/
import Derived.Test.YtfaefjdlfjhniaaRunF
import Derived.Test.YtfaefjdlfjhniaaHeld
namespace Go.Proofs.Ytfaefjdlfjhniaa
open Go.RowKit

set_option maxRecDepth 100000 in
set_option maxHeartbeats 6400000 in
/-- laws.FnEver answers true. -/
theorem walk {w : World} (v : Value) (cd : List UInt8) (h : Rd Cod.u8 w v cd) : Calls Try.prog 4 #[v] w fun e w' => e = .returned (.bool true) ∧ Below w.heap.size w w' := by
  by_cases hbig : 65536 < cd.length
  · obtain ⟨p, c, rfl, hc1, hc2, -⟩ := h.form
    have Hb := Lib.hid (fun W => vBig_any p cd.length c W (by unfold maxLen at hc2; omega))
    rw [decide_eq_true hbig] at Hb
    clear h hc1 hc2 hbig
    generalize cd.length = n at *
    go_enter Try.func4, Try.ntmps4
    go_wp2_with fail
    refine (Hb.out _).mono ?_
    rintro e w1 ⟨rfl, rfl⟩
    go_wp2
    go_ret
    exact ⟨rfl, by (repeat (first | (with_reducible exact Below.refl _ _) | (with_reducible refine below_setCell ?_ (by first | (simp; done) | (simp; omega) | omega)) | (with_reducible refine below_alloc _ ?_) | (with_reducible refine below_drewN ?_ _) | (with_reducible assumption) | (with_reducible refine below_after (by assumption) ?_)))⟩

  have Hv0 := Lib.hid (fun (W : World) (b : Below w.heap.size w W) => vAt_val v cd (by omega) 0 (by omega) W (h.below b))
  have hx0 := vAtN_lt cd 0
  obtain ⟨n, hn⟩ : ∃ n, 3 + 2 * (vAtN cd 0 % 2) = n := ⟨_, rfl⟩
  have hn35 : n = 3 ∨ n = 5 := by omega
  have hnI : 3 + 2 * ((vAtN cd 0 : Int) % 2) = (n : Int) := by omega
  have F1 := Lib.hid (newRun_any n hn35)
  have R0 := Run.start hn35
  obtain ⟨p, c, rfl, hc1, hc2, -⟩ := h.form
  have Hact : Hid (∀ i : Nat, i ≤ 60000 → ∃ K : Nat, 1 ≤ K ∧ K ≤ 6 ∧ ∃ S : Int, I64 S ∧ ∃ y : RecD, (y.Reads = [] ∧ y.Writes = []) ∧ (I64 y.Kind ∧ I64 y.Txn ∧ I64 y.Time ∧ I64 y.Lead) ∧
    ∀ W, Below w.heap.size w W → Calls Try.prog 19 #[.slice p cd.length c, .int .i64 (i : Int), .int .i64 (n : Int)] W fun e w' => e = .returned (actV K S y) ∧ Below W.heap.size W w') := Lib.hid (fun i hi => by
      obtain ⟨K, h1, h2, S, h3, y, h4, h5, h6⟩ := vAct_all cd (by omega) i n (by omega) hi
      exact ⟨K, h1, h2, S, h3, y, h4, h5, fun W b => h6 p c W (h.below b)⟩)
  have Hb := Lib.hid (fun W => vBig_any p cd.length c W (by unfold maxLen at hc2; omega))
  rw [decide_eq_false hbig] at Hb
  have hx0i : (vAtN cd 0 : Int) < 256 := by omega
  have HX0 : Hid (∀ W, Below w.heap.size w W → Calls Try.prog 7 #[.slice p cd.length c, .int .i64 0] W fun e w' => e = .returned (.int .i64 (vAtN cd 0 : Int)) ∧ W = w') := Lib.hid (fun W b => Hv0.out W b)
  clear h hc1 hc2 hbig hx0 Hv0 hn
  generalize vAtN cd 0 = x0 at *
  generalize cd.length = N at *
  have hn3I : 3 ≤ (n : Int) := by omega
  have hn5I : (n : Int) ≤ 5 := by omega
  obtain ⟨G0, hG0⟩ : ∃ G0 : GroupD, G0 = ⟨List.replicate n ⟨true, [], 0⟩, 0, -1⟩ := ⟨_, rfl⟩
  rw [← hG0] at R0
  have HG0 := Lib.hid hG0
  have Hn35 := Lib.hid hn35
  have HR0 := Lib.hid R0
  clear hG0 hn35 R0
  go_enter Try.func4, Try.ntmps4
  go_wp2_with fail
  refine (Hb.out _).mono ?_
  rintro e w1 ⟨rfl, rfl⟩
  go_wp2_with fail
  refine (HX0.out _ (Below.refl _ _)).mono ?_
  rintro e w1 ⟨rfl, rfl⟩
  go_wp2_with fail
  refine (F1.out _).mono ?_
  rintro e w1 ⟨p1, c1, rfl, o1, k1⟩
  clear hnI
  have b1 : Below w.heap.size w w1 := below_after k1 (by (repeat (first | (with_reducible exact Below.refl _ _) | (with_reducible refine below_setCell ?_ (by first | (simp; done) | (simp; omega) | omega)) | (with_reducible refine below_alloc _ ?_) | (with_reducible refine below_drewN ?_ _) | (with_reducible assumption) | (with_reducible refine below_after (by assumption) ?_))))
  have z1 : w.heap.size ≤ w1.heap.size := b1.size
  go_upto_region 5 with fail
  generalize hw2 : World.alloc _ _ = w2
  have q0 : w2.cell? ⟨w1.heap.size, 0, none⟩ = some (.slice p1 G0.Reps.length c1) := by rw [← hw2, HG0.out]; simp [go_sem]
  have q1 : w2.cell? ⟨w1.heap.size, 1, none⟩ = some (.int .i64 G0.Term) := by rw [← hw2, HG0.out]; simp [go_sem]
  have q2 : w2.cell? ⟨w1.heap.size, 2, none⟩ = some (.int .i64 G0.Lead) := by rw [← hw2, HG0.out]; simp [go_sem]
  have g0 : w2.frozen? ⟨w1.heap.size, 0, none⟩ = false := by rw [← hw2]; simp [go_sem]
  have g1 : w2.frozen? ⟨w1.heap.size, 1, none⟩ = false := by rw [← hw2]; simp [go_sem]
  have g2 : w2.frozen? ⟨w1.heap.size, 2, none⟩ = false := by rw [← hw2]; simp [go_sem]
  have z2 : w1.heap.size < w2.heap.size := by rw [← hw2]; simp
  have m2 : Below w1.heap.size w1 w2 := by rw [← hw2]; exact below_new _ _
  have bw2 : Below w.heap.size w w2 := below_after m2 b1
  have hR : Rd Cod.replica w2 (.slice p1 G0.Reps.length c1) G0.Reps := by rw [HG0.out]; exact o1.rd.below m2
  clear hw2 o1 k1 m2
  go_upto_region 6 with fail
  generalize hwE : World.alloc _ _ = wE
  have mE : Below w2.heap.size w2 wE := by rw [← hwE]; exact below_new _ _
  replace q0 := cell_step mE q0
  replace q1 := cell_step mE q1
  replace q2 := cell_step mE q2
  replace g0 : wE.frozen? ⟨w1.heap.size, 0, none⟩ = false := (mE.frozen (p := ⟨w1.heap.size, 0, none⟩) z2).trans g0
  replace g1 : wE.frozen? ⟨w1.heap.size, 1, none⟩ = false := (mE.frozen (p := ⟨w1.heap.size, 1, none⟩) z2).trans g1
  replace g2 : wE.frozen? ⟨w1.heap.size, 2, none⟩ = false := (mE.frozen (p := ⟨w1.heap.size, 2, none⟩) z2).trans g2
  replace z2 := Nat.lt_of_lt_of_le z2 mE.size
  have bwE : Below w.heap.size w wE := below_after mE bw2
  replace hR := hR.below mE
  clear hwE mE bw2
  go_wp2
  go_loopw [6, 7] (fun ev i wr => ∃ (k : Nat), i = .int .i64 (k : Int) ∧ k ≤ 60 ∧ ∃ (pe : Option Addr) (ce : Nat) (E : List EntryD), ev = .slice pe E.length ce ∧ (Own Cod.entry wr (w1.heap.size + 1) (.slice pe E.length ce) E ∧ costEntryS E ≤ 60) ∧ (∃ (g : GroupD) (C : List EntryD) (p2 : Option Addr) (c2 : Nat), Run g C ∧ E <+: C ∧ (wr.cell? ⟨w1.heap.size, 0, none⟩ = some (.slice p2 g.Reps.length c2) ∧ wr.cell? ⟨w1.heap.size, 1, none⟩ = some (.int .i64 g.Term) ∧ wr.cell? ⟨w1.heap.size, 2, none⟩ = some (.int .i64 g.Lead)) ∧ Rd Cod.replica wr (.slice p2 g.Reps.length c2) g.Reps) ∧ (wr.frozen? ⟨w1.heap.size, 0, none⟩ = false ∧ wr.frozen? ⟨w1.heap.size, 1, none⟩ = false ∧ wr.frozen? ⟨w1.heap.size, 2, none⟩ = false) ∧ w1.heap.size < wr.heap.size ∧ Below w.heap.size w wr) (fun ev i _ => 60 - (intOf i).toNat)
  case atStart => exact ⟨0, rfl, Nat.zero_le _, _, _, [], rfl, ⟨own_empty _ _ _ _ _ (by decide) (by simp), by simp [costEntryS, sumC]⟩, ⟨G0, [], p1, c1, HR0.out, List.prefix_refl _, ⟨q0, q1, q2⟩, hR⟩, ⟨g0, g1, g2⟩, z2, bwE⟩
  case round =>
    clear q0 q1 q2 g0 g1 g2 z2 hR bwE HG0 HR0 G0 Hb HX0 F1
    obtain ⟨k, rfl, hk, pe, ce, E, rfl, ⟨hE, hEc⟩, ⟨g, C, p2, c2, hRun, hEC, ⟨q0, q1, q2⟩, hR⟩, ⟨g0, g1, g2⟩, z2, bwr⟩ := hrel
    by_cases hlt : k < 60
    · have hlt2 : (k : Int) < 60 := by omega
      obtain ⟨K, hK1, hK6, S, hS, y, hy, hyi, hact⟩ := Hact.out (3 * k + 2) (by omega)
      have hcast : ((3 * k + 2 : Nat) : Int) = 3 * (k : Int) + 2 := by omega
      rw [hcast] at hact
      have hk60 : (k : Int) ≤ 60 := by omega
      have HA := Lib.hid hact
      obtain ⟨g', C', hCC, hRun', f1, f2, f3, f4, f5, f6⟩ := play_facts hRun K ⟨hK1, hK6⟩ S hS y hy hyi
      have P1 := Lib.hid f1
      have P2 := Lib.hid f2
      have P3 := Lib.hid f3
      have P4 := Lib.hid f4
      have P5 := Lib.hid f5
      have P6 := Lib.hid f6
      have HRun' := Lib.hid hRun'
      have HCC := Lib.hid hCC
      clear hact hcast hS hy hyi f1 f2 f3 f4 f5 f6 hRun' hCC hRun
      replace hEC := hEC.trans HCC.out
      have HE2 := Lib.hid hEC
      have HEc := Lib.hid hEc
      clear hEC hEc HCC
      go_wp2_with fail
      refine (HA.out _ bwr).mono ?_
      rintro e w3 ⟨rfl, kN⟩
      replace q0 := cell_step kN q0
      replace q1 := cell_step kN q1
      replace q2 := cell_step kN q2
      replace g0 : w3.frozen? ⟨w1.heap.size, 0, none⟩ = false := (kN.frozen (p := ⟨w1.heap.size, 0, none⟩) z2).trans g0
      replace g1 : w3.frozen? ⟨w1.heap.size, 1, none⟩ = false := (kN.frozen (p := ⟨w1.heap.size, 1, none⟩) z2).trans g1
      replace g2 : w3.frozen? ⟨w1.heap.size, 2, none⟩ = false := (kN.frozen (p := ⟨w1.heap.size, 2, none⟩) z2).trans g2
      replace z2 := Nat.lt_of_lt_of_le z2 kN.size
      have bw3 : Below w.heap.size w w3 := below_after kN bwr
      replace hR := hR.below kN
      replace hE := hE.below kN
      clear kN bwr HA
      unfold actV
      go_upto_region 10 with fail
      generalize hwx : World.alloc _ _ = w4
      have d0 : w4.cell? ⟨w3.heap.size, 0, none⟩ = some (.int .i64 (K : Int)) := by rw [← hwx]; simp [go_sem]
      have d1 : w4.cell? ⟨w3.heap.size, 1, none⟩ = some (.int .i64 S) := by rw [← hwx]; simp [go_sem]
      have d2 : w4.cell? ⟨w3.heap.size, 2, none⟩ = some (.int .i64 y.Kind) := by rw [← hwx]; simp [go_sem]
      have d3 : w4.cell? ⟨w3.heap.size, 3, none⟩ = some (.int .i64 y.Txn) := by rw [← hwx]; simp [go_sem]
      have d4 : w4.cell? ⟨w3.heap.size, 4, none⟩ = some (.int .i64 y.Time) := by rw [← hwx]; simp [go_sem]
      have d5 : w4.cell? ⟨w3.heap.size, 5, none⟩ = some (.int .i64 y.Lead) := by rw [← hwx]; simp [go_sem]
      have d6 : w4.cell? ⟨w3.heap.size, 6, none⟩ = some (.slice none 0 0) := by rw [← hwx]; simp [go_sem]
      have d7 : w4.cell? ⟨w3.heap.size, 7, none⟩ = some (.slice none 0 0) := by rw [← hwx]; simp [go_sem]
      have d8 : w4.cell? ⟨w3.heap.size, 8, none⟩ = some (.bool y.Yes) := by rw [← hwx]; simp [go_sem]
      have zd : w3.heap.size < w4.heap.size := by rw [← hwx]; simp
      have mN : Below w3.heap.size w3 w4 := by rw [← hwx]; exact below_new _ _
      replace q0 := cell_step mN q0
      replace q1 := cell_step mN q1
      replace q2 := cell_step mN q2
      replace g0 : w4.frozen? ⟨w1.heap.size, 0, none⟩ = false := (mN.frozen (p := ⟨w1.heap.size, 0, none⟩) z2).trans g0
      replace g1 : w4.frozen? ⟨w1.heap.size, 1, none⟩ = false := (mN.frozen (p := ⟨w1.heap.size, 1, none⟩) z2).trans g1
      replace g2 : w4.frozen? ⟨w1.heap.size, 2, none⟩ = false := (mN.frozen (p := ⟨w1.heap.size, 2, none⟩) z2).trans g2
      replace z2 := Nat.lt_of_lt_of_le z2 mN.size
      have bw4 : Below w.heap.size w w4 := below_after mN bw3
      replace hR := hR.below mN
      replace hE := hE.below mN
      clear hwx mN bw3
      go_wp2_with fail
      generalize hwb : World.alloc _ _ = wb
      have mb : Below w4.heap.size w4 wb := by rw [← hwb]; exact below_new _ _
      have hB : w4.heap.size < wb.heap.size := by rw [← hwb]; simp
      have hA : ActAt wb w4.heap.size K S y := by rw [← hwb]; unfold ActAt; simp [go_sem]
      replace q0 := cell_step mb q0
      replace q1 := cell_step mb q1
      replace q2 := cell_step mb q2
      replace d0 := cell_step mb d0
      replace d1 := cell_step mb d1
      replace d2 := cell_step mb d2
      replace d3 := cell_step mb d3
      replace d4 := cell_step mb d4
      replace d5 := cell_step mb d5
      replace d6 := cell_step mb d6
      replace d7 := cell_step mb d7
      replace d8 := cell_step mb d8
      replace g0 : wb.frozen? ⟨w1.heap.size, 0, none⟩ = false := (mb.frozen (p := ⟨w1.heap.size, 0, none⟩) z2).trans g0
      replace g1 : wb.frozen? ⟨w1.heap.size, 1, none⟩ = false := (mb.frozen (p := ⟨w1.heap.size, 1, none⟩) z2).trans g1
      replace g2 : wb.frozen? ⟨w1.heap.size, 2, none⟩ = false := (mb.frozen (p := ⟨w1.heap.size, 2, none⟩) z2).trans g2
      replace z2 := Nat.lt_of_lt_of_le z2 mb.size
      have zb0 : w1.heap.size + 1 ≤ wb.heap.size := z2
      have bb : Below w.heap.size w wb := below_after mb bw4
      replace hR := hR.below mb
      replace zd := Nat.lt_of_lt_of_le zd mb.size
      replace hE := hE.below mb
      clear hwb mb bw4
      refine (P1.out _ _ _ _ _ hR hB (by decide) hA).mono ?_
      rintro e w5 ⟨p5, c5, rfl, oN, kN⟩
      replace q0 := cell_step kN q0
      replace q1 := cell_step kN q1
      replace q2 := cell_step kN q2
      replace d0 := cell_step kN d0
      replace d1 := cell_step kN d1
      replace d2 := cell_step kN d2
      replace d3 := cell_step kN d3
      replace d4 := cell_step kN d4
      replace d5 := cell_step kN d5
      replace d6 := cell_step kN d6
      replace d7 := cell_step kN d7
      replace d8 := cell_step kN d8
      replace g0 : w5.frozen? ⟨w1.heap.size, 0, none⟩ = false := (kN.frozen (p := ⟨w1.heap.size, 0, none⟩) z2).trans g0
      replace g1 : w5.frozen? ⟨w1.heap.size, 1, none⟩ = false := (kN.frozen (p := ⟨w1.heap.size, 1, none⟩) z2).trans g1
      replace g2 : w5.frozen? ⟨w1.heap.size, 2, none⟩ = false := (kN.frozen (p := ⟨w1.heap.size, 2, none⟩) z2).trans g2
      replace z2 := Nat.lt_of_lt_of_le z2 kN.size
      replace zd := Nat.lt_of_lt_of_le zd kN.size
      have bw5 : Below w.heap.size w w5 := below_after kN bb
      replace hR := hR.below kN
      replace hE := hE.below kN
      have ha := oN.mono zb0
      clear oN kN bb hB hA zb0
      go_upto_region 11 with fail
      generalize hwx : World.alloc _ _ = w6
      have a0 : w6.cell? ⟨w5.heap.size, 0, none⟩ = some (.slice p5 g'.Reps.length c5) := by rw [← hwx]; simp [go_sem]
      have a1 : w6.cell? ⟨w5.heap.size, 1, none⟩ = some (.int .i64 g'.Term) := by rw [← hwx]; simp [go_sem]
      have a2 : w6.cell? ⟨w5.heap.size, 2, none⟩ = some (.int .i64 g'.Lead) := by rw [← hwx]; simp [go_sem]
      have za : w5.heap.size < w6.heap.size := by rw [← hwx]; simp
      have mN : Below w5.heap.size w5 w6 := by rw [← hwx]; exact below_new _ _
      replace q0 := cell_step mN q0
      replace q1 := cell_step mN q1
      replace q2 := cell_step mN q2
      replace d0 := cell_step mN d0
      replace d1 := cell_step mN d1
      replace d2 := cell_step mN d2
      replace d3 := cell_step mN d3
      replace d4 := cell_step mN d4
      replace d5 := cell_step mN d5
      replace d6 := cell_step mN d6
      replace d7 := cell_step mN d7
      replace d8 := cell_step mN d8
      replace g0 : w6.frozen? ⟨w1.heap.size, 0, none⟩ = false := (mN.frozen (p := ⟨w1.heap.size, 0, none⟩) z2).trans g0
      replace g1 : w6.frozen? ⟨w1.heap.size, 1, none⟩ = false := (mN.frozen (p := ⟨w1.heap.size, 1, none⟩) z2).trans g1
      replace g2 : w6.frozen? ⟨w1.heap.size, 2, none⟩ = false := (mN.frozen (p := ⟨w1.heap.size, 2, none⟩) z2).trans g2
      have zn : w1.heap.size < w5.heap.size := z2
      replace z2 := Nat.lt_of_lt_of_le z2 mN.size
      replace zd := Nat.lt_of_lt_of_le zd mN.size
      have bw6 : Below w.heap.size w w6 := below_after mN bw5
      replace hR := hR.below mN
      replace ha := ha.below mN
      replace hE := hE.below mN
      have nea : w1.heap.size ≠ w5.heap.size := Nat.ne_of_lt zn
      clear hwx mN bw5 zn
      go_wp2_with fail
      generalize hwb : World.alloc _ _ = wb
      have mb : Below w6.heap.size w6 wb := by rw [← hwb]; exact below_new _ _
      have hB : w6.heap.size < wb.heap.size := by rw [← hwb]; simp
      have hA : ActAt wb w6.heap.size K S y := by rw [← hwb]; unfold ActAt; simp [go_sem]
      replace q0 := cell_step mb q0
      replace q1 := cell_step mb q1
      replace q2 := cell_step mb q2
      replace d0 := cell_step mb d0
      replace d1 := cell_step mb d1
      replace d2 := cell_step mb d2
      replace d3 := cell_step mb d3
      replace d4 := cell_step mb d4
      replace d5 := cell_step mb d5
      replace d6 := cell_step mb d6
      replace d7 := cell_step mb d7
      replace d8 := cell_step mb d8
      replace a0 := cell_step mb a0
      replace a1 := cell_step mb a1
      replace a2 := cell_step mb a2
      replace g0 : wb.frozen? ⟨w1.heap.size, 0, none⟩ = false := (mb.frozen (p := ⟨w1.heap.size, 0, none⟩) z2).trans g0
      replace g1 : wb.frozen? ⟨w1.heap.size, 1, none⟩ = false := (mb.frozen (p := ⟨w1.heap.size, 1, none⟩) z2).trans g1
      replace g2 : wb.frozen? ⟨w1.heap.size, 2, none⟩ = false := (mb.frozen (p := ⟨w1.heap.size, 2, none⟩) z2).trans g2
      replace z2 := Nat.lt_of_lt_of_le z2 mb.size
      have zb0 : w1.heap.size + 1 ≤ wb.heap.size := z2
      have bb : Below w.heap.size w wb := below_after mb bw6
      replace hR := hR.below mb
      replace zd := Nat.lt_of_lt_of_le zd mb.size
      replace za := Nat.lt_of_lt_of_le za mb.size
      replace hE := hE.below mb
      replace ha := ha.below mb
      clear hwb mb bw6
      refine (P2.out _ _ _ _ _ hR hB (by decide) hA).mono ?_
      rintro e w7 ⟨p7, c7, rfl, oN, kN⟩
      replace q0 := cell_step kN q0
      replace q1 := cell_step kN q1
      replace q2 := cell_step kN q2
      replace d0 := cell_step kN d0
      replace d1 := cell_step kN d1
      replace d2 := cell_step kN d2
      replace d3 := cell_step kN d3
      replace d4 := cell_step kN d4
      replace d5 := cell_step kN d5
      replace d6 := cell_step kN d6
      replace d7 := cell_step kN d7
      replace d8 := cell_step kN d8
      replace a0 := cell_step kN a0
      replace a1 := cell_step kN a1
      replace a2 := cell_step kN a2
      replace g0 : w7.frozen? ⟨w1.heap.size, 0, none⟩ = false := (kN.frozen (p := ⟨w1.heap.size, 0, none⟩) z2).trans g0
      replace g1 : w7.frozen? ⟨w1.heap.size, 1, none⟩ = false := (kN.frozen (p := ⟨w1.heap.size, 1, none⟩) z2).trans g1
      replace g2 : w7.frozen? ⟨w1.heap.size, 2, none⟩ = false := (kN.frozen (p := ⟨w1.heap.size, 2, none⟩) z2).trans g2
      replace z2 := Nat.lt_of_lt_of_le z2 kN.size
      replace zd := Nat.lt_of_lt_of_le zd kN.size
      replace za := Nat.lt_of_lt_of_le za kN.size
      have bw7 : Below w.heap.size w w7 := below_after kN bb
      replace hR := hR.below kN
      replace hE := hE.below kN
      replace ha := ha.below kN
      have hb := oN.mono zb0
      clear oN kN bb hB hA zb0
      go_upto_region 12 with fail
      generalize hwx : World.alloc _ _ = w8
      have b0 : w8.cell? ⟨w7.heap.size, 0, none⟩ = some (.slice p7 g'.Reps.length c7) := by rw [← hwx]; simp [go_sem]
      have b1 : w8.cell? ⟨w7.heap.size, 1, none⟩ = some (.int .i64 g'.Term) := by rw [← hwx]; simp [go_sem]
      have b2 : w8.cell? ⟨w7.heap.size, 2, none⟩ = some (.int .i64 g'.Lead) := by rw [← hwx]; simp [go_sem]
      have zb : w7.heap.size < w8.heap.size := by rw [← hwx]; simp
      have mN : Below w7.heap.size w7 w8 := by rw [← hwx]; exact below_new _ _
      replace q0 := cell_step mN q0
      replace q1 := cell_step mN q1
      replace q2 := cell_step mN q2
      replace d0 := cell_step mN d0
      replace d1 := cell_step mN d1
      replace d2 := cell_step mN d2
      replace d3 := cell_step mN d3
      replace d4 := cell_step mN d4
      replace d5 := cell_step mN d5
      replace d6 := cell_step mN d6
      replace d7 := cell_step mN d7
      replace d8 := cell_step mN d8
      replace a0 := cell_step mN a0
      replace a1 := cell_step mN a1
      replace a2 := cell_step mN a2
      replace g0 : w8.frozen? ⟨w1.heap.size, 0, none⟩ = false := (mN.frozen (p := ⟨w1.heap.size, 0, none⟩) z2).trans g0
      replace g1 : w8.frozen? ⟨w1.heap.size, 1, none⟩ = false := (mN.frozen (p := ⟨w1.heap.size, 1, none⟩) z2).trans g1
      replace g2 : w8.frozen? ⟨w1.heap.size, 2, none⟩ = false := (mN.frozen (p := ⟨w1.heap.size, 2, none⟩) z2).trans g2
      have zn : w1.heap.size < w7.heap.size := z2
      replace z2 := Nat.lt_of_lt_of_le z2 mN.size
      replace zd := Nat.lt_of_lt_of_le zd mN.size
      replace za := Nat.lt_of_lt_of_le za mN.size
      have bw8 : Below w.heap.size w w8 := below_after mN bw7
      replace hR := hR.below mN
      replace hb := hb.below mN
      replace hE := hE.below mN
      replace ha := ha.below mN
      have neb : w1.heap.size ≠ w7.heap.size := Nat.ne_of_lt zn
      clear hwx mN bw7 zn
      go_wp2_with fail
      refine (P3.out _ _ _ _ _ ha.rd hb.rd).mono ?_
      rintro e w9 ⟨rfl, kN⟩
      replace q0 := cell_step kN q0
      replace q1 := cell_step kN q1
      replace q2 := cell_step kN q2
      replace a0 := cell_step kN a0
      replace a1 := cell_step kN a1
      replace a2 := cell_step kN a2
      replace g0 : w9.frozen? ⟨w1.heap.size, 0, none⟩ = false := (kN.frozen (p := ⟨w1.heap.size, 0, none⟩) z2).trans g0
      replace g1 : w9.frozen? ⟨w1.heap.size, 1, none⟩ = false := (kN.frozen (p := ⟨w1.heap.size, 1, none⟩) z2).trans g1
      replace g2 : w9.frozen? ⟨w1.heap.size, 2, none⟩ = false := (kN.frozen (p := ⟨w1.heap.size, 2, none⟩) z2).trans g2
      replace z2 := Nat.lt_of_lt_of_le z2 kN.size
      replace za := Nat.lt_of_lt_of_le za kN.size
      have bw9 : Below w.heap.size w w9 := below_after kN bw8
      replace hR := hR.below kN
      replace ha := ha.below kN
      replace hE := hE.below kN
      clear kN bw8
      go_upto_region 15 with fail
      generalize hwx : World.setCell _ _ _ = w10
      have n0 : w10.cell? ⟨w1.heap.size, 0, none⟩ = some (.slice p5 g'.Reps.length c5) := by rw [← hwx]; simp [go_sem, q0, q1, q2]
      have n1 : w10.cell? ⟨w1.heap.size, 1, none⟩ = some (.int .i64 g'.Term) := by rw [← hwx]; simp [go_sem, q0, q1, q2]
      have n2 : w10.cell? ⟨w1.heap.size, 2, none⟩ = some (.int .i64 g'.Lead) := by rw [← hwx]; simp [go_sem, q0, q1, q2]
      have bw10 : Below w.heap.size w w10 := by rw [← hwx]; (repeat (first | (with_reducible exact Below.refl _ _) | (with_reducible refine below_setCell ?_ (by first | (simp; done) | (simp; omega) | omega)) | (with_reducible refine below_alloc _ ?_) | (with_reducible refine below_drewN ?_ _) | (with_reducible assumption) | (with_reducible refine below_after (by assumption) ?_)))
      have hN : Own Cod.replica w10 (w1.heap.size + 1) (.slice p5 g'.Reps.length c5) g'.Reps := ha.keep (Nat.le_refl _) (show Keep (w1.heap.size + 1) w9 w10 from by rw [← hwx]; (repeat (first | (with_reducible exact Keep.refl _ _) | (with_reducible refine keep_set ?_ (by first | (simp; done) | (simp; omega) | omega)) | (with_reducible refine keep_alloc _ ?_) | (with_reducible refine keep_drewN ?_ _) | (with_reducible assumption) | (with_reducible refine keep_below (by assumption) ?_))))
      have zN : w1.heap.size < w10.heap.size := by rw [← hwx]; simp; omega
      replace g0 : w10.frozen? ⟨w1.heap.size, 0, none⟩ = false := by rw [← hwx]; simp only [World.frozen?_setCell]; exact g0
      replace g1 : w10.frozen? ⟨w1.heap.size, 1, none⟩ = false := by rw [← hwx]; simp only [World.frozen?_setCell]; exact g1
      replace g2 : w10.frozen? ⟨w1.heap.size, 2, none⟩ = false := by rw [← hwx]; simp only [World.frozen?_setCell]; exact g2
      replace hE := hE.keep (Nat.le_refl _) (show Keep (w1.heap.size + 1) w9 w10 from by rw [← hwx]; (repeat (first | (with_reducible exact Keep.refl _ _) | (with_reducible refine keep_set ?_ (by first | (simp; done) | (simp; omega) | omega)) | (with_reducible refine keep_alloc _ ?_) | (with_reducible refine keep_drewN ?_ _) | (with_reducible assumption) | (with_reducible refine keep_below (by assumption) ?_))))
      clear hwx q0 q1 q2 z2
      clear P1 P2 P3 P4 P5 ha hR a0 a1 a2 d0 d1 d2 d3 d4 d5 d6 d7 d8 zd za b0 b1 b2 zb
      by_cases hneg : g'.Lead < 0
      · go_wp2
        go_roundw
        case rel => exact ⟨k + 1, by go_num, by omega, pe, ce, E, rfl, ⟨hE, HEc.out⟩, ⟨g', C', p5, c5, HRun'.out, HE2.out, ⟨n0, n1, n2⟩, hN.rd⟩, ⟨g0, g1, g2⟩, zN, bw10⟩
        case measure => simp [intOf]; omega
      · obtain ⟨m, hm, e1, e2, e3, e4, e5, e6⟩ := ever_facts HRun'.out HE2.out HEc.out (by omega)
        have E2 := Lib.hid e2
        have E3 := Lib.hid e3
        have E4 := Lib.hid e4
        have E5 := Lib.hid e5
        have E6 := Lib.hid e6
        have P7 := Lib.hid (P6.out (by omega))
        have hge : 0 ≤ g'.Lead := by omega
        clear e2 e3 e4 e5 e6 P6
        generalize sureL g'.Reps g'.Lead = SL at *
        rw [e1] at n2 P7
        have E1 := Lib.hid e1
        have hmI : (m : Int) < (g'.Reps.length : Int) := by omega
        clear e1 hneg hge
        have z10 : w1.heap.size + 1 ≤ w10.heap.size := zN
        go_wp2_with fail
        refine (P7.out _ _ _ hN.rd).mono ?_
        rintro e w11 ⟨ps, cs, rfl, oS, kN⟩
        replace n0 := cell_step kN n0
        replace n1 := cell_step kN n1
        replace n2 := cell_step kN n2
        replace g0 : w11.frozen? ⟨w1.heap.size, 0, none⟩ = false := (kN.frozen (p := ⟨w1.heap.size, 0, none⟩) zN).trans g0
        replace g1 : w11.frozen? ⟨w1.heap.size, 1, none⟩ = false := (kN.frozen (p := ⟨w1.heap.size, 1, none⟩) zN).trans g1
        replace g2 : w11.frozen? ⟨w1.heap.size, 2, none⟩ = false := (kN.frozen (p := ⟨w1.heap.size, 2, none⟩) zN).trans g2
        replace zN := Nat.lt_of_lt_of_le zN kN.size
        have bw11 : Below w.heap.size w w11 := below_after kN bw10
        replace hN := hN.below kN
        replace hE := hE.below kN
        have hS := oS.mono z10
        clear z10
        clear oS kN bw10 P7
        obtain ⟨pq, cq, eq1, -, -, rq⟩ := hN.rd.form
        injection eq1 with eq1 eq2 eq3
        subst eq1 eq3
        obtain ⟨gB, oB, rfl, hgB, hcq⟩ := rq (Nat.lt_of_le_of_lt (Nat.zero_le _) hm)
        have hcB := hcq m hm
        clear rq hcq eq2
        obtain ⟨d0, ⟨u1, d1, ru⟩, d2, _⟩ := at_replica hcB
        rw [show oB + m * Cod.replica.size = oB + m * 3 from rfl] at d0 d1 d2
        clear d0 d2 hcB
        obtain ⟨bq, hbq⟩ : ∃ b, pB (E <+: SL) = b := ⟨_, rfl⟩
        rw [hbq] at E5 E6
        clear hbq
        go_wp2_with fail
        refine (E4.out _ _ _ ru hE.rd).mono ?_
        rintro e w12 ⟨rfl, kN⟩
        replace n0 := cell_step kN n0
        replace n1 := cell_step kN n1
        replace n2 := cell_step kN n2
        replace g0 : w12.frozen? ⟨w1.heap.size, 0, none⟩ = false := (kN.frozen (p := ⟨w1.heap.size, 0, none⟩) zN).trans g0
        replace g1 : w12.frozen? ⟨w1.heap.size, 1, none⟩ = false := (kN.frozen (p := ⟨w1.heap.size, 1, none⟩) zN).trans g1
        replace g2 : w12.frozen? ⟨w1.heap.size, 2, none⟩ = false := (kN.frozen (p := ⟨w1.heap.size, 2, none⟩) zN).trans g2
        replace zN := Nat.lt_of_lt_of_le zN kN.size
        have bw12 : Below w.heap.size w w12 := below_after kN bw11
        replace hN := hN.below kN
        replace hE := hE.below kN
        replace hS := hS.below kN
        clear kN bw11 E4 d1 ru
        go_wp2_with fail
        refine (E5.out _ _ _ hS.rd hE.rd).mono ?_
        rintro e w13 ⟨rfl, kN⟩
        replace n0 := cell_step kN n0
        replace n1 := cell_step kN n1
        replace n2 := cell_step kN n2
        replace g0 : w13.frozen? ⟨w1.heap.size, 0, none⟩ = false := (kN.frozen (p := ⟨w1.heap.size, 0, none⟩) zN).trans g0
        replace g1 : w13.frozen? ⟨w1.heap.size, 1, none⟩ = false := (kN.frozen (p := ⟨w1.heap.size, 1, none⟩) zN).trans g1
        replace g2 : w13.frozen? ⟨w1.heap.size, 2, none⟩ = false := (kN.frozen (p := ⟨w1.heap.size, 2, none⟩) zN).trans g2
        replace zN := Nat.lt_of_lt_of_le zN kN.size
        have bw13 : Below w.heap.size w w13 := below_after kN bw12
        replace hN := hN.below kN
        replace hE := hE.below kN
        replace hS := hS.below kN
        clear kN bw12 E5
        cases bq
        · have E8 := Lib.hid (E6.out rfl)
          clear E6
          go_wp2_with fail
          refine (E8.out _ _ _ hE.rd hS.rd).mono ?_
          rintro e w14 ⟨rfl, kN⟩
          replace n0 := cell_step kN n0
          replace n1 := cell_step kN n1
          replace n2 := cell_step kN n2
          replace g0 : w14.frozen? ⟨w1.heap.size, 0, none⟩ = false := (kN.frozen (p := ⟨w1.heap.size, 0, none⟩) zN).trans g0
          replace g1 : w14.frozen? ⟨w1.heap.size, 1, none⟩ = false := (kN.frozen (p := ⟨w1.heap.size, 1, none⟩) zN).trans g1
          replace g2 : w14.frozen? ⟨w1.heap.size, 2, none⟩ = false := (kN.frozen (p := ⟨w1.heap.size, 2, none⟩) zN).trans g2
          replace zN := Nat.lt_of_lt_of_le zN kN.size
          have bw14 : Below w.heap.size w w14 := below_after kN bw13
          replace hN := hN.below kN
          replace hE := hE.below kN
          replace hS := hS.below kN
          clear kN bw13 E8
          by_cases hlen : E.length < SL.length
          · have hlenI : (E.length : Int) < (SL.length : Int) := by omega
            go_wp2
            go_roundw
            case rel => exact ⟨k + 1, by go_num, by omega, ps, cs, SL, rfl, ⟨hS, E3.out⟩, ⟨g', C', _, _, HRun'.out, E2.out, ⟨n0, n1, by rw [E1.out]; exact n2⟩, hN.rd⟩, ⟨g0, g1, g2⟩, zN, bw14⟩
            case measure => simp [intOf]; omega
          · have hlenI : (SL.length : Int) ≤ (E.length : Int) := by omega
            go_wp2
            go_roundw
            case rel => exact ⟨k + 1, by go_num, by omega, pe, ce, E, rfl, ⟨hE, HEc.out⟩, ⟨g', C', _, _, HRun'.out, HE2.out, ⟨n0, n1, by rw [E1.out]; exact n2⟩, hN.rd⟩, ⟨g0, g1, g2⟩, zN, bw14⟩
            case measure => simp [intOf]; omega
        · clear E6
          by_cases hlen : E.length < SL.length
          · have hlenI : (E.length : Int) < (SL.length : Int) := by omega
            go_wp2
            go_roundw
            case rel => exact ⟨k + 1, by go_num, by omega, ps, cs, SL, rfl, ⟨hS, E3.out⟩, ⟨g', C', _, _, HRun'.out, E2.out, ⟨n0, n1, by rw [E1.out]; exact n2⟩, hN.rd⟩, ⟨g0, g1, g2⟩, zN, bw13⟩
            case measure => simp [intOf]; omega
          · have hlenI : (SL.length : Int) ≤ (E.length : Int) := by omega
            go_wp2
            go_roundw
            case rel => exact ⟨k + 1, by go_num, by omega, pe, ce, E, rfl, ⟨hE, HEc.out⟩, ⟨g', C', _, _, HRun'.out, HE2.out, ⟨n0, n1, by rw [E1.out]; exact n2⟩, hN.rd⟩, ⟨g0, g1, g2⟩, zN, bw13⟩
            case measure => simp [intOf]; omega
    · have hlt2 : 60 ≤ (k : Int) := by omega
      go_wp2
      go_ret
      exact ⟨rfl, bwr⟩


end Go.Proofs.Ytfaefjdlfjhniaa
