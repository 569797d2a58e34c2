/- impl.PlayGroup at one act. Printed by mkplay.py. -/
import Derived.Test.YtfaefjdlfjhniaaDo
import Derived.Test.YtfaefjdlfjhniaaLogg
import Derived.Test.YtfaefjdlfjhniaaGcopy
import Derived.Test.YtfaefjdlfjhniaaHeld
namespace Go.Proofs.Ytfaefjdlfjhniaa
open Go.RowKit

set_option maxRecDepth 100000 in
set_option maxHeartbeats 6400000 in
/-- impl.PlayGroup at one act of a run. -/
theorem play_any (k : Nat) (hk : 1 ≤ k ∧ k ≤ 6) (p : Option Addr) (c : Nat) (l : List ReplicaD) (t d r : Int) (y : RecD) {C : List EntryD} (hR : Run ⟨l, t, d⟩ C) (hr : I64 r) (hy : y.Reads = [] ∧ y.Writes = []) (hi : I64 y.Kind ∧ I64 y.Txn ∧ I64 y.Time ∧ I64 y.Lead) (w : World) (h : Rd Cod.replica w (.slice p l.length c) l) (B m : Nat) (hB : B < w.heap.size) (hm : 1 ≤ m) (hS : ActAt w B k r y) :
    Calls Try.prog 20 #[.agg #[.slice p l.length c, .int .i64 t, .int .i64 d], .slice (some ⟨B, 0, none⟩) 1 m] w fun e w' => ∃ p c, e = .returned (.tuple #[.agg #[.slice p (playG ⟨l, t, d⟩ k r y).Reps.length c, .int .i64 (playG ⟨l, t, d⟩ k r y).Term, .int .i64 (playG ⟨l, t, d⟩ k r y).Lead], .bool true]) ∧ Own Cod.replica w' w.heap.size (.slice p (playG ⟨l, t, d⟩ k r y).Reps.length c) (playG ⟨l, t, d⟩ k r y).Reps ∧ Below w.heap.size w w' := by
  have Hg := Lib.hid (fun (W : World) (b : Below w.heap.size w W) => goodGroup_any (.slice p l.length c) l t d hR.i64t hR.i64d hR.cost W (h.below b))
  rw [hR.good] at Hg
  have Ho := Lib.hid (fun (W : World) (b : Below w.heap.size w W) => copyGroup_any (.slice p l.length c) l t d hR.cost W (h.below b))
  have Hd := Lib.hid (fun (W : World) (p c) (h : Rd Cod.replica W (.slice p l.length c) l) => do_any k hk p c l t d r y hR hr hy hi W h)
  have hk1 : (1 : Int) ≤ (k : Int) := by omega
  obtain ⟨q, hq⟩ : ∃ q, actQ l t d k r y = q := ⟨_, rfl⟩
  obtain ⟨ga, hga⟩ : ∃ ga, actG l t d k r y = ga := ⟨_, rfl⟩
  obtain ⟨G, hG0, hG1⟩ : ∃ G : Nat → GroupD, G 0 = ⟨l, t, d⟩ ∧ G 1 = playG ⟨l, t, d⟩ k r y := ⟨fun i => if i = 0 then ⟨l, t, d⟩ else playG ⟨l, t, d⟩ k r y, rfl, rfl⟩
  rw [← hG1]
  have hGp : G 1 = bif q then ga else ⟨l, t, d⟩ := by rw [hG1, ← hq, ← hga]; rfl
  rw [hq, hga] at Hd
  obtain ⟨d0, d1, d2, d3, d4, d5, d6, d7, d8⟩ := hS
  have HG0 := Lib.hid hG0
  have HGp := Lib.hid hGp
  obtain ⟨n, hn⟩ : ∃ n : Nat, l.length = n := ⟨_, rfl⟩
  have Hn := Lib.hid hn
  rw [hn] at Hg Ho Hd ⊢
  have hmI : (1 : Int) ≤ (m : Int) := by omega
  clear hn hq hga hG0 hG1 hGp hR h hi hy hr hm
  go_enter Try.func20, Try.ntmps20
  go_wp2_with fail
  refine (Hg.out _ (by (repeat (first | (with_reducible exact Below.refl _ _) | (with_reducible refine below_setCell ?_ (by first | (simp; done) | (simp; omega) | omega)) | (with_reducible refine below_alloc _ ?_) | (with_reducible refine below_drewN ?_ _) | (with_reducible assumption) | (with_reducible refine below_after (by assumption) ?_))))).mono ?_
  rintro e w1 ⟨rfl, k1⟩
  have b1 : Below w.heap.size w w1 := below_after k1 (by (repeat (first | (with_reducible exact Below.refl _ _) | (with_reducible refine below_setCell ?_ (by first | (simp; done) | (simp; omega) | omega)) | (with_reducible refine below_alloc _ ?_) | (with_reducible refine below_drewN ?_ _) | (with_reducible assumption) | (with_reducible refine below_after (by assumption) ?_))))
  have hx1 := bcell k1
  have c0 : w1.cell? ⟨w.heap.size, 0, none⟩ = some (.slice p n c) := by rw [hx1.1 _ _ (by first | (simp; done) | (simp; omega))]; simp [go_sem]
  have c1 : w1.cell? ⟨w.heap.size, 1, none⟩ = some (.int .i64 t) := by rw [hx1.1 _ _ (by first | (simp; done) | (simp; omega))]; simp [go_sem]
  have c2 : w1.cell? ⟨w.heap.size, 2, none⟩ = some (.int .i64 d) := by rw [hx1.1 _ _ (by first | (simp; done) | (simp; omega))]; simp [go_sem]
  have r0 : w1.cell? ⟨w.heap.size + 1, 0, none⟩ = some (.slice none 0 0) := by rw [hx1.1 _ _ (by first | (simp; done) | (simp; omega))]; simp [go_sem]
  have r1 : w1.cell? ⟨w.heap.size + 1, 1, none⟩ = some (.int .i64 0) := by rw [hx1.1 _ _ (by first | (simp; done) | (simp; omega))]; simp [go_sem]
  have r2 : w1.cell? ⟨w.heap.size + 1, 2, none⟩ = some (.int .i64 0) := by rw [hx1.1 _ _ (by first | (simp; done) | (simp; omega))]; simp [go_sem]
  have g0 : w1.frozen? ⟨w.heap.size + 1, 0, none⟩ = false := by rw [hx1.2 _ _ (by first | (simp; done) | (simp; omega))]; simp [go_sem]
  have g1 : w1.frozen? ⟨w.heap.size + 1, 1, none⟩ = false := by rw [hx1.2 _ _ (by first | (simp; done) | (simp; omega))]; simp [go_sem]
  have g2 : w1.frozen? ⟨w.heap.size + 1, 2, none⟩ = false := by rw [hx1.2 _ _ (by first | (simp; done) | (simp; omega))]; simp [go_sem]
  have z1 : w.heap.size + 1 < w1.heap.size := by have := k1.size; simp at this; omega
  clear k1 hx1
  go_wp2_with fail
  refine (Ho.out _ b1).mono ?_
  rintro e w2 ⟨v', rfl, o2, k2⟩
  obtain ⟨p', c', rfl⟩ := o2.form
  rw [Hn.out] at o2 ⊢
  have b2 : Below w.heap.size w w2 := below_after k2 b1
  replace r0 := cell_step k2 r0
  replace r1 := cell_step k2 r1
  replace r2 := cell_step k2 r2
  replace g0 : w2.frozen? ⟨w.heap.size + 1, 0, none⟩ = false := (k2.frozen (p := ⟨w.heap.size + 1, 0, none⟩) z1).trans g0
  replace g1 : w2.frozen? ⟨w.heap.size + 1, 1, none⟩ = false := (k2.frozen (p := ⟨w.heap.size + 1, 1, none⟩) z1).trans g1
  replace g2 : w2.frozen? ⟨w.heap.size + 1, 2, none⟩ = false := (k2.frozen (p := ⟨w.heap.size + 1, 2, none⟩) z1).trans g2
  have z2 : w.heap.size + 1 < w2.heap.size := Nat.lt_of_lt_of_le z1 k2.size
  have o3 : Own Cod.replica w2 (w.heap.size + 2) (.slice p' n c') l := (own_weakR o2).mono z1
  clear k2 o2 c0 c1 c2
  go_upto_region 4 with fail
  generalize hw3 : World.alloc _ _ = w3
  have q0 : w3.cell? ⟨w2.heap.size, 0, none⟩ = some (.slice p' n c') := by rw [← hw3]; simp [go_sem]
  have q1 : w3.cell? ⟨w2.heap.size, 1, none⟩ = some (.int .i64 t) := by rw [← hw3]; simp [go_sem]
  have q2 : w3.cell? ⟨w2.heap.size, 2, none⟩ = some (.int .i64 d) := by rw [← hw3]; simp [go_sem]
  have x0 : w3.frozen? ⟨w2.heap.size, 0, none⟩ = false := by rw [← hw3]; simp [go_sem]
  have x1 : w3.frozen? ⟨w2.heap.size, 1, none⟩ = false := by rw [← hw3]; simp [go_sem]
  have x2 : w3.frozen? ⟨w2.heap.size, 2, none⟩ = false := by rw [← hw3]; simp [go_sem]
  have zx : w2.heap.size < w3.heap.size := by rw [← hw3]; simp
  have m3 : Below w2.heap.size w2 w3 := by rw [← hw3]; exact below_new _ _
  replace r0 := cell_step m3 r0
  replace r1 := cell_step m3 r1
  replace r2 := cell_step m3 r2
  replace g0 : w3.frozen? ⟨w.heap.size + 1, 0, none⟩ = false := (m3.frozen (p := ⟨w.heap.size + 1, 0, none⟩) z2).trans g0
  replace g1 : w3.frozen? ⟨w.heap.size + 1, 1, none⟩ = false := (m3.frozen (p := ⟨w.heap.size + 1, 1, none⟩) z2).trans g1
  replace g2 : w3.frozen? ⟨w.heap.size + 1, 2, none⟩ = false := (m3.frozen (p := ⟨w.heap.size + 1, 2, none⟩) z2).trans g2
  have b3 : Below w.heap.size w w3 := below_after m3 b2
  replace o3 := o3.below m3
  clear hw3 m3
  go_wp2
  go_loopw [24] (fun i wr => ∃ k : Nat, i = .int .i64 (k : Int) ∧ k ≤ 1 ∧ (∃ p2 c2, wr.cell? ⟨w2.heap.size, 0, none⟩ = some (.slice p2 (G k).Reps.length c2) ∧ wr.cell? ⟨w2.heap.size, 1, none⟩ = some (.int .i64 (G k).Term) ∧ wr.cell? ⟨w2.heap.size, 2, none⟩ = some (.int .i64 (G k).Lead) ∧ Own Cod.replica wr (w.heap.size + 2) (.slice p2 (G k).Reps.length c2) (G k).Reps) ∧ (wr.frozen? ⟨w2.heap.size, 0, none⟩ = false ∧ wr.frozen? ⟨w2.heap.size, 1, none⟩ = false ∧ wr.frozen? ⟨w2.heap.size, 2, none⟩ = false) ∧ (wr.cell? ⟨w.heap.size + 1, 0, none⟩ = some (.slice none 0 0) ∧ wr.cell? ⟨w.heap.size + 1, 1, none⟩ = some (.int .i64 0) ∧ wr.cell? ⟨w.heap.size + 1, 2, none⟩ = some (.int .i64 0)) ∧ (wr.frozen? ⟨w.heap.size + 1, 0, none⟩ = false ∧ wr.frozen? ⟨w.heap.size + 1, 1, none⟩ = false ∧ wr.frozen? ⟨w.heap.size + 1, 2, none⟩ = false) ∧ w2.heap.size < wr.heap.size ∧ Below w.heap.size w wr) (fun i _ => 1 - (intOf i).toNat)
  case atStart =>
    refine ⟨0, rfl, Nat.zero_le _, ⟨p', c', ?_⟩, ⟨x0, x1, x2⟩, ⟨r0, r1, r2⟩, ⟨g0, g1, g2⟩, zx, b3⟩
    rw [HG0.out]
    dsimp only
    rw [Hn.out]
    exact ⟨q0, q1, q2, o3⟩
  case round =>
    clear q0 q1 q2 x0 x1 x2 r0 r1 r2 g0 g1 g2 zx b3 o3
    obtain ⟨kk, rfl, hkk, ⟨p2, c2, q0, q1, q2, o3⟩, ⟨x0, x1, x2⟩, ⟨r0, r1, r2⟩, ⟨g0, g1, g2⟩, zx, br⟩ := hrel
    obtain rfl | rfl : kk = 0 ∨ kk = 1 := by omega
    · rw [HG0.out] at q0 q1 q2 o3
      dsimp only at q0 q1 q2 o3
      rw [Hn.out] at q0 o3
      replace d0 := cell_step br d0
      replace d1 := cell_step br d1
      replace d2 := cell_step br d2
      replace d3 := cell_step br d3
      replace d4 := cell_step br d4
      replace d5 := cell_step br d5
      replace d6 := cell_step br d6
      replace d7 := cell_step br d7
      replace d8 := cell_step br d8
      cases q

      · go_upto_region 7 with fail
        generalize hw4 : World.alloc _ _ = w4
        have e0 : w4.cell? ⟨wr.heap.size, 0, none⟩ = some (.int .i64 (k : Int)) := by rw [← hw4]; simp [go_sem]
        have e1 : w4.cell? ⟨wr.heap.size, 1, none⟩ = some (.int .i64 r) := by rw [← hw4]; simp [go_sem]
        have e2 : w4.cell? ⟨wr.heap.size, 2, none⟩ = some (.int .i64 y.Kind) := by rw [← hw4]; simp [go_sem]
        have e3 : w4.cell? ⟨wr.heap.size, 3, none⟩ = some (.int .i64 y.Txn) := by rw [← hw4]; simp [go_sem]
        have e4 : w4.cell? ⟨wr.heap.size, 4, none⟩ = some (.int .i64 y.Time) := by rw [← hw4]; simp [go_sem]
        have e5 : w4.cell? ⟨wr.heap.size, 5, none⟩ = some (.int .i64 y.Lead) := by rw [← hw4]; simp [go_sem]
        have e6 : w4.cell? ⟨wr.heap.size, 6, none⟩ = some (.slice none 0 0) := by rw [← hw4]; simp [go_sem]
        have e7 : w4.cell? ⟨wr.heap.size, 7, none⟩ = some (.slice none 0 0) := by rw [← hw4]; simp [go_sem]
        have e8 : w4.cell? ⟨wr.heap.size, 8, none⟩ = some (.bool y.Yes) := by rw [← hw4]; simp [go_sem]
        have m4 : Below wr.heap.size wr w4 := by rw [← hw4]; exact below_new _ _
        have b4 : Below w.heap.size w w4 := below_after m4 br
        replace q0 := cell_step m4 q0
        replace q1 := cell_step m4 q1
        replace q2 := cell_step m4 q2
        replace r0 := cell_step m4 r0
        replace r1 := cell_step m4 r1
        replace r2 := cell_step m4 r2
        replace x0 : w4.frozen? ⟨w2.heap.size, 0, none⟩ = false := (m4.frozen (p := ⟨w2.heap.size, 0, none⟩) zx).trans x0
        replace x1 : w4.frozen? ⟨w2.heap.size, 1, none⟩ = false := (m4.frozen (p := ⟨w2.heap.size, 1, none⟩) zx).trans x1
        replace x2 : w4.frozen? ⟨w2.heap.size, 2, none⟩ = false := (m4.frozen (p := ⟨w2.heap.size, 2, none⟩) zx).trans x2
        replace g0 : w4.frozen? ⟨w.heap.size + 1, 0, none⟩ = false := (m4.frozen (p := ⟨w.heap.size + 1, 0, none⟩) (show w.heap.size + 1 < wr.heap.size from by omega)).trans g0
        replace g1 : w4.frozen? ⟨w.heap.size + 1, 1, none⟩ = false := (m4.frozen (p := ⟨w.heap.size + 1, 1, none⟩) (show w.heap.size + 1 < wr.heap.size from by omega)).trans g1
        replace g2 : w4.frozen? ⟨w.heap.size + 1, 2, none⟩ = false := (m4.frozen (p := ⟨w.heap.size + 1, 2, none⟩) (show w.heap.size + 1 < wr.heap.size from by omega)).trans g2
        replace zx := Nat.lt_of_lt_of_le zx m4.size
        replace o3 := o3.below m4
        clear hw4 m4 d0 d1 d2 d3 d4 d5 d6 d7 d8
        go_wp2_with fail
        refine (Hd.out _ _ _ o3.rd).mono ?_
        rintro e w5 ⟨p5, c5, rfl, o5, k5⟩
        dsimp only [pickG] at o5 ⊢
        have zx4 : w2.heap.size < w4.heap.size := zx
        have b5 : Below w.heap.size w w5 := below_after k5 b4
        replace q0 := cell_step k5 q0
        replace q1 := cell_step k5 q1
        replace q2 := cell_step k5 q2
        replace r0 := cell_step k5 r0
        replace r1 := cell_step k5 r1
        replace r2 := cell_step k5 r2
        replace x0 : w5.frozen? ⟨w2.heap.size, 0, none⟩ = false := (k5.frozen (p := ⟨w2.heap.size, 0, none⟩) zx).trans x0
        replace x1 : w5.frozen? ⟨w2.heap.size, 1, none⟩ = false := (k5.frozen (p := ⟨w2.heap.size, 1, none⟩) zx).trans x1
        replace x2 : w5.frozen? ⟨w2.heap.size, 2, none⟩ = false := (k5.frozen (p := ⟨w2.heap.size, 2, none⟩) zx).trans x2
        replace g0 : w5.frozen? ⟨w.heap.size + 1, 0, none⟩ = false := (k5.frozen (p := ⟨w.heap.size + 1, 0, none⟩) (show w.heap.size + 1 < w4.heap.size from by omega)).trans g0
        replace g1 : w5.frozen? ⟨w.heap.size + 1, 1, none⟩ = false := (k5.frozen (p := ⟨w.heap.size + 1, 1, none⟩) (show w.heap.size + 1 < w4.heap.size from by omega)).trans g1
        replace g2 : w5.frozen? ⟨w.heap.size + 1, 2, none⟩ = false := (k5.frozen (p := ⟨w.heap.size + 1, 2, none⟩) (show w.heap.size + 1 < w4.heap.size from by omega)).trans g2
        replace zx := Nat.lt_of_lt_of_le zx k5.size
        replace o3 := o3.below k5
        have o6 := o5.mono (show w2.heap.size + 1 ≤ w4.heap.size from zx4)
        clear o5 k5
        go_upto_region 8 with fail
        generalize hw6 : World.alloc _ _ = w6
        have m6 : Below w5.heap.size w5 w6 := by rw [← hw6]; exact below_new _ _
        have b6 : Below w.heap.size w w6 := below_after m6 b5
        replace q0 := cell_step m6 q0
        replace q1 := cell_step m6 q1
        replace q2 := cell_step m6 q2
        replace r0 := cell_step m6 r0
        replace r1 := cell_step m6 r1
        replace r2 := cell_step m6 r2
        replace x0 : w6.frozen? ⟨w2.heap.size, 0, none⟩ = false := (m6.frozen (p := ⟨w2.heap.size, 0, none⟩) zx).trans x0
        replace x1 : w6.frozen? ⟨w2.heap.size, 1, none⟩ = false := (m6.frozen (p := ⟨w2.heap.size, 1, none⟩) zx).trans x1
        replace x2 : w6.frozen? ⟨w2.heap.size, 2, none⟩ = false := (m6.frozen (p := ⟨w2.heap.size, 2, none⟩) zx).trans x2
        replace g0 : w6.frozen? ⟨w.heap.size + 1, 0, none⟩ = false := (m6.frozen (p := ⟨w.heap.size + 1, 0, none⟩) (show w.heap.size + 1 < w5.heap.size from by omega)).trans g0
        replace g1 : w6.frozen? ⟨w.heap.size + 1, 1, none⟩ = false := (m6.frozen (p := ⟨w.heap.size + 1, 1, none⟩) (show w.heap.size + 1 < w5.heap.size from by omega)).trans g1
        replace g2 : w6.frozen? ⟨w.heap.size + 1, 2, none⟩ = false := (m6.frozen (p := ⟨w.heap.size + 1, 2, none⟩) (show w.heap.size + 1 < w5.heap.size from by omega)).trans g2
        have zy : w5.heap.size < w6.heap.size := by rw [← hw6]; simp
        replace o3 := o3.below m6
        replace o6 := o6.below m6
        replace zx := Nat.lt_of_lt_of_le zx m6.size
        clear hw6 m6 o6
        go_wp2
        go_roundw
        case rel =>
          refine ⟨1, by go_num, Nat.le_refl _, ⟨p2, c2, ?_⟩, ⟨x0, x1, x2⟩, ⟨r0, r1, r2⟩, ⟨g0, g1, g2⟩, zx, b6⟩
          rw [HGp.out]
          dsimp only [cond_false]
          rw [Hn.out]
          exact ⟨q0, q1, q2, o3⟩
        case measure => simp [intOf]
      · go_upto_region 7 with fail
        generalize hw4 : World.alloc _ _ = w4
        have e0 : w4.cell? ⟨wr.heap.size, 0, none⟩ = some (.int .i64 (k : Int)) := by rw [← hw4]; simp [go_sem]
        have e1 : w4.cell? ⟨wr.heap.size, 1, none⟩ = some (.int .i64 r) := by rw [← hw4]; simp [go_sem]
        have e2 : w4.cell? ⟨wr.heap.size, 2, none⟩ = some (.int .i64 y.Kind) := by rw [← hw4]; simp [go_sem]
        have e3 : w4.cell? ⟨wr.heap.size, 3, none⟩ = some (.int .i64 y.Txn) := by rw [← hw4]; simp [go_sem]
        have e4 : w4.cell? ⟨wr.heap.size, 4, none⟩ = some (.int .i64 y.Time) := by rw [← hw4]; simp [go_sem]
        have e5 : w4.cell? ⟨wr.heap.size, 5, none⟩ = some (.int .i64 y.Lead) := by rw [← hw4]; simp [go_sem]
        have e6 : w4.cell? ⟨wr.heap.size, 6, none⟩ = some (.slice none 0 0) := by rw [← hw4]; simp [go_sem]
        have e7 : w4.cell? ⟨wr.heap.size, 7, none⟩ = some (.slice none 0 0) := by rw [← hw4]; simp [go_sem]
        have e8 : w4.cell? ⟨wr.heap.size, 8, none⟩ = some (.bool y.Yes) := by rw [← hw4]; simp [go_sem]
        have m4 : Below wr.heap.size wr w4 := by rw [← hw4]; exact below_new _ _
        have b4 : Below w.heap.size w w4 := below_after m4 br
        replace q0 := cell_step m4 q0
        replace q1 := cell_step m4 q1
        replace q2 := cell_step m4 q2
        replace r0 := cell_step m4 r0
        replace r1 := cell_step m4 r1
        replace r2 := cell_step m4 r2
        replace x0 : w4.frozen? ⟨w2.heap.size, 0, none⟩ = false := (m4.frozen (p := ⟨w2.heap.size, 0, none⟩) zx).trans x0
        replace x1 : w4.frozen? ⟨w2.heap.size, 1, none⟩ = false := (m4.frozen (p := ⟨w2.heap.size, 1, none⟩) zx).trans x1
        replace x2 : w4.frozen? ⟨w2.heap.size, 2, none⟩ = false := (m4.frozen (p := ⟨w2.heap.size, 2, none⟩) zx).trans x2
        replace g0 : w4.frozen? ⟨w.heap.size + 1, 0, none⟩ = false := (m4.frozen (p := ⟨w.heap.size + 1, 0, none⟩) (show w.heap.size + 1 < wr.heap.size from by omega)).trans g0
        replace g1 : w4.frozen? ⟨w.heap.size + 1, 1, none⟩ = false := (m4.frozen (p := ⟨w.heap.size + 1, 1, none⟩) (show w.heap.size + 1 < wr.heap.size from by omega)).trans g1
        replace g2 : w4.frozen? ⟨w.heap.size + 1, 2, none⟩ = false := (m4.frozen (p := ⟨w.heap.size + 1, 2, none⟩) (show w.heap.size + 1 < wr.heap.size from by omega)).trans g2
        replace zx := Nat.lt_of_lt_of_le zx m4.size
        replace o3 := o3.below m4
        clear hw4 m4 d0 d1 d2 d3 d4 d5 d6 d7 d8
        go_wp2_with fail
        refine (Hd.out _ _ _ o3.rd).mono ?_
        rintro e w5 ⟨p5, c5, rfl, o5, k5⟩
        dsimp only [pickG] at o5 ⊢
        have zx4 : w2.heap.size < w4.heap.size := zx
        have b5 : Below w.heap.size w w5 := below_after k5 b4
        replace q0 := cell_step k5 q0
        replace q1 := cell_step k5 q1
        replace q2 := cell_step k5 q2
        replace r0 := cell_step k5 r0
        replace r1 := cell_step k5 r1
        replace r2 := cell_step k5 r2
        replace x0 : w5.frozen? ⟨w2.heap.size, 0, none⟩ = false := (k5.frozen (p := ⟨w2.heap.size, 0, none⟩) zx).trans x0
        replace x1 : w5.frozen? ⟨w2.heap.size, 1, none⟩ = false := (k5.frozen (p := ⟨w2.heap.size, 1, none⟩) zx).trans x1
        replace x2 : w5.frozen? ⟨w2.heap.size, 2, none⟩ = false := (k5.frozen (p := ⟨w2.heap.size, 2, none⟩) zx).trans x2
        replace g0 : w5.frozen? ⟨w.heap.size + 1, 0, none⟩ = false := (k5.frozen (p := ⟨w.heap.size + 1, 0, none⟩) (show w.heap.size + 1 < w4.heap.size from by omega)).trans g0
        replace g1 : w5.frozen? ⟨w.heap.size + 1, 1, none⟩ = false := (k5.frozen (p := ⟨w.heap.size + 1, 1, none⟩) (show w.heap.size + 1 < w4.heap.size from by omega)).trans g1
        replace g2 : w5.frozen? ⟨w.heap.size + 1, 2, none⟩ = false := (k5.frozen (p := ⟨w.heap.size + 1, 2, none⟩) (show w.heap.size + 1 < w4.heap.size from by omega)).trans g2
        replace zx := Nat.lt_of_lt_of_le zx k5.size
        replace o3 := o3.below k5
        have o6 := o5.mono (show w2.heap.size + 1 ≤ w4.heap.size from zx4)
        clear o5 k5
        go_upto_region 8 with fail
        generalize hw6 : World.alloc _ _ = w6
        have m6 : Below w5.heap.size w5 w6 := by rw [← hw6]; exact below_new _ _
        have b6 : Below w.heap.size w w6 := below_after m6 b5
        replace q0 := cell_step m6 q0
        replace q1 := cell_step m6 q1
        replace q2 := cell_step m6 q2
        replace r0 := cell_step m6 r0
        replace r1 := cell_step m6 r1
        replace r2 := cell_step m6 r2
        replace x0 : w6.frozen? ⟨w2.heap.size, 0, none⟩ = false := (m6.frozen (p := ⟨w2.heap.size, 0, none⟩) zx).trans x0
        replace x1 : w6.frozen? ⟨w2.heap.size, 1, none⟩ = false := (m6.frozen (p := ⟨w2.heap.size, 1, none⟩) zx).trans x1
        replace x2 : w6.frozen? ⟨w2.heap.size, 2, none⟩ = false := (m6.frozen (p := ⟨w2.heap.size, 2, none⟩) zx).trans x2
        replace g0 : w6.frozen? ⟨w.heap.size + 1, 0, none⟩ = false := (m6.frozen (p := ⟨w.heap.size + 1, 0, none⟩) (show w.heap.size + 1 < w5.heap.size from by omega)).trans g0
        replace g1 : w6.frozen? ⟨w.heap.size + 1, 1, none⟩ = false := (m6.frozen (p := ⟨w.heap.size + 1, 1, none⟩) (show w.heap.size + 1 < w5.heap.size from by omega)).trans g1
        replace g2 : w6.frozen? ⟨w.heap.size + 1, 2, none⟩ = false := (m6.frozen (p := ⟨w.heap.size + 1, 2, none⟩) (show w.heap.size + 1 < w5.heap.size from by omega)).trans g2
        have zy : w5.heap.size < w6.heap.size := by rw [← hw6]; simp
        replace o3 := o3.below m6
        replace o6 := o6.below m6
        have f0 : w6.cell? ⟨w5.heap.size, 0, none⟩ = some (.slice p5 ga.Reps.length c5) := by rw [← hw6]; simp [go_sem]
        have f1 : w6.cell? ⟨w5.heap.size, 1, none⟩ = some (.int .i64 ga.Term) := by rw [← hw6]; simp [go_sem]
        have f2 : w6.cell? ⟨w5.heap.size, 2, none⟩ = some (.int .i64 ga.Lead) := by rw [← hw6]; simp [go_sem]
        have hne : w2.heap.size ≠ w5.heap.size := by omega
        replace zx := Nat.lt_of_lt_of_le zx m6.size
        clear hw6 m6 o3
        go_upto_region 10 with fail
        generalize hw7 : World.setCell _ _ _ = w7
        have n0 : w7.cell? ⟨w2.heap.size, 0, none⟩ = some (.slice p5 ga.Reps.length c5) := by rw [← hw7]; simp [go_sem, q0, q1, q2]
        have n1 : w7.cell? ⟨w2.heap.size, 1, none⟩ = some (.int .i64 ga.Term) := by rw [← hw7]; simp [go_sem, q0, q1, q2]
        have n2 : w7.cell? ⟨w2.heap.size, 2, none⟩ = some (.int .i64 ga.Lead) := by rw [← hw7]; simp [go_sem, q0, q1, q2]
        have ot : ∀ b i, b ≠ w2.heap.size → w7.cell? ⟨b, i, none⟩ = w6.cell? ⟨b, i, none⟩ := fun b i hb => by
          rw [← hw7, World.cell?_setCell_other _ _ _ _ (fun e => hb (congrArg Addr.block e).symm), World.cell?_setCell_other _ _ _ _ (fun e => hb (congrArg Addr.block e).symm), World.cell?_setCell_other _ _ _ _ (fun e => hb (congrArg Addr.block e).symm)]
        rw [← ot _ _ (show w.heap.size + 1 ≠ w2.heap.size from by omega)] at r0 r1 r2
        have of : ∀ p, w7.frozen? p = w6.frozen? p := fun p => by rw [← hw7]; simp only [World.frozen?_setCell]
        rw [← of] at g0 g1 g2 x0 x1 x2
        have z7 : w2.heap.size < w7.heap.size := by rw [← hw7]; simp; exact zx
        have b7 : Below w.heap.size w w7 := by rw [← hw7]; (repeat (first | (with_reducible exact Below.refl _ _) | (with_reducible refine below_setCell ?_ (by first | (simp; done) | (simp; omega) | omega)) | (with_reducible refine below_alloc _ ?_) | (with_reducible refine below_drewN ?_ _) | (with_reducible assumption) | (with_reducible refine below_after (by assumption) ?_)))
        have o7 : Own Cod.replica w7 (w.heap.size + 2) (.slice p5 ga.Reps.length c5) ga.Reps := (o6.keep (Nat.le_refl _) (show Keep (w2.heap.size + 1) w6 w7 from by rw [← hw7]; (repeat (first | (with_reducible exact Keep.refl _ _) | (with_reducible refine keep_set ?_ (by first | (simp; done) | (simp; omega) | omega)) | (with_reducible refine keep_alloc _ ?_) | (with_reducible refine keep_drewN ?_ _) | (with_reducible assumption) | (with_reducible refine keep_below (by assumption) ?_))))).mono (by omega)
        clear hw7 ot of
        go_wp2
        go_roundw
        case rel =>
          refine ⟨1, by go_num, Nat.le_refl _, ⟨p5, c5, ?_⟩, ⟨x0, x1, x2⟩, ⟨r0, r1, r2⟩, ⟨g0, g1, g2⟩, z7, b7⟩
          rw [HGp.out]
          dsimp only [cond_true]
          exact ⟨n0, n1, n2, o7⟩
        case measure => simp [intOf]

    · obtain ⟨G1, hG1⟩ : ∃ G1, G 1 = G1 := ⟨_, rfl⟩
      have HG1 := Lib.hid hG1
      rw [hG1] at q0 q1 q2 o3
      clear hG1
      go_wp2
      refine bodyPost_ret (v := .tuple #[.agg #[.slice p2 G1.Reps.length c2, .int .i64 G1.Term, .int .i64 G1.Lead], .bool true]) (by simp [results, Try.results20, go_sem, r0, r1, r2]) rfl ⟨p2, c2, by rw [HG1.out], ?_, by (repeat (first | (with_reducible exact Below.refl _ _) | (with_reducible refine below_setCell ?_ (by first | (simp; done) | (simp; omega) | omega)) | (with_reducible refine below_alloc _ ?_) | (with_reducible refine below_drewN ?_ _) | (with_reducible assumption) | (with_reducible refine below_after (by assumption) ?_)))⟩
      rw [HG1.out]
      exact (o3.keep (Nat.le_refl _) (show Keep (w.heap.size + 2) wr _ from by (repeat (first | (with_reducible exact Keep.refl _ _) | (with_reducible refine keep_set ?_ (by first | (simp; done) | (simp; omega) | omega)) | (with_reducible refine keep_alloc _ ?_) | (with_reducible refine keep_drewN ?_ _) | (with_reducible assumption) | (with_reducible refine keep_below (by assumption) ?_))))).mono (by omega)

end Go.Proofs.Ytfaefjdlfjhniaa
