/- spec.PlayGroup at one act. Printed by mkplay.py. -/
import Derived.Test.YtfaefjdlfjhniaaDoS
import Derived.Test.YtfaefjdlfjhniaaLogg
import Derived.Test.YtfaefjdlfjhniaaGcopy
import Derived.Test.YtfaefjdlfjhniaaHeld
namespace Go.Proofs.Ytfaefjdlfjhniaa
open Go.RowKit

set_option maxRecDepth 100000 in
set_option maxHeartbeats 6400000 in
/-- spec.PlayGroup at one act of a run. -/
theorem playS_any (k : Nat) (hk : 1 ≤ k ∧ k ≤ 6) (p : Option Addr) (c : Nat) (l : List ReplicaD) (t d r : Int) (y : RecD) {C : List EntryD} (hR : Run ⟨l, t, d⟩ C) (hr : I64 r) (hy : y.Reads = [] ∧ y.Writes = []) (hi : I64 y.Kind ∧ I64 y.Txn ∧ I64 y.Time ∧ I64 y.Lead) (w : World) (h : Rd Cod.replica w (.slice p l.length c) l) (B m : Nat) (hB : B < w.heap.size) (hm : 1 ≤ m) (hS : ActAt w B k r y) :
    Calls Try.prog 21 #[.agg #[.slice p l.length c, .int .i64 t, .int .i64 d], .slice (some ⟨B, 0, none⟩) 1 m] w fun e w' => ∃ p c, e = .returned (.tuple #[.agg #[.slice p (playG ⟨l, t, d⟩ k r y).Reps.length c, .int .i64 (playG ⟨l, t, d⟩ k r y).Term, .int .i64 (playG ⟨l, t, d⟩ k r y).Lead], .bool true]) ∧ Own Cod.replica w' w.heap.size (.slice p (playG ⟨l, t, d⟩ k r y).Reps.length c) (playG ⟨l, t, d⟩ k r y).Reps ∧ Below w.heap.size w w' := by
  have Hg := Lib.hid (fun (W : World) (b : Below w.heap.size w W) => goodGroupS_any (.slice p l.length c) l t d hR.i64t hR.i64d hR.cost W (h.below b))
  rw [hR.good] at Hg
  have Ho := Lib.hid (fun (W : World) (b : Below w.heap.size w W) => l9Own_any (.slice p l.length c) l t d hR.cost W (h.below b))
  have Hd := Lib.hid (fun (W : World) (p c) (h : Rd Cod.replica W (.slice p l.length c) l) => doS_any k hk p c l t d r y hR hr hy hi W h)
  have hk1 : (1 : Int) ≤ (k : Int) := by omega
  obtain ⟨q, hq⟩ : ∃ q, actQ l t d k r y = q := ⟨_, rfl⟩
  obtain ⟨ga, hga⟩ : ∃ ga, actG l t d k r y = ga := ⟨_, rfl⟩
  obtain ⟨G, hG0, hG1⟩ : ∃ G : Nat → GroupD, G 0 = ⟨l, t, d⟩ ∧ G 1 = playG ⟨l, t, d⟩ k r y := ⟨fun i => if i = 0 then ⟨l, t, d⟩ else playG ⟨l, t, d⟩ k r y, rfl, rfl⟩
  rw [← hG1]
  have hGp : G 1 = bif q then ga else ⟨l, t, d⟩ := by rw [hG1, ← hq, ← hga]; rfl
  rw [hq, hga] at Hd
  obtain ⟨d0, d1, d2, d3, d4, d5, d6, d7, d8⟩ := hS
  have HG0 := Lib.hid hG0
  have HGp := Lib.hid hGp
  obtain ⟨gp, hgp⟩ : ∃ gp, pickG q ga = gp := ⟨_, rfl⟩
  have Hgp : Hid (q = true → gp = ga) := Lib.hid (fun h => by rw [← hgp, h]; rfl)
  unfold RetQ at Hd
  rw [hgp] at Hd
  clear hgp
  obtain ⟨n, hn⟩ : ∃ n : Nat, l.length = n := ⟨_, rfl⟩
  have Hn := Lib.hid hn
  rw [hn] at Hg Ho Hd ⊢
  have hmI : (1 : Int) ≤ (m : Int) := by omega
  clear hn hq hga hG0 hG1 hGp hR h hi hy hr hm
  go_enter Try.func21, Try.ntmps21
  go_wp2_with fail
  refine (Hg.out _ (by (repeat (first | (with_reducible exact Below.refl _ _) | (with_reducible refine below_setCell ?_ (by first | (simp; done) | (simp; omega) | omega)) | (with_reducible refine below_alloc _ ?_) | (with_reducible refine below_drewN ?_ _) | (with_reducible assumption) | (with_reducible refine below_after (by assumption) ?_))))).mono ?_
  rintro e w1 ⟨rfl, k1⟩
  have b1 : Below w.heap.size w w1 := below_after k1 (by (repeat (first | (with_reducible exact Below.refl _ _) | (with_reducible refine below_setCell ?_ (by first | (simp; done) | (simp; omega) | omega)) | (with_reducible refine below_alloc _ ?_) | (with_reducible refine below_drewN ?_ _) | (with_reducible assumption) | (with_reducible refine below_after (by assumption) ?_))))
  have hx1 := bcell k1
  have c0 : w1.cell? ⟨w.heap.size, 0, none⟩ = some (.slice p n c) := by rw [hx1.1 _ _ (by first | (simp; done) | (simp; omega))]; simp [go_sem]
  have c1 : w1.cell? ⟨w.heap.size, 1, none⟩ = some (.int .i64 t) := by rw [hx1.1 _ _ (by first | (simp; done) | (simp; omega))]; simp [go_sem]
  have c2 : w1.cell? ⟨w.heap.size, 2, none⟩ = some (.int .i64 d) := by rw [hx1.1 _ _ (by first | (simp; done) | (simp; omega))]; simp [go_sem]
  have r0 : w1.cell? ⟨w.heap.size + 1, 0, none⟩ = some (.slice none 0 0) := by rw [hx1.1 _ _ (by first | (simp; done) | (simp; omega))]; simp [go_sem]
  have r1 : w1.cell? ⟨w.heap.size + 1, 1, none⟩ = some (.int .i64 0) := by rw [hx1.1 _ _ (by first | (simp; done) | (simp; omega))]; simp [go_sem]
  have r2 : w1.cell? ⟨w.heap.size + 1, 2, none⟩ = some (.int .i64 0) := by rw [hx1.1 _ _ (by first | (simp; done) | (simp; omega))]; simp [go_sem]
  have g0 : w1.frozen? ⟨w.heap.size + 1, 0, none⟩ = false := by rw [hx1.2 _ _ (by first | (simp; done) | (simp; omega))]; simp [go_sem]
  have g1 : w1.frozen? ⟨w.heap.size + 1, 1, none⟩ = false := by rw [hx1.2 _ _ (by first | (simp; done) | (simp; omega))]; simp [go_sem]
  have g2 : w1.frozen? ⟨w.heap.size + 1, 2, none⟩ = false := by rw [hx1.2 _ _ (by first | (simp; done) | (simp; omega))]; simp [go_sem]
  have z1 : w.heap.size + 1 < w1.heap.size := by have := k1.size; simp at this; omega
  clear k1 hx1
  go_wp2_with fail
  refine (Ho.out _ b1).mono ?_
  rintro e w2 ⟨v', rfl, o2, k2⟩
  obtain ⟨p', c', rfl⟩ := o2.form
  rw [Hn.out] at o2 ⊢
  have b2 : Below w.heap.size w w2 := below_after k2 b1
  replace r0 := cell_step k2 r0
  replace r1 := cell_step k2 r1
  replace r2 := cell_step k2 r2
  replace g0 : w2.frozen? ⟨w.heap.size + 1, 0, none⟩ = false := (k2.frozen (p := ⟨w.heap.size + 1, 0, none⟩) z1).trans g0
  replace g1 : w2.frozen? ⟨w.heap.size + 1, 1, none⟩ = false := (k2.frozen (p := ⟨w.heap.size + 1, 1, none⟩) z1).trans g1
  replace g2 : w2.frozen? ⟨w.heap.size + 1, 2, none⟩ = false := (k2.frozen (p := ⟨w.heap.size + 1, 2, none⟩) z1).trans g2
  have z2 : w.heap.size + 1 < w2.heap.size := Nat.lt_of_lt_of_le z1 k2.size
  have o3 : Own Cod.replica w2 (w.heap.size + 2) (.slice p' n c') l := (own_weakR o2).mono z1
  clear k2 o2 c0 c1 c2
  go_upto_region 4 with fail
  generalize hw3 : World.alloc _ _ = w3
  have q0 : w3.cell? ⟨w2.heap.size, 0, none⟩ = some (.slice p' n c') := by rw [← hw3]; simp [go_sem]
  have q1 : w3.cell? ⟨w2.heap.size, 1, none⟩ = some (.int .i64 t) := by rw [← hw3]; simp [go_sem]
  have q2 : w3.cell? ⟨w2.heap.size, 2, none⟩ = some (.int .i64 d) := by rw [← hw3]; simp [go_sem]
  have x0 : w3.frozen? ⟨w2.heap.size, 0, none⟩ = false := by rw [← hw3]; simp [go_sem]
  have x1 : w3.frozen? ⟨w2.heap.size, 1, none⟩ = false := by rw [← hw3]; simp [go_sem]
  have x2 : w3.frozen? ⟨w2.heap.size, 2, none⟩ = false := by rw [← hw3]; simp [go_sem]
  have zx : w2.heap.size < w3.heap.size := by rw [← hw3]; simp
  have m3 : Below w2.heap.size w2 w3 := by rw [← hw3]; exact below_new _ _
  replace r0 := cell_step m3 r0
  replace r1 := cell_step m3 r1
  replace r2 := cell_step m3 r2
  replace g0 : w3.frozen? ⟨w.heap.size + 1, 0, none⟩ = false := (m3.frozen (p := ⟨w.heap.size + 1, 0, none⟩) z2).trans g0
  replace g1 : w3.frozen? ⟨w.heap.size + 1, 1, none⟩ = false := (m3.frozen (p := ⟨w.heap.size + 1, 1, none⟩) z2).trans g1
  replace g2 : w3.frozen? ⟨w.heap.size + 1, 2, none⟩ = false := (m3.frozen (p := ⟨w.heap.size + 1, 2, none⟩) z2).trans g2
  have b3 : Below w.heap.size w w3 := below_after m3 b2
  replace o3 := o3.below m3
  clear hw3 m3
  go_wp2
  go_loopw [7] (fun i wr => ∃ k : Nat, i = .int .i64 (k : Int) ∧ k ≤ 1 ∧ (∃ p2 c2, wr.cell? ⟨w2.heap.size, 0, none⟩ = some (.slice p2 (G k).Reps.length c2) ∧ wr.cell? ⟨w2.heap.size, 1, none⟩ = some (.int .i64 (G k).Term) ∧ wr.cell? ⟨w2.heap.size, 2, none⟩ = some (.int .i64 (G k).Lead) ∧ Own Cod.replica wr (w.heap.size + 2) (.slice p2 (G k).Reps.length c2) (G k).Reps) ∧ (wr.frozen? ⟨w2.heap.size, 0, none⟩ = false ∧ wr.frozen? ⟨w2.heap.size, 1, none⟩ = false ∧ wr.frozen? ⟨w2.heap.size, 2, none⟩ = false) ∧ (wr.cell? ⟨w.heap.size + 1, 0, none⟩ = some (.slice none 0 0) ∧ wr.cell? ⟨w.heap.size + 1, 1, none⟩ = some (.int .i64 0) ∧ wr.cell? ⟨w.heap.size + 1, 2, none⟩ = some (.int .i64 0)) ∧ (wr.frozen? ⟨w.heap.size + 1, 0, none⟩ = false ∧ wr.frozen? ⟨w.heap.size + 1, 1, none⟩ = false ∧ wr.frozen? ⟨w.heap.size + 1, 2, none⟩ = false) ∧ w2.heap.size < wr.heap.size ∧ Below w.heap.size w wr) (fun i _ => 1 - (intOf i).toNat)
  case atStart =>
    refine ⟨0, rfl, Nat.zero_le _, ⟨p', c', ?_⟩, ⟨x0, x1, x2⟩, ⟨r0, r1, r2⟩, ⟨g0, g1, g2⟩, zx, b3⟩
    rw [HG0.out]
    dsimp only
    rw [Hn.out]
    exact ⟨q0, q1, q2, o3⟩
  case round =>
    clear q0 q1 q2 x0 x1 x2 r0 r1 r2 g0 g1 g2 zx b3 o3
    obtain ⟨kk, rfl, hkk, ⟨p2, c2, q0, q1, q2, o3⟩, ⟨x0, x1, x2⟩, ⟨r0, r1, r2⟩, ⟨g0, g1, g2⟩, zx, br⟩ := hrel
    obtain rfl | rfl : kk = 0 ∨ kk = 1 := by omega
    · rw [HG0.out] at q0 q1 q2 o3
      dsimp only at q0 q1 q2 o3
      rw [Hn.out] at q0 o3
      replace d0 := cell_step br d0
      replace d1 := cell_step br d1
      replace d2 := cell_step br d2
      replace d3 := cell_step br d3
      replace d4 := cell_step br d4
      replace d5 := cell_step br d5
      replace d6 := cell_step br d6
      replace d7 := cell_step br d7
      replace d8 := cell_step br d8
      go_upto_region 7 with fail
      go_cut [8, 9] (fun sa sb wx => ∃ (B5 : Nat) (p5 : Option Addr) (c5 : Nat), sa = .pointer (some ⟨B5, 0, none⟩) ∧ sb = .bool q ∧ (wr.heap.size ≤ B5 ∧ B5 < wx.heap.size) ∧ wx.cell? ⟨B5, 0, none⟩ = some (.slice p5 gp.Reps.length c5) ∧ wx.cell? ⟨B5, 1, none⟩ = some (.int .i64 gp.Term) ∧ wx.cell? ⟨B5, 2, none⟩ = some (.int .i64 gp.Lead) ∧ Hid (Own Cod.replica wx wr.heap.size (.slice p5 gp.Reps.length c5) gp.Reps) ∧ Below wr.heap.size wr wx)
      case first =>
        refine wp_region_d 10 (fun w' => w'.cell? ⟨w2.heap.size, 0, none⟩ = some (.slice p2 n c2) ∧ w'.cell? ⟨w2.heap.size, 1, none⟩ = some (.int .i64 t) ∧ w'.cell? ⟨w2.heap.size, 2, none⟩ = some (.int .i64 d) ∧ w'.cell? ⟨B, 0, none⟩ = some (.int .i64 (k : Int)) ∧ w'.cell? ⟨B, 1, none⟩ = some (.int .i64 r) ∧ w'.cell? ⟨B, 2, none⟩ = some (.int .i64 y.Kind) ∧ w'.cell? ⟨B, 3, none⟩ = some (.int .i64 y.Txn) ∧ w'.cell? ⟨B, 4, none⟩ = some (.int .i64 y.Time) ∧ w'.cell? ⟨B, 5, none⟩ = some (.int .i64 y.Lead) ∧ w'.cell? ⟨B, 6, none⟩ = some (.slice none 0 0) ∧ w'.cell? ⟨B, 7, none⟩ = some (.slice none 0 0) ∧ w'.cell? ⟨B, 8, none⟩ = some (.bool y.Yes)) (by kernel_rfl) ?_
        have hS : wr.drew.cell? ⟨w2.heap.size, 0, none⟩ = some (.slice p2 n c2) ∧ wr.drew.cell? ⟨w2.heap.size, 1, none⟩ = some (.int .i64 t) ∧ wr.drew.cell? ⟨w2.heap.size, 2, none⟩ = some (.int .i64 d) ∧ wr.drew.cell? ⟨B, 0, none⟩ = some (.int .i64 (k : Int)) ∧ wr.drew.cell? ⟨B, 1, none⟩ = some (.int .i64 r) ∧ wr.drew.cell? ⟨B, 2, none⟩ = some (.int .i64 y.Kind) ∧ wr.drew.cell? ⟨B, 3, none⟩ = some (.int .i64 y.Txn) ∧ wr.drew.cell? ⟨B, 4, none⟩ = some (.int .i64 y.Time) ∧ wr.drew.cell? ⟨B, 5, none⟩ = some (.int .i64 y.Lead) ∧ wr.drew.cell? ⟨B, 6, none⟩ = some (.slice none 0 0) ∧ wr.drew.cell? ⟨B, 7, none⟩ = some (.slice none 0 0) ∧ wr.drew.cell? ⟨B, 8, none⟩ = some (.bool y.Yes) := ⟨q0, q1, q2, d0, d1, d2, d3, d4, d5, d6, d7, d8⟩
        refine d_takeY (v := ?_) 1 rfl (by kernel_rfl) (fun _ _ _ h => h) (Or.inl ⟨by rfl, ?_⟩) hS ?_
        rotate_left
        · intro wx _
          first | (go_simp; done) | (go_simp; with_reducible rfl)
        simp only [Act.put, List.setIfInBounds_toArray, List.set_cons_zero, List.set_cons_succ]
        refine d_takeY (v := ?_) 2 rfl (by kernel_rfl) (fun _ _ _ h => h) (Or.inl ⟨by rfl, ?_⟩) hS ?_
        rotate_left
        · intro wx _
          first | (go_simp; done) | (go_simp; with_reducible rfl)
        simp only [Act.put, List.setIfInBounds_toArray, List.set_cons_zero, List.set_cons_succ]
        refine d_takeY (v := ?_) 3 rfl (by kernel_rfl) (fun _ _ _ h => h) (Or.inl ⟨by rfl, ?_⟩) hS ?_
        rotate_left
        · intro wx _
          first | (go_simp; done) | (go_simp; with_reducible rfl)
        simp only [Act.put, List.setIfInBounds_toArray, List.set_cons_zero, List.set_cons_succ]
        refine d_take (f := 30) (v := ?_) 0 rfl (by kernel_rfl) (fun _ _ _ h => h) (Or.inl ⟨by rfl, ?_⟩) hS ?_
        rotate_left
        · intro wx hx
          obtain ⟨x0, x1, x2, x3, x4, x5, x6, x7, x8, x9, x10, x11⟩ := hx
          first | (go_simp; done) | (go_simp; with_reducible rfl)
        simp only [Act.put, List.setIfInBounds_toArray, List.set_cons_zero, List.set_cons_succ]
        refine d_take (f := 30) (v := ?_) 4 rfl (by kernel_rfl) (fun _ _ _ h => h) (Or.inl ⟨by rfl, ?_⟩) hS ?_
        rotate_left
        · intro wx hx
          obtain ⟨x0, x1, x2, x3, x4, x5, x6, x7, x8, x9, x10, x11⟩ := hx
          first | (go_simp; done) | (go_simp; with_reducible rfl)
        simp only [Act.put, List.setIfInBounds_toArray, List.set_cons_zero, List.set_cons_succ]
        clear hS
        refine d_two 5 9 (by kernel_rfl) rfl rfl (fun K hK => ?_) (fun K hK => ?_)
        · skip
          go_simp
          go_at_call 43
          refine (Hd.out _ _ _ (o3.rd.below (show Below wr.heap.size wr wr.drew from by (repeat (first | (with_reducible exact Below.refl _ _) | (with_reducible refine below_setCell ?_ (by first | (simp; done) | (simp; omega) | omega)) | (with_reducible refine below_alloc _ ?_) | (with_reducible refine below_drewN ?_ _) | (with_reducible refine below_drew_step ?_) | (with_reducible assumption) | (with_reducible refine below_after (by assumption) ?_)))))).mono ?_
          rintro e w5 ⟨p5, c5, rfl, o5, k5⟩
          have m_w5 : Below wr.heap.size wr w5 := below_after k5 (show Below wr.heap.size wr wr.drew from by (repeat (first | (with_reducible exact Below.refl _ _) | (with_reducible refine below_setCell ?_ (by first | (simp; done) | (simp; omega) | omega)) | (with_reducible refine below_alloc _ ?_) | (with_reducible refine below_drewN ?_ _) | (with_reducible refine below_drew_step ?_) | (with_reducible assumption) | (with_reducible refine below_after (by assumption) ?_))))
          refine hK.out _ _ (fun _ => ⟨cell_step m_w5 q0, cell_step m_w5 q1, cell_step m_w5 q2, cell_step m_w5 d0, cell_step m_w5 d1, cell_step m_w5 d2, cell_step m_w5 d3, cell_step m_w5 d4, cell_step m_w5 d5, cell_step m_w5 d6, cell_step m_w5 d7, cell_step m_w5 d8⟩) ?_
          clear hK K
          try simp only [Act.put, List.setIfInBounds_toArray, List.set_cons_zero, List.set_cons_succ]
          have hS5 : w5.cell? ⟨w2.heap.size, 0, none⟩ = some (.slice p2 n c2) ∧ w5.cell? ⟨w2.heap.size, 1, none⟩ = some (.int .i64 t) ∧ w5.cell? ⟨w2.heap.size, 2, none⟩ = some (.int .i64 d) ∧ w5.cell? ⟨B, 0, none⟩ = some (.int .i64 (k : Int)) ∧ w5.cell? ⟨B, 1, none⟩ = some (.int .i64 r) ∧ w5.cell? ⟨B, 2, none⟩ = some (.int .i64 y.Kind) ∧ w5.cell? ⟨B, 3, none⟩ = some (.int .i64 y.Txn) ∧ w5.cell? ⟨B, 4, none⟩ = some (.int .i64 y.Time) ∧ w5.cell? ⟨B, 5, none⟩ = some (.int .i64 y.Lead) ∧ w5.cell? ⟨B, 6, none⟩ = some (.slice none 0 0) ∧ w5.cell? ⟨B, 7, none⟩ = some (.slice none 0 0) ∧ w5.cell? ⟨B, 8, none⟩ = some (.bool y.Yes) := ⟨cell_step m_w5 q0, cell_step m_w5 q1, cell_step m_w5 q2, cell_step m_w5 d0, cell_step m_w5 d1, cell_step m_w5 d2, cell_step m_w5 d3, cell_step m_w5 d4, cell_step m_w5 d5, cell_step m_w5 d6, cell_step m_w5 d7, cell_step m_w5 d8⟩
          refine d_takeY (v := ?_) 6 rfl (by kernel_rfl) (fun _ _ _ h => h) (Or.inl ⟨by rfl, ?_⟩) hS5 ?_
          rotate_left
          · intro wx _
            first | (go_simp; done) | (go_simp; with_reducible rfl)
          simp only [Act.put, List.setIfInBounds_toArray, List.set_cons_zero, List.set_cons_succ]
          refine d_takeY (v := ?_) 7 rfl (by kernel_rfl) (fun _ _ _ h => h) (Or.inl ⟨by rfl, ?_⟩) hS5 ?_
          rotate_left
          · intro wx _
            first | (go_simp; done) | (go_simp; with_reducible rfl)
          simp only [Act.put, List.setIfInBounds_toArray, List.set_cons_zero, List.set_cons_succ]
          refine d_takeY (v := ?_) 8 rfl (by kernel_rfl) (fun _ _ _ h => h) (Or.inl ⟨by rfl, ?_⟩) hS5 ?_
          rotate_left
          · intro wx _
            first | (go_simp; done) | (go_simp; with_reducible rfl)
          simp only [Act.put, List.setIfInBounds_toArray, List.set_cons_zero, List.set_cons_succ]
          clear hS5
          refine d_step 9 (by kernel_rfl) rfl (fun K hK => ?_)
          go_simp
          generalize hA : World.alloc _ _ = wA
          have m_wA : Below wr.heap.size wr wA := by rw [← hA]; exact below_alloc _ m_w5
          have hBW : w5.heap.size < wA.heap.size := by rw [← hA]; simp
          have b0 : wA.cell? ⟨w5.heap.size, 0, none⟩ = some (.slice none 0 0) := by rw [← hA]; simp [go_sem]
          have b1 : wA.cell? ⟨w5.heap.size, 1, none⟩ = some (.int .i64 0) := by rw [← hA]; simp [go_sem]
          have b2 : wA.cell? ⟨w5.heap.size, 2, none⟩ = some (.int .i64 0) := by rw [← hA]; simp [go_sem]
          have e0 : wA.frozen? ⟨w5.heap.size, 0, none⟩ = false := by rw [← hA]; simp [go_sem]
          have e1 : wA.frozen? ⟨w5.heap.size, 1, none⟩ = false := by rw [← hA]; simp [go_sem]
          have e2 : wA.frozen? ⟨w5.heap.size, 2, none⟩ = false := by rw [← hA]; simp [go_sem]
          have o6 : Own Cod.replica wA wr.heap.size (.slice p5 gp.Reps.length c5) gp.Reps := (o5.mono (Nat.le_refl _)).below (show Below w5.heap.size w5 wA from by rw [← hA]; exact below_new _ _)
          have hAb : Below w5.heap.size w5 wA := by rw [← hA]; exact below_new _ _
          clear hA
          refine hK.out _ _ (fun _ => ⟨cell_step m_wA q0, cell_step m_wA q1, cell_step m_wA q2, cell_step m_wA d0, cell_step m_wA d1, cell_step m_wA d2, cell_step m_wA d3, cell_step m_wA d4, cell_step m_wA d5, cell_step m_wA d6, cell_step m_wA d7, cell_step m_wA d8⟩) ?_
          clear hK K
          try simp only [Act.put, List.setIfInBounds_toArray, List.set_cons_zero, List.set_cons_succ]
          have hlo := m_w5.size
          refine d_step 10 (by kernel_rfl) rfl (fun K hK => ?_)
          go_simp
          refine hK.out _ _ (fun h => by exact absurd h (by decide)) ?_
          clear hK K
          try simp only [Act.put, List.setIfInBounds_toArray, List.set_cons_zero, List.set_cons_succ]
          refine d_step 11 (by kernel_rfl) rfl (fun K hK => ?_)
          go_simp
          refine hK.out _ _ (fun h => by exact absurd h (by decide)) ?_
          clear hK K
          refine d_done (by kernel_rfl) ?_ _
          try simp only [Act.put, List.setIfInBounds_toArray, List.set_cons_zero, List.set_cons_succ]
          go_wp2_with fail
          go_meet
          exact ⟨_, p5, c5, rfl, rfl, ⟨hlo, by simp; omega⟩, by simp [go_sem, b0, b1, b2], by simp [go_sem, b0, b1, b2], by simp [go_sem, b0, b1, b2], Lib.hid (((o5.below (show Below w5.heap.size w5 _ from by (repeat (first | (with_reducible exact Below.refl _ _) | (with_reducible refine below_setCell ?_ (by first | (simp; done) | (simp; omega) | omega)) | (with_reducible refine below_alloc _ ?_) | (with_reducible refine below_drewN ?_ _) | (with_reducible assumption) | (with_reducible refine below_after (by assumption) ?_))))).mono (Nat.le_refl _))), by (repeat (first | (with_reducible exact Below.refl _ _) | (with_reducible refine below_setCell ?_ (by first | (simp; done) | (simp; omega) | omega)) | (with_reducible refine below_alloc _ ?_) | (with_reducible refine below_drewN ?_ _) | (with_reducible assumption) | (with_reducible refine below_after (by assumption) ?_)))⟩
        · skip
          go_simp
          generalize hA : World.drew (World.alloc _ _) = wA
          have m_wA : Below wr.heap.size wr wA := by rw [← hA]; (repeat (first | (with_reducible exact Below.refl _ _) | (with_reducible refine below_setCell ?_ (by first | (simp; done) | (simp; omega) | omega)) | (with_reducible refine below_alloc _ ?_) | (with_reducible refine below_drewN ?_ _) | (with_reducible refine below_drew_step ?_) | (with_reducible assumption) | (with_reducible refine below_after (by assumption) ?_)))
          have hBW : wr.heap.size < wA.heap.size := by rw [← hA]; simp
          have b0 : wA.cell? ⟨wr.heap.size, 0, none⟩ = some (.slice none 0 0) := by rw [← hA]; simp [go_sem]
          have b1 : wA.cell? ⟨wr.heap.size, 1, none⟩ = some (.int .i64 0) := by rw [← hA]; simp [go_sem]
          have b2 : wA.cell? ⟨wr.heap.size, 2, none⟩ = some (.int .i64 0) := by rw [← hA]; simp [go_sem]
          have e0 : wA.frozen? ⟨wr.heap.size, 0, none⟩ = false := by rw [← hA]; simp [go_sem]
          have e1 : wA.frozen? ⟨wr.heap.size, 1, none⟩ = false := by rw [← hA]; simp [go_sem]
          have e2 : wA.frozen? ⟨wr.heap.size, 2, none⟩ = false := by rw [← hA]; simp [go_sem]
          clear hA
          refine hK.out _ _ (fun _ => ⟨cell_step m_wA q0, cell_step m_wA q1, cell_step m_wA q2, cell_step m_wA d0, cell_step m_wA d1, cell_step m_wA d2, cell_step m_wA d3, cell_step m_wA d4, cell_step m_wA d5, cell_step m_wA d6, cell_step m_wA d7, cell_step m_wA d8⟩) ?_
          clear hK K
          try simp only [Act.put, List.setIfInBounds_toArray, List.set_cons_zero, List.set_cons_succ]
          refine d_step 5 (by kernel_rfl) rfl (fun K hK => ?_)
          go_simp
          go_at_call 43
          refine (Hd.out _ _ _ (o3.rd.below m_wA)).mono ?_
          rintro e w5 ⟨p5, c5, rfl, o5, k5⟩
          have m_w5 : Below wr.heap.size wr w5 := below_after k5 m_wA
          replace b0 := cell_step k5 b0
          replace b1 := cell_step k5 b1
          replace b2 := cell_step k5 b2
          replace e0 : w5.frozen? ⟨wr.heap.size, 0, none⟩ = false := (k5.frozen (p := ⟨wr.heap.size, 0, none⟩) hBW).trans e0
          replace e1 : w5.frozen? ⟨wr.heap.size, 1, none⟩ = false := (k5.frozen (p := ⟨wr.heap.size, 1, none⟩) hBW).trans e1
          replace e2 : w5.frozen? ⟨wr.heap.size, 2, none⟩ = false := (k5.frozen (p := ⟨wr.heap.size, 2, none⟩) hBW).trans e2
          have hOB := hBW
          replace hBW := Nat.lt_of_lt_of_le hBW k5.size
          refine hK.out _ _ (fun _ => ⟨cell_step m_w5 q0, cell_step m_w5 q1, cell_step m_w5 q2, cell_step m_w5 d0, cell_step m_w5 d1, cell_step m_w5 d2, cell_step m_w5 d3, cell_step m_w5 d4, cell_step m_w5 d5, cell_step m_w5 d6, cell_step m_w5 d7, cell_step m_w5 d8⟩) ?_
          clear hK K
          try simp only [Act.put, List.setIfInBounds_toArray, List.set_cons_zero, List.set_cons_succ]
          have hS5 : w5.cell? ⟨w2.heap.size, 0, none⟩ = some (.slice p2 n c2) ∧ w5.cell? ⟨w2.heap.size, 1, none⟩ = some (.int .i64 t) ∧ w5.cell? ⟨w2.heap.size, 2, none⟩ = some (.int .i64 d) ∧ w5.cell? ⟨B, 0, none⟩ = some (.int .i64 (k : Int)) ∧ w5.cell? ⟨B, 1, none⟩ = some (.int .i64 r) ∧ w5.cell? ⟨B, 2, none⟩ = some (.int .i64 y.Kind) ∧ w5.cell? ⟨B, 3, none⟩ = some (.int .i64 y.Txn) ∧ w5.cell? ⟨B, 4, none⟩ = some (.int .i64 y.Time) ∧ w5.cell? ⟨B, 5, none⟩ = some (.int .i64 y.Lead) ∧ w5.cell? ⟨B, 6, none⟩ = some (.slice none 0 0) ∧ w5.cell? ⟨B, 7, none⟩ = some (.slice none 0 0) ∧ w5.cell? ⟨B, 8, none⟩ = some (.bool y.Yes) := ⟨cell_step m_w5 q0, cell_step m_w5 q1, cell_step m_w5 q2, cell_step m_w5 d0, cell_step m_w5 d1, cell_step m_w5 d2, cell_step m_w5 d3, cell_step m_w5 d4, cell_step m_w5 d5, cell_step m_w5 d6, cell_step m_w5 d7, cell_step m_w5 d8⟩
          refine d_takeY (v := ?_) 6 rfl (by kernel_rfl) (fun _ _ _ h => h) (Or.inl ⟨by rfl, ?_⟩) hS5 ?_
          rotate_left
          · intro wx _
            first | (go_simp; done) | (go_simp; with_reducible rfl)
          simp only [Act.put, List.setIfInBounds_toArray, List.set_cons_zero, List.set_cons_succ]
          refine d_takeY (v := ?_) 7 rfl (by kernel_rfl) (fun _ _ _ h => h) (Or.inl ⟨by rfl, ?_⟩) hS5 ?_
          rotate_left
          · intro wx _
            first | (go_simp; done) | (go_simp; with_reducible rfl)
          simp only [Act.put, List.setIfInBounds_toArray, List.set_cons_zero, List.set_cons_succ]
          refine d_takeY (v := ?_) 8 rfl (by kernel_rfl) (fun _ _ _ h => h) (Or.inl ⟨by rfl, ?_⟩) hS5 ?_
          rotate_left
          · intro wx _
            first | (go_simp; done) | (go_simp; with_reducible rfl)
          simp only [Act.put, List.setIfInBounds_toArray, List.set_cons_zero, List.set_cons_succ]
          clear hS5
          refine d_step 10 (by kernel_rfl) rfl (fun K hK => ?_)
          go_simp
          refine hK.out _ _ (fun h => by exact absurd h (by decide)) ?_
          clear hK K
          try simp only [Act.put, List.setIfInBounds_toArray, List.set_cons_zero, List.set_cons_succ]
          refine d_step 11 (by kernel_rfl) rfl (fun K hK => ?_)
          go_simp
          refine hK.out _ _ (fun h => by exact absurd h (by decide)) ?_
          clear hK K
          refine d_done (by kernel_rfl) ?_ _
          try simp only [Act.put, List.setIfInBounds_toArray, List.set_cons_zero, List.set_cons_succ]
          go_wp2_with fail
          go_meet
          exact ⟨_, p5, c5, rfl, rfl, ⟨Nat.le_refl _, by simp; omega⟩, by simp [go_sem, b0, b1, b2], by simp [go_sem, b0, b1, b2], by simp [go_sem, b0, b1, b2], Lib.hid (((o5.keep (Nat.le_refl _) (by (repeat (first | (with_reducible exact Keep.refl _ _) | (with_reducible refine keep_set ?_ (by first | (simp; done) | (simp; omega) | omega)) | (with_reducible refine keep_alloc _ ?_) | (with_reducible refine keep_drewN ?_ _) | (with_reducible assumption) | (with_reducible refine keep_below (by assumption) ?_))))).mono m_wA.size)), by (repeat (first | (with_reducible exact Below.refl _ _) | (with_reducible refine below_setCell ?_ (by first | (simp; done) | (simp; omega) | omega)) | (with_reducible refine below_alloc _ ?_) | (with_reducible refine below_drewN ?_ _) | (with_reducible assumption) | (with_reducible refine below_after (by assumption) ?_)))⟩
      case rest =>
        obtain ⟨B5, p5, c5, rfl, rfl, ⟨hlo, hhi⟩, f0, f1, f2, O6, m6⟩ := hcut
        have o6 := O6.out
        have b6 : Below w.heap.size w wc := below_after m6 br
        replace q0 := cell_step m6 q0
        replace q1 := cell_step m6 q1
        replace q2 := cell_step m6 q2
        replace r0 := cell_step m6 r0
        replace r1 := cell_step m6 r1
        replace r2 := cell_step m6 r2
        replace x0 : wc.frozen? ⟨w2.heap.size, 0, none⟩ = false := (m6.frozen (p := ⟨w2.heap.size, 0, none⟩) zx).trans x0
        replace x1 : wc.frozen? ⟨w2.heap.size, 1, none⟩ = false := (m6.frozen (p := ⟨w2.heap.size, 1, none⟩) zx).trans x1
        replace x2 : wc.frozen? ⟨w2.heap.size, 2, none⟩ = false := (m6.frozen (p := ⟨w2.heap.size, 2, none⟩) zx).trans x2
        replace g0 : wc.frozen? ⟨w.heap.size + 1, 0, none⟩ = false := (m6.frozen (p := ⟨w.heap.size + 1, 0, none⟩) (show w.heap.size + 1 < wr.heap.size from by omega)).trans g0
        replace g1 : wc.frozen? ⟨w.heap.size + 1, 1, none⟩ = false := (m6.frozen (p := ⟨w.heap.size + 1, 1, none⟩) (show w.heap.size + 1 < wr.heap.size from by omega)).trans g1
        replace g2 : wc.frozen? ⟨w.heap.size + 1, 2, none⟩ = false := (m6.frozen (p := ⟨w.heap.size + 1, 2, none⟩) (show w.heap.size + 1 < wr.heap.size from by omega)).trans g2
        have zr : w2.heap.size < wr.heap.size := zx
        have hne : w2.heap.size ≠ B5 := by omega
        replace zx := Nat.lt_of_lt_of_le zx m6.size
        replace o3 := o3.below m6
        clear m6 O6
        cases q
        · go_wp2
          go_roundw
          case rel =>
            refine ⟨1, by go_num, Nat.le_refl _, ⟨p2, c2, ?_⟩, ⟨x0, x1, x2⟩, ⟨r0, r1, r2⟩, ⟨g0, g1, g2⟩, zx, b6⟩
            rw [HGp.out]
            dsimp only [cond_false]
            rw [Hn.out]
            exact ⟨q0, q1, q2, o3⟩
          case measure => simp [intOf]
        · obtain rfl := Hgp.out rfl
          go_upto_region 6 with fail
          generalize hw7 : World.setCell _ _ _ = w7
          have n0 : w7.cell? ⟨w2.heap.size, 0, none⟩ = some (.slice p5 gp.Reps.length c5) := by rw [← hw7]; simp [go_sem, q0, q1, q2]
          have n1 : w7.cell? ⟨w2.heap.size, 1, none⟩ = some (.int .i64 gp.Term) := by rw [← hw7]; simp [go_sem, q0, q1, q2]
          have n2 : w7.cell? ⟨w2.heap.size, 2, none⟩ = some (.int .i64 gp.Lead) := by rw [← hw7]; simp [go_sem, q0, q1, q2]
          have ot : ∀ b i, b ≠ w2.heap.size → w7.cell? ⟨b, i, none⟩ = wc.cell? ⟨b, i, none⟩ := fun b i hb => by
            rw [← hw7, World.cell?_setCell_other _ _ _ _ (fun e => hb (congrArg Addr.block e).symm), World.cell?_setCell_other _ _ _ _ (fun e => hb (congrArg Addr.block e).symm), World.cell?_setCell_other _ _ _ _ (fun e => hb (congrArg Addr.block e).symm)]
          rw [← ot _ _ (show w.heap.size + 1 ≠ w2.heap.size from by omega)] at r0 r1 r2
          have of : ∀ p, w7.frozen? p = wc.frozen? p := fun p => by rw [← hw7]; simp only [World.frozen?_setCell]
          rw [← of] at g0 g1 g2 x0 x1 x2
          have z7 : w2.heap.size < w7.heap.size := by rw [← hw7]; simp; exact zx
          have b7 : Below w.heap.size w w7 := by rw [← hw7]; (repeat (first | (with_reducible exact Below.refl _ _) | (with_reducible refine below_setCell ?_ (by first | (simp; done) | (simp; omega) | omega)) | (with_reducible refine below_alloc _ ?_) | (with_reducible refine below_drewN ?_ _) | (with_reducible assumption) | (with_reducible refine below_after (by assumption) ?_)))
          have o7 : Own Cod.replica w7 (w.heap.size + 2) (.slice p5 gp.Reps.length c5) gp.Reps := (o6.keep (Nat.le_refl _) (show Keep wr.heap.size wc w7 from by rw [← hw7]; (repeat (first | (with_reducible exact Keep.refl _ _) | (with_reducible refine keep_set ?_ (by first | (simp; done) | (simp; omega) | omega)) | (with_reducible refine keep_alloc _ ?_) | (with_reducible refine keep_drewN ?_ _) | (with_reducible assumption) | (with_reducible refine keep_below (by assumption) ?_))))).mono (by omega)
          clear hw7 ot of
          go_wp2
          go_roundw
          case rel =>
            refine ⟨1, by go_num, Nat.le_refl _, ⟨p5, c5, ?_⟩, ⟨x0, x1, x2⟩, ⟨r0, r1, r2⟩, ⟨g0, g1, g2⟩, z7, b7⟩
            rw [HGp.out]
            dsimp only [cond_true]
            exact ⟨n0, n1, n2, o7⟩
          case measure => simp [intOf]

    · obtain ⟨G1, hG1⟩ : ∃ G1, G 1 = G1 := ⟨_, rfl⟩
      have HG1 := Lib.hid hG1
      rw [hG1] at q0 q1 q2 o3
      clear hG1
      go_wp2
      refine bodyPost_ret (v := .tuple #[.agg #[.slice p2 G1.Reps.length c2, .int .i64 G1.Term, .int .i64 G1.Lead], .bool true]) (by simp [results, Try.results21, go_sem, r0, r1, r2]) rfl ⟨p2, c2, by rw [HG1.out], ?_, by (repeat (first | (with_reducible exact Below.refl _ _) | (with_reducible refine below_setCell ?_ (by first | (simp; done) | (simp; omega) | omega)) | (with_reducible refine below_alloc _ ?_) | (with_reducible refine below_drewN ?_ _) | (with_reducible assumption) | (with_reducible refine below_after (by assumption) ?_)))⟩
      rw [HG1.out]
      exact (o3.keep (Nat.le_refl _) (show Keep (w.heap.size + 2) wr _ from by (repeat (first | (with_reducible exact Keep.refl _ _) | (with_reducible refine keep_set ?_ (by first | (simp; done) | (simp; omega) | omega)) | (with_reducible refine keep_alloc _ ?_) | (with_reducible refine keep_drewN ?_ _) | (with_reducible assumption) | (with_reducible refine keep_below (by assumption) ?_))))).mono (by omega)

end Go.Proofs.Ytfaefjdlfjhniaa
