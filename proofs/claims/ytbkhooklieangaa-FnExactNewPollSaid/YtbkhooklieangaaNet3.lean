/- NewNet, both. Printed by mknet.py. -/
import Derived.Test.YtbkhooklieangaaNet2
import Derived.Test.YtbkhooklieangaaCloneInt
import Derived.Test.YtbkhooklieangaaRowd
namespace Go.Proofs.Ytbkhooklieangaa
open Go.RowKit

/-- Four cells stored, one after another. -/
theorem set4 {W : World} {B : Nat} {x0 x1 x2 x3 : Value} (u0 u1 u2 u3 : Value) (h0 : W.cell? ⟨B, 0, none⟩ = some x0) (h1 : W.cell? ⟨B, 1, none⟩ = some x1) (h2 : W.cell? ⟨B, 2, none⟩ = some x2) (h3 : W.cell? ⟨B, 3, none⟩ = some x3) :
    (((((W).setCell ⟨B, 0, none⟩ (u0)).setCell ⟨B, 1, none⟩ (u1)).setCell ⟨B, 2, none⟩ (u2)).setCell ⟨B, 3, none⟩ (u3)).cell? ⟨B, 0, none⟩ = some u0 ∧ (((((W).setCell ⟨B, 0, none⟩ (u0)).setCell ⟨B, 1, none⟩ (u1)).setCell ⟨B, 2, none⟩ (u2)).setCell ⟨B, 3, none⟩ (u3)).cell? ⟨B, 1, none⟩ = some u1 ∧ (((((W).setCell ⟨B, 0, none⟩ (u0)).setCell ⟨B, 1, none⟩ (u1)).setCell ⟨B, 2, none⟩ (u2)).setCell ⟨B, 3, none⟩ (u3)).cell? ⟨B, 2, none⟩ = some u2 ∧ (((((W).setCell ⟨B, 0, none⟩ (u0)).setCell ⟨B, 1, none⟩ (u1)).setCell ⟨B, 2, none⟩ (u2)).setCell ⟨B, 3, none⟩ (u3)).cell? ⟨B, 3, none⟩ = some u3 := by
  have o := fun (V : World) (i j : Nat) (u : Value) (h : i ≠ j) => World.cell?_setCell_other V ⟨B, i, none⟩ ⟨B, j, none⟩ u (fun e => h (by injection e))
  refine ⟨?_, ?_, ?_, ?_⟩
  · exact (o _ 3 0 _ (by decide)).trans ((o _ 2 0 _ (by decide)).trans ((o _ 1 0 _ (by decide)).trans (World.cell?_setCell_same _ _ _ h0)))
  · exact (o _ 3 1 _ (by decide)).trans ((o _ 2 1 _ (by decide)).trans (World.cell?_setCell_same _ _ _ ((o _ 0 1 _ (by decide)).trans h1)))
  · exact (o _ 3 2 _ (by decide)).trans (World.cell?_setCell_same _ _ _ ((o _ 1 2 _ (by decide)).trans ((o _ 0 2 _ (by decide)).trans h2)))
  · exact World.cell?_setCell_same _ _ _ ((o _ 2 3 _ (by decide)).trans ((o _ 1 3 _ (by decide)).trans ((o _ 0 3 _ (by decide)).trans h3)))

/-- What NewNet hands back. -/
def NetRes (l : List Int) (far : Int) (q : Bool) (base : Nat) (e : Ending) (w' : World) : Prop :=
  ∃ p n c, e = .returned (.tuple #[.agg #[.int .i64 0, .slice p n c, .int .i64 (pickI q far), .slice none 0 0], .bool q]) ∧ Own Cod.int w' base (.slice p n c) (pickL q l)

set_option maxRecDepth 100000 in
set_option maxHeartbeats 1600000 in
/-- impl.NewNet -/
theorem newNet_any (v : Value) (l : List Int) (far : Int) (hl : l.length ≤ 1048576) (w : World) (h : Rd Cod.int w v l) :
    Calls Try.prog 35 #[v, .int .i64 far] w fun e w' => NetRes l far (homesB l far) w.heap.size e w' ∧ Below w.heap.size w w' := by
  have Hh := Lib.hid (fun (W : World) (b : Below w.heap.size w W) => areHomes_any v l far hl W (h.below b))
  have Hc := Lib.hid (fun (W : World) (b : Below w.heap.size w W) => cloneInt_any v l hl W (h.below b))
  obtain ⟨p, c, rfl, -⟩ := h.form
  clear h
  unfold NetRes
  generalize homesB l far = q at *
  generalize l.length = n at *
  cases q
  · go_enter Try.func35, Try.ntmps35
    go_wp2_with fail
    refine (Hh.out _ (by (repeat (first | (with_reducible exact Below.refl _ _) | (with_reducible refine below_setCell ?_ (by first | (simp; done) | (simp; omega) | omega)) | (with_reducible refine below_alloc _ ?_) | (with_reducible refine below_drewN ?_ _) | (with_reducible assumption) | (with_reducible refine below_after (by assumption) ?_))))).mono ?_
    rintro e w1 ⟨rfl, k1⟩
    have g0 : w1.cell? ⟨w.heap.size, 0, none⟩ = some (.int .i64 0) := by rw [(bcell k1).1 _ _ (by first | (simp; done) | (simp; omega))]; simp [go_sem]
    have y0 : w1.frozen? ⟨w.heap.size, 0, none⟩ = false := by rw [(bcell k1).2 _ _ (by first | (simp; done) | (simp; omega))]; simp [go_sem]
    have g1 : w1.cell? ⟨w.heap.size, 1, none⟩ = some (.slice none 0 0) := by rw [(bcell k1).1 _ _ (by first | (simp; done) | (simp; omega))]; simp [go_sem]
    have y1 : w1.frozen? ⟨w.heap.size, 1, none⟩ = false := by rw [(bcell k1).2 _ _ (by first | (simp; done) | (simp; omega))]; simp [go_sem]
    have g2 : w1.cell? ⟨w.heap.size, 2, none⟩ = some (.int .i64 0) := by rw [(bcell k1).1 _ _ (by first | (simp; done) | (simp; omega))]; simp [go_sem]
    have y2 : w1.frozen? ⟨w.heap.size, 2, none⟩ = false := by rw [(bcell k1).2 _ _ (by first | (simp; done) | (simp; omega))]; simp [go_sem]
    have g3 : w1.cell? ⟨w.heap.size, 3, none⟩ = some (.slice none 0 0) := by rw [(bcell k1).1 _ _ (by first | (simp; done) | (simp; omega))]; simp [go_sem]
    have y3 : w1.frozen? ⟨w.heap.size, 3, none⟩ = false := by rw [(bcell k1).2 _ _ (by first | (simp; done) | (simp; omega))]; simp [go_sem]
    have b1 : Below w.heap.size w w1 := below_after k1 (by (repeat (first | (with_reducible exact Below.refl _ _) | (with_reducible refine below_setCell ?_ (by first | (simp; done) | (simp; omega) | omega)) | (with_reducible refine below_alloc _ ?_) | (with_reducible refine below_drewN ?_ _) | (with_reducible assumption) | (with_reducible refine below_after (by assumption) ?_))))
    clear k1
    have HE := Lib.hid (set4 (.int .i64 0) (.slice none 0 0) (.int .i64 0) (.slice none 0 0) g0 g1 g2 g3)
    have hB : Below w.heap.size w (((((w1).setCell ⟨w.heap.size, 0, none⟩ (.int .i64 0)).setCell ⟨w.heap.size, 1, none⟩ (.slice none 0 0)).setCell ⟨w.heap.size, 2, none⟩ (.int .i64 0)).setCell ⟨w.heap.size, 3, none⟩ (.slice none 0 0)) := below_setCell (below_setCell (below_setCell (below_setCell b1 (Nat.le_refl _)) (Nat.le_refl _)) (Nat.le_refl _)) (Nat.le_refl _)
    skip
    go_wp2
    have h4 := HE.out
    clear HE
    generalize (((((w1).setCell ⟨w.heap.size, 0, none⟩ (.int .i64 0)).setCell ⟨w.heap.size, 1, none⟩ (.slice none 0 0)).setCell ⟨w.heap.size, 2, none⟩ (.int .i64 0)).setCell ⟨w.heap.size, 3, none⟩ (.slice none 0 0)) = W2 at *
    obtain ⟨s0, s1, s2, s3⟩ := h4
    exact bodyPost_ret (v := .tuple #[.agg #[.int .i64 0, .slice none 0 0, .int .i64 0, .slice none 0 0], .bool false]) (by simp [results, Try.results35, go_sem, s0, s1, s2, s3]) rfl ⟨⟨_, _, _, rfl, ⟨[], ⟨none, 0, rfl, Nat.le_refl _, Nat.zero_le _, fun _ => rfl, Or.inl ⟨rfl, rfl⟩⟩, Mine.nil _ _⟩⟩, hB⟩
  · go_enter Try.func35, Try.ntmps35
    go_wp2_with fail
    refine (Hh.out _ (by (repeat (first | (with_reducible exact Below.refl _ _) | (with_reducible refine below_setCell ?_ (by first | (simp; done) | (simp; omega) | omega)) | (with_reducible refine below_alloc _ ?_) | (with_reducible refine below_drewN ?_ _) | (with_reducible assumption) | (with_reducible refine below_after (by assumption) ?_))))).mono ?_
    rintro e w1 ⟨rfl, k1⟩
    have r0 : w1.cell? ⟨w.heap.size, 0, none⟩ = some (.int .i64 0) := by rw [(bcell k1).1 _ _ (by first | (simp; done) | (simp; omega))]; simp [go_sem]
    have x0 : w1.frozen? ⟨w.heap.size, 0, none⟩ = false := by rw [(bcell k1).2 _ _ (by first | (simp; done) | (simp; omega))]; simp [go_sem]
    have r1 : w1.cell? ⟨w.heap.size, 1, none⟩ = some (.slice none 0 0) := by rw [(bcell k1).1 _ _ (by first | (simp; done) | (simp; omega))]; simp [go_sem]
    have x1 : w1.frozen? ⟨w.heap.size, 1, none⟩ = false := by rw [(bcell k1).2 _ _ (by first | (simp; done) | (simp; omega))]; simp [go_sem]
    have r2 : w1.cell? ⟨w.heap.size, 2, none⟩ = some (.int .i64 0) := by rw [(bcell k1).1 _ _ (by first | (simp; done) | (simp; omega))]; simp [go_sem]
    have x2 : w1.frozen? ⟨w.heap.size, 2, none⟩ = false := by rw [(bcell k1).2 _ _ (by first | (simp; done) | (simp; omega))]; simp [go_sem]
    have r3 : w1.cell? ⟨w.heap.size, 3, none⟩ = some (.slice none 0 0) := by rw [(bcell k1).1 _ _ (by first | (simp; done) | (simp; omega))]; simp [go_sem]
    have x3 : w1.frozen? ⟨w.heap.size, 3, none⟩ = false := by rw [(bcell k1).2 _ _ (by first | (simp; done) | (simp; omega))]; simp [go_sem]
    have b1 : Below w.heap.size w w1 := below_after k1 (by (repeat (first | (with_reducible exact Below.refl _ _) | (with_reducible refine below_setCell ?_ (by first | (simp; done) | (simp; omega) | omega)) | (with_reducible refine below_alloc _ ?_) | (with_reducible refine below_drewN ?_ _) | (with_reducible assumption) | (with_reducible refine below_after (by assumption) ?_))))
    have hq1 : w.heap.size < w1.heap.size := by have := k1.size; simp at this; omega
    clear k1
    go_wp2_with fail
    refine (Hc.out _ (by (repeat (first | (with_reducible exact Below.refl _ _) | (with_reducible refine below_setCell ?_ (by first | (simp; done) | (simp; omega) | omega)) | (with_reducible refine below_alloc _ ?_) | (with_reducible refine below_drewN ?_ _) | (with_reducible assumption) | (with_reducible refine below_after (by assumption) ?_))))).mono ?_
    rintro e w2 ⟨v', rfl, o2, k2⟩
    obtain ⟨p', c', rfl⟩ := o2.form
    obtain ⟨n', hn'⟩ : ∃ n', (pickL true l).length = n' := ⟨_, rfl⟩
    replace hn' : l.length = n' := hn'
    rw [hn'] at o2
    rw [hn']
    clear hn'
    have g0 := cell_step k2 r0
    have y0 := frozen_step k2 r0 x0
    have g1 := cell_step k2 r1
    have y1 := frozen_step k2 r1 x1
    have g2 := cell_step k2 r2
    have y2 := frozen_step k2 r2 x2
    have g3 := cell_step k2 r3
    have y3 := frozen_step k2 r3 x3
    have b2 : Below w.heap.size w w2 := below_after k2 (by (repeat (first | (with_reducible exact Below.refl _ _) | (with_reducible refine below_setCell ?_ (by first | (simp; done) | (simp; omega) | omega)) | (with_reducible refine below_alloc _ ?_) | (with_reducible refine below_drewN ?_ _) | (with_reducible assumption) | (with_reducible refine below_after (by assumption) ?_))))
    have O2 := Lib.hid o2
    clear o2 r0 x0 r1 x1 r2 x2 r3 x3
    have HE := Lib.hid (set4 (.int .i64 0) (.slice p' n' c') (.int .i64 far) (.slice none 0 0) g0 g1 g2 g3)
    have hB : Below w.heap.size w (((((w2).setCell ⟨w.heap.size, 0, none⟩ (.int .i64 0)).setCell ⟨w.heap.size, 1, none⟩ (.slice p' n' c')).setCell ⟨w.heap.size, 2, none⟩ (.int .i64 far)).setCell ⟨w.heap.size, 3, none⟩ (.slice none 0 0)) := below_setCell (below_setCell (below_setCell (below_setCell b2 (Nat.le_refl _)) (Nat.le_refl _)) (Nat.le_refl _)) (Nat.le_refl _)
    have HO : Hid (∀ W, Keep (w.heap.size + 1) w2 W → Own Cod.int W w.heap.size (.slice p' n' c') l) := Lib.hid fun W kk => ((O2.out.mono (base' := w.heap.size + 1) (by omega)).keep (Nat.le_refl _) kk).mono (Nat.le_succ _)
    have HO2 := Lib.hid (HO.out _ (show Keep (w.heap.size + 1) w2 (((((w2).setCell ⟨w.heap.size, 0, none⟩ (.int .i64 0)).setCell ⟨w.heap.size, 1, none⟩ (.slice p' n' c')).setCell ⟨w.heap.size, 2, none⟩ (.int .i64 far)).setCell ⟨w.heap.size, 3, none⟩ (.slice none 0 0)) from by (repeat (first | (with_reducible exact Keep.refl _ _) | (with_reducible refine keep_set ?_ (by first | (simp; done) | (simp; omega) | omega)) | (with_reducible refine keep_alloc _ ?_) | (with_reducible refine keep_drewN ?_ _) | (with_reducible assumption) | (with_reducible refine keep_below (by assumption) ?_)))))
    clear HO
    go_wp2
    have h4 := HE.out
    clear HE
    generalize (((((w2).setCell ⟨w.heap.size, 0, none⟩ (.int .i64 0)).setCell ⟨w.heap.size, 1, none⟩ (.slice p' n' c')).setCell ⟨w.heap.size, 2, none⟩ (.int .i64 far)).setCell ⟨w.heap.size, 3, none⟩ (.slice none 0 0)) = W2 at *
    obtain ⟨s0, s1, s2, s3⟩ := h4
    exact bodyPost_ret (v := .tuple #[.agg #[.int .i64 0, .slice p' n' c', .int .i64 far, .slice none 0 0], .bool true]) (by simp [results, Try.results35, go_sem, s0, s1, s2, s3]) rfl ⟨⟨_, _, _, rfl, HO2.out⟩, hB⟩

set_option maxRecDepth 100000 in
set_option maxHeartbeats 1600000 in
/-- spec.NewNet -/
theorem newNetS_any (v : Value) (l : List Int) (far : Int) (hl : l.length ≤ 1048576) (w : World) (h : Rd Cod.int w v l) :
    Calls Try.prog 34 #[v, .int .i64 far] w fun e w' => NetRes l far (homesB l far) w.heap.size e w' ∧ Below w.heap.size w w' := by
  have Hc := Lib.hid (fun (W : World) (b : Below w.heap.size w W) => l1Own_any v l hl W (h.below b))
  have Hg := Lib.hid (fun (a : Value) (W : World) r => l7Good_any a l far hl W r)
  obtain ⟨p, c, rfl, -⟩ := h.form
  clear h
  unfold NetRes
  generalize homesB l far = q at *
  generalize hln : l.length = n at *
  have Hln := Lib.hid hln
  clear hln
  cases q
  all_goals
    go_enter Try.func34, Try.ntmps34
    go_wp2_with fail
    refine (Hc.out _ (by (repeat (first | (with_reducible exact Below.refl _ _) | (with_reducible refine below_setCell ?_ (by first | (simp; done) | (simp; omega) | omega)) | (with_reducible refine below_alloc _ ?_) | (with_reducible refine below_drewN ?_ _) | (with_reducible assumption) | (with_reducible refine below_after (by assumption) ?_))))).mono ?_
    rintro e w1 ⟨v', rfl, o1, k1⟩
    obtain ⟨p', c', rfl⟩ := o1.form
    rw [Hln.out] at o1
    rw [Hln.out]
    have r0 : w1.cell? ⟨w.heap.size, 0, none⟩ = some (.int .i64 0) := by rw [(bcell k1).1 _ _ (by first | (simp; done) | (simp; omega))]; simp [go_sem]
    have x0 : w1.frozen? ⟨w.heap.size, 0, none⟩ = false := by rw [(bcell k1).2 _ _ (by first | (simp; done) | (simp; omega))]; simp [go_sem]
    have r1 : w1.cell? ⟨w.heap.size, 1, none⟩ = some (.slice none 0 0) := by rw [(bcell k1).1 _ _ (by first | (simp; done) | (simp; omega))]; simp [go_sem]
    have x1 : w1.frozen? ⟨w.heap.size, 1, none⟩ = false := by rw [(bcell k1).2 _ _ (by first | (simp; done) | (simp; omega))]; simp [go_sem]
    have r2 : w1.cell? ⟨w.heap.size, 2, none⟩ = some (.int .i64 0) := by rw [(bcell k1).1 _ _ (by first | (simp; done) | (simp; omega))]; simp [go_sem]
    have x2 : w1.frozen? ⟨w.heap.size, 2, none⟩ = false := by rw [(bcell k1).2 _ _ (by first | (simp; done) | (simp; omega))]; simp [go_sem]
    have r3 : w1.cell? ⟨w.heap.size, 3, none⟩ = some (.slice none 0 0) := by rw [(bcell k1).1 _ _ (by first | (simp; done) | (simp; omega))]; simp [go_sem]
    have x3 : w1.frozen? ⟨w.heap.size, 3, none⟩ = false := by rw [(bcell k1).2 _ _ (by first | (simp; done) | (simp; omega))]; simp [go_sem]
    have b1 : Below w.heap.size w w1 := below_after k1 (by (repeat (first | (with_reducible exact Below.refl _ _) | (with_reducible refine below_setCell ?_ (by first | (simp; done) | (simp; omega) | omega)) | (with_reducible refine below_alloc _ ?_) | (with_reducible refine below_drewN ?_ _) | (with_reducible assumption) | (with_reducible refine below_after (by assumption) ?_))))
    have hq1 : w.heap.size < w1.heap.size := by have := k1.size; simp at this; omega
    have O1 := Lib.hid o1
    clear k1 o1
    go_wp2_with fail
    refine (Hg.out _ _ (O1.out.rd.below (by (repeat (first | (with_reducible exact Below.refl _ _) | (with_reducible refine below_setCell ?_ (by first | (simp; done) | (simp; omega) | omega)) | (with_reducible refine below_alloc _ ?_) | (with_reducible refine below_drewN ?_ _) | (with_reducible assumption) | (with_reducible refine below_after (by assumption) ?_)))))).mono ?_
    rintro e w2 ⟨rfl, k2⟩
    have m2 : Below w1.heap.size w1 w2 := below_after k2 (by (repeat (first | (with_reducible exact Below.refl _ _) | (with_reducible refine below_setCell ?_ (by first | (simp; done) | (simp; omega) | omega)) | (with_reducible refine below_alloc _ ?_) | (with_reducible refine below_drewN ?_ _) | (with_reducible assumption) | (with_reducible refine below_after (by assumption) ?_))))
    have g0 := cell_step m2 r0
    have y0 := frozen_step m2 r0 x0
    have g1 := cell_step m2 r1
    have y1 := frozen_step m2 r1 x1
    have g2 := cell_step m2 r2
    have y2 := frozen_step m2 r2 x2
    have g3 := cell_step m2 r3
    have y3 := frozen_step m2 r3 x3
    have b2 : Below w.heap.size w w2 := below_after m2 b1
    have t0 : w2.cell? ⟨w1.heap.size, 0, none⟩ = some (.int .i64 0) := by rw [(bcell k2).1 _ _ (by simp)]; simp [go_sem]
    have t1 : w2.cell? ⟨w1.heap.size, 1, none⟩ = some (.slice p' n c') := by rw [(bcell k2).1 _ _ (by simp)]; simp [go_sem]
    have t2 : w2.cell? ⟨w1.heap.size, 2, none⟩ = some (.int .i64 far) := by rw [(bcell k2).1 _ _ (by simp)]; simp [go_sem]
    have t3 : w2.cell? ⟨w1.heap.size, 3, none⟩ = some (.slice none 0 0) := by rw [(bcell k2).1 _ _ (by simp)]; simp [go_sem]
    have hq2 : w1.heap.size < w2.heap.size := by have := k2.size; simp at this; omega
    have O2 := Lib.hid (O1.out.below m2)
    clear k2 m2 r0 x0 r1 x1 r2 x2 r3 x3
  · have HE := Lib.hid (set4 (.int .i64 0) (.slice none 0 0) (.int .i64 0) (.slice none 0 0) g0 g1 g2 g3)
    have hB : Below w.heap.size w (((((w2).setCell ⟨w.heap.size, 0, none⟩ (.int .i64 0)).setCell ⟨w.heap.size, 1, none⟩ (.slice none 0 0)).setCell ⟨w.heap.size, 2, none⟩ (.int .i64 0)).setCell ⟨w.heap.size, 3, none⟩ (.slice none 0 0)) := below_setCell (below_setCell (below_setCell (below_setCell b2 (Nat.le_refl _)) (Nat.le_refl _)) (Nat.le_refl _)) (Nat.le_refl _)
    skip
    go_wp2
    have h4 := HE.out
    clear HE
    generalize (((((w2).setCell ⟨w.heap.size, 0, none⟩ (.int .i64 0)).setCell ⟨w.heap.size, 1, none⟩ (.slice none 0 0)).setCell ⟨w.heap.size, 2, none⟩ (.int .i64 0)).setCell ⟨w.heap.size, 3, none⟩ (.slice none 0 0)) = W2 at *
    obtain ⟨s0, s1, s2, s3⟩ := h4
    exact bodyPost_ret (v := .tuple #[.agg #[.int .i64 0, .slice none 0 0, .int .i64 0, .slice none 0 0], .bool false]) (by simp [results, Try.results34, go_sem, s0, s1, s2, s3]) rfl ⟨⟨_, _, _, rfl, ⟨[], ⟨none, 0, rfl, Nat.le_refl _, Nat.zero_le _, fun _ => rfl, Or.inl ⟨rfl, rfl⟩⟩, Mine.nil _ _⟩⟩, hB⟩
  · have HE := Lib.hid (set4 (.int .i64 0) (.slice p' n c') (.int .i64 far) (.slice none 0 0) g0 g1 g2 g3)
    have hB : Below w.heap.size w (((((w2).setCell ⟨w.heap.size, 0, none⟩ (.int .i64 0)).setCell ⟨w.heap.size, 1, none⟩ (.slice p' n c')).setCell ⟨w.heap.size, 2, none⟩ (.int .i64 far)).setCell ⟨w.heap.size, 3, none⟩ (.slice none 0 0)) := below_setCell (below_setCell (below_setCell (below_setCell b2 (Nat.le_refl _)) (Nat.le_refl _)) (Nat.le_refl _)) (Nat.le_refl _)
    have HO : Hid (∀ W, Keep (w.heap.size + 1) w2 W → Own Cod.int W w.heap.size (.slice p' n c') l) := Lib.hid fun W kk => ((O2.out.mono (base' := w.heap.size + 1) (by simp)).keep (Nat.le_refl _) kk).mono (Nat.le_succ _)
    have HO2 := Lib.hid (HO.out _ (show Keep (w.heap.size + 1) w2 (((((w2).setCell ⟨w.heap.size, 0, none⟩ (.int .i64 0)).setCell ⟨w.heap.size, 1, none⟩ (.slice p' n c')).setCell ⟨w.heap.size, 2, none⟩ (.int .i64 far)).setCell ⟨w.heap.size, 3, none⟩ (.slice none 0 0)) from by (repeat (first | (with_reducible exact Keep.refl _ _) | (with_reducible refine keep_set ?_ (by first | (simp; done) | (simp; omega) | omega)) | (with_reducible refine keep_alloc _ ?_) | (with_reducible refine keep_drewN ?_ _) | (with_reducible assumption) | (with_reducible refine keep_below (by assumption) ?_)))))
    clear HO
    go_wp2
    have h4 := HE.out
    clear HE
    generalize (((((w2).setCell ⟨w.heap.size, 0, none⟩ (.int .i64 0)).setCell ⟨w.heap.size, 1, none⟩ (.slice p' n c')).setCell ⟨w.heap.size, 2, none⟩ (.int .i64 far)).setCell ⟨w.heap.size, 3, none⟩ (.slice none 0 0)) = W2 at *
    obtain ⟨s0, s1, s2, s3⟩ := h4
    exact bodyPost_ret (v := .tuple #[.agg #[.int .i64 0, .slice p' n c', .int .i64 far, .slice none 0 0], .bool true]) (by simp [results, Try.results34, go_sem, s0, s1, s2, s3]) rfl ⟨⟨_, _, _, rfl, HO2.out⟩, hB⟩

end Go.Proofs.Ytbkhooklieangaa
