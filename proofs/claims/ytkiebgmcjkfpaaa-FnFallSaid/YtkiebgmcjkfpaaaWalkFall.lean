/- The law FnFall walked: it returns true, and nothing that was there has turned. -/
import Derived.Test.YtkiebgmcjkfpaaaFallW
import Derived.Deep.RegionWith
import Derived.Deep.DeepCutAuto
namespace Go.Proofs.Ytkiebgmcjkfpaaa.fnFall
open Go.RowKit

/-- What stands where while the frames are written. -/
def At8 (w : World) (l : List ByteArray) (m : Nat) (x y : ByteArray) (a4 a6 : Value) (es : List Value) (wr : World) : Prop :=
  Wrote l m x y ∧ EndsOf l es ∧ wr.ownsRow (w.heap.size + 1) 9 1 a4 l.length (l.map Value.string) ∧ wr.ownsRow (w.heap.size + 1) 3 1 a6 l.length es ∧ Below w.heap.size w wr

set_option maxRecDepth 100000 in
set_option maxHeartbeats 12800000 in
theorem walk {w : World} (v : Value) (cd : List UInt8) (h : Rd Cod.u8 w v cd) : Calls Try.prog 6 #[v] w fun e w' => e = .returned (.bool true) ∧ Below w.heap.size w w' := by
  obtain ⟨i0, hi0, hz0, hz1, hz2⟩ := info_parts Try_infoF_str
  obtain ⟨i1, hi1, hy0, hy1, hy2⟩ := info_parts Try_infoF_int
  by_cases hbig : 65536 < cd.length
  · obtain ⟨p, c, rfl, hc1, hc2, -⟩ := h.form
    have Hb := Lib.hid (fun W => vBig_any p cd.length c W (by unfold maxLen at hc2; omega))
    rw [decide_eq_true hbig] at Hb
    clear h hc1 hc2 hbig
    generalize cd.length = n at *
    go_enter Try.func6, Try.ntmps6
    go_wp2_with fail
    refine (Hb.out _).mono ?_
    rintro e w1 ⟨rfl, rfl⟩
    go_wp2
    go_ret
    exact ⟨rfl, by (repeat (first | (with_reducible exact Below.refl _ _) | (with_reducible refine below_setCell ?_ (by first | (simp; done) | (simp; omega) | omega)) | (with_reducible refine below_alloc _ ?_) | (with_reducible refine below_drewN ?_ _) | (with_reducible assumption) | (with_reducible refine below_after (by assumption) ?_)))⟩
  have Hv := Lib.hid (fun (W : World) (b : Below w.heap.size w W) (j : Nat) (hj : j ≤ 1048576) => vAt_val v cd (by omega) j hj W (h.below b))
  have Ht := Lib.hid (fun (W : World) (b : Below w.heap.size w W) (j : Nat) (hj : j ≤ 1000) => vText_any v cd (by omega) j hj W (h.below b))
  obtain ⟨p, c, rfl, hc1, hc2, -⟩ := h.form
  have Hb := Lib.hid (fun W => vBig_any p cd.length c W (by unfold maxLen at hc2; omega))
  rw [decide_eq_false hbig] at Hb
  clear h hc1 hc2 hbig
  have HvL := Lib.hid (vAtN_lt cd)
  generalize vAtN cd = V at *
  generalize cd.length = n at *
  go_enter Try.func6, Try.ntmps6
  go_wp2_with fail
  refine (Hb.out _).mono ?_
  rintro e w1 ⟨rfl, rfl⟩
  go_wp2
  go_loopw [4, 5, 6, 7] (fun a4 a5 a6 a7 wr => ∃ (l : List ByteArray) (m : Nat) (x y : ByteArray) (es : List Value), a7 = .int .i64 (l.length : Int) ∧ a5 = .int .i64 (m : Int) ∧ Hid (At8 w l m x y a4 a6 es wr) ∧ (wr.cell? ⟨w.heap.size, 0, none⟩ = some (.string x) ∧ wr.cell? ⟨w.heap.size, 1, none⟩ = some (.string y) ∧ wr.frozen? ⟨w.heap.size, 0, none⟩ = false ∧ wr.frozen? ⟨w.heap.size, 1, none⟩ = false) ∧ w.heap.size < wr.heap.size) (fun _ _ _ a _ => 9 - (intOf a).toNat)
  case atStart =>
    refine ⟨[], 0, ⟨#[]⟩, ⟨#[]⟩, [], rfl, rfl, Lib.hid ⟨⟨by simp, by simp, by simp, rfl, rfl⟩, ⟨rfl, fun j hj => by simp at hj⟩, ?_, ?_, by (repeat (first | (with_reducible exact Below.refl _ _) | (with_reducible refine below_setCell ?_ (by first | (simp; done) | (simp; omega) | omega)) | (with_reducible refine below_alloc _ ?_) | (with_reducible refine below_drewN ?_ _) | (with_reducible assumption) | (with_reducible refine below_after (by assumption) ?_)))⟩, ⟨by simp [go_sem], by simp [go_sem], by simp [go_sem], by simp [go_sem]⟩, by simp; omega⟩
    · exact own_below (row0 (by simp) (by simp)) (below_new _ _)
    · exact row0 (by simp) (by omega)
  case round =>
    obtain ⟨l, m, x, y, es, rfl, rfl, HA, ⟨c0, c1, f0, f1⟩, hsz⟩ := hrel
    by_cases hlt : l.length < 8
    · have hlt2 : (l.length : Int) < 8 := by omega
      obtain ⟨hW, hE, ho4, ho6, hb⟩ := HA.out
      have hsm := hW.small
      have Hw := Lib.hid hW
      have He := Lib.hid hE
      have H4 := Lib.hid ho4
      have H6 := Lib.hid ho6
      have hx : x.size ≤ 1048576 := by omega
      have hy : y.size ≤ 1048576 := by omega
      clear HA hW hE ho4 ho6
      have Ht2 : Hid (∀ W, Below w.heap.size w W → Calls Try.prog 28 #[.slice p n c, .int .i64 (10 * (l.length : Int))] W fun e w' => (∃ s : ByteArray, s.size ≤ 8 ∧ e = .returned (.string s)) ∧ Below W.heap.size W w') := Lib.hid fun W b => by
        have := Ht.out W b (10 * l.length) (by omega)
        rwa [show ((10 * l.length : Nat) : Int) = 10 * (l.length : Int) from by omega] at this
      have hl0 : (0 : Int) ≤ (l.length : Int) := by omega
      go_wp2_with fail
      refine (Ht2.out _ hb).mono ?_
      rintro e w2 ⟨⟨s, hs, rfl⟩, k2⟩
      have b2 := below_after k2 hb
      replace f0 := frozen_step k2 c0 f0
      replace f1 := frozen_step k2 c1 f1
      replace c0 := cell_step k2 c0
      replace c1 := cell_step k2 c1
      replace H4 := Lib.hid (own_below H4.out k2)
      replace H6 := Lib.hid (own_below H6.out k2)
      replace hsz := Nat.lt_of_lt_of_le hsz k2.size
      have hq : writeQ x y s = true := by
        have := frame_size (s := s) (by omega)
        unfold writeQ diskB
        simp only [Bool.and_eq_true, decide_eq_true_eq, ByteArray.size_append]
        omega
      have Hwi : Hid (∀ W, Calls Try.prog 29 #[.agg #[.string x, .string y], .string s] W fun e w' => e = .returned (.tuple #[.agg #[.string x, .string (y ++ frameB s)], .bool true]) ∧ Below W.heap.size W w') := Lib.hid (fun W => by
        have := writeDisk_any x y s hx hy (by omega) W
        rw [hq] at this
        exact this)
      have Hws : Hid (∀ W, Calls Try.prog 30 #[.agg #[.string x, .string y], .string s] W fun e w' => e = .returned (.tuple #[.agg #[.string x, .string (y ++ frameB s)], .bool true]) ∧ Below W.heap.size W w') := Lib.hid (fun W => by
        have := writeDiskS_any x y s hx hy (by omega) W
        rw [hq] at this
        exact this)
      have Hw2 := Lib.hid (Hw.out.put hlt hs)
      have hcat : (catF (l ++ [s])).size = x.size + (y ++ frameB s).size := by rw [← Hw2.out.all, ByteArray.size_append]
      have hsm2 := Hw2.out.small
      have Hcat := Lib.hid hcat
      generalize y ++ frameB s = y' at *
      clear hq hcat Hw hs k2
      have hy' : y'.size ≤ 1048576 := by omega
      have hneq := neq_disk x y'
      have hgd := fun (W : World) (a b : Operand) (xs ys : Array Value) => run_eqGuard_agg (P := Try.prog) W .neq 51 a b xs ys (by kernel_rfl)
      go_wp2_with fail
      refine (Hwi.out _).mono ?_
      rintro e w3 ⟨rfl, k3⟩
      have b3 := below_after k3 b2
      replace f0 := frozen_step k3 c0 f0
      replace f1 := frozen_step k3 c1 f1
      replace c0 := cell_step k3 c0
      replace c1 := cell_step k3 c1
      replace H4 := Lib.hid (own_below H4.out k3)
      replace H6 := Lib.hid (own_below H6.out k3)
      replace hsz := Nat.lt_of_lt_of_le hsz k3.size
      clear k3 b2
      go_wp2_with fail
      refine (Hws.out _).mono ?_
      rintro e w4 ⟨rfl, k4⟩
      have m4 : Below w3.heap.size w3 w4 := below_after k4 (by (repeat (first | (with_reducible exact Below.refl _ _) | (with_reducible refine below_setCell ?_ (by first | (simp; done) | (simp; omega) | omega)) | (with_reducible refine below_alloc _ ?_) | (with_reducible refine below_drewN ?_ _) | (with_reducible assumption) | (with_reducible refine below_after (by assumption) ?_))))
      have b4 := below_after m4 b3
      have d0 : w4.cell? ⟨w3.heap.size, 0, none⟩ = some (.string x) := by rw [(bcell k4).1 _ _ (by first | (simp; done) | (simp; omega))]; simp [go_sem]
      have d1 : w4.cell? ⟨w3.heap.size, 1, none⟩ = some (.string y') := by rw [(bcell k4).1 _ _ (by first | (simp; done) | (simp; omega))]; simp [go_sem]
      have z4 : w3.heap.size < w4.heap.size := by have := k4.size; simp at this; omega
      replace f0 := frozen_step m4 c0 f0
      replace f1 := frozen_step m4 c1 f1
      replace c0 := cell_step m4 c0
      replace c1 := cell_step m4 c1
      replace H4 := Lib.hid (own_below H4.out m4)
      replace H6 := Lib.hid (own_below H6.out m4)
      replace hsz := Nat.lt_of_lt_of_le hsz m4.size
      clear k4 m4 b3
      go_upto_region 15 with fail
      generalize hw5 : World.alloc _ _ = w5
      have kp : Keep (w.heap.size + 1) w4 w5 := by rw [← hw5]; (repeat (first | (with_reducible exact Keep.refl _ _) | (with_reducible refine keep_set ?_ (by first | (simp; done) | (simp; omega) | omega)) | (with_reducible refine keep_alloc _ ?_) | (with_reducible refine keep_drewN ?_ _) | (with_reducible assumption) | (with_reducible refine keep_below (by assumption) ?_)))
      have b5 : Below w.heap.size w w5 := by rw [← hw5]; (repeat (first | (with_reducible exact Below.refl _ _) | (with_reducible refine below_setCell ?_ (by first | (simp; done) | (simp; omega) | omega)) | (with_reducible refine below_alloc _ ?_) | (with_reducible refine below_drewN ?_ _) | (with_reducible assumption) | (with_reducible refine below_after (by assumption) ?_)))
      have z5 : w4.heap.size < w5.heap.size := by rw [← hw5]; simp
      have hold0 := c0
      have hold1 := c1
      replace c0 : w5.cell? ⟨w.heap.size, 0, none⟩ = some (.string x) := by rw [← hw5, cell_alloc_old (by simp; omega), World.cell?_setCell_other _ _ _ _ (by simp)]; exact World.cell?_setCell_same _ _ _ hold0
      replace c1 : w5.cell? ⟨w.heap.size, 1, none⟩ = some (.string y') := by rw [← hw5, cell_alloc_old (by simp; omega)]; exact World.cell?_setCell_same _ _ _ ((World.cell?_setCell_other _ _ _ _ (by simp)).trans hold1)
      replace f0 : w5.frozen? ⟨w.heap.size, 0, none⟩ = false := by rw [← hw5, frozen_alloc_old (by simp; omega), World.frozen?_setCell, World.frozen?_setCell]; exact f0
      replace f1 : w5.frozen? ⟨w.heap.size, 1, none⟩ = false := by rw [← hw5, frozen_alloc_old (by simp; omega), World.frozen?_setCell, World.frozen?_setCell]; exact f1
      replace hsz : w.heap.size < w5.heap.size := Nat.lt_trans hsz z5
      have ho4 := ownsRow_keep H4.out kp
      have ho6 := ownsRow_keep H6.out kp
      have Hap := Lib.hid (rows_apart ho4 ho6 (by decide))
      replace H6 := Lib.hid ho6
      clear hold0 hold1 hw5 kp d0 d1 z4 b4 ho6 H4
      have Hroom : Hid ((l.length + 1) * 16 ≤ room) := Lib.hid (by unfold room; omega)
      have Hroom2 : Hid ((l.length + 1) * 8 ≤ room) := Lib.hid (by unfold room; omega)
      go_wp2_with (at_builtin; go_must (refine wpList_append_one w5 rfl _ _ 40 (by rfl) (w.heap.size + 1) 9 i0 (.string ⟨#[]⟩) 1 16 Try.underlying40 hi0 hz0 hz1 hz2 rfl (by decide) (by decide) _ _ _ (by rfl) ho4 [.string s] rfl (by rfl) (by simp [Value.oneCell']) Hroom.out hsz ?_))
      intro v6 w6 hown6 hg6 hb6
      replace H6 := Lib.hid (row_kept H6.out hg6 Hap.out)
      have H4 := Lib.hid hown6
      have z6 : w5.heap.size ≤ w6.heap.size := hb6.size
      replace f0 := free_from0 hb6 (Nat.lt_succ_self _) f0
      replace f1 := free_from0 hb6 (Nat.lt_succ_self _) f1
      replace c0 := cell_from0 hb6 (Nat.lt_succ_self _) c0
      replace c1 := cell_from0 hb6 (Nat.lt_succ_self _) c1
      have b6 : Below w.heap.size w w6 := b5.trans (hb6.mono (Nat.le_succ _))
      replace hsz := Nat.lt_of_lt_of_le hsz z6
      clear hown6 hg6 hb6 b5 ho4 Hap z5 z6
      have hadd := run_string_add_sum (P := Try.prog) (w := w6) x y' (by omega)
      have hzc : (x.size : Int) + (y'.size : Int) = ((catF (l ++ [s])).size : Int) := by rw [Hcat.out]; omega
      have HE2 := Lib.hid (ends_snoc He.out s _ hzc)
      clear hzc
      go_upto_region 16 with fail
      have ho6 := H6.out
      go_wp2_with (at_builtin; (refine wpList_append_one w6 rfl _ _ 52 (by rfl) (w.heap.size + 1) 3 i1 (.int .i64 0) 1 8 Try.underlying52 hi1 hy0 hy1 hy2 rfl (by decide) (by decide) _ _ _ (by rfl) ho6 [.int .i64 ((x.size : Int) + (y'.size : Int))] rfl (by rfl) (by simp [Value.oneCell']) Hroom2.out hsz ?_))
      intro v7 w7 hown7 hg7 hb7
      have hap2 := rows_apart H6.out H4.out (by decide)
      replace H4 := Lib.hid (row_kept H4.out hg7 hap2)
      replace H6 := Lib.hid hown7
      have z7 : w6.heap.size ≤ w7.heap.size := hb7.size
      replace f0 := free_from0 hb7 (Nat.lt_succ_self _) f0
      replace f1 := free_from0 hb7 (Nat.lt_succ_self _) f1
      replace c0 := cell_from0 hb7 (Nat.lt_succ_self _) c0
      replace c1 := cell_from0 hb7 (Nat.lt_succ_self _) c1
      have b7 : Below w.heap.size w w7 := b6.trans (hb7.mono (Nat.le_succ _))
      replace hsz := Nat.lt_of_lt_of_le hsz z7
      clear hown7 hg7 hb7 b6 ho6 hap2 z7 hadd
      obtain ⟨r4, hr4⟩ : ∃ r : Nat, (V l.length : Int).tmod 4 = (r : Int) := ⟨V l.length % 4, by rw [Int.tmod_eq_emod_of_nonneg (by omega)]; omega⟩
      go_wp2_with fail
      refine (Hv.out _ b7 l.length (by omega)).mono ?_
      rintro e w8 ⟨rfl, rfl⟩
      have H4' : Hid (w7.ownsRow (w.heap.size + 1) 9 1 v6 (l ++ [s]).length ((l ++ [s]).map Value.string)) := Lib.hid (by simpa using H4.out)
      have H6' : Hid (w7.ownsRow (w.heap.size + 1) 3 1 v7 (l ++ [s]).length (es ++ [.int .i64 ((x.size : Int) + (y'.size : Int))])) := Lib.hid (by simpa using H6.out)
      clear H4 H6
      by_cases h4 : r4 = 0
      · subst h4
        have hx2 : x.size ≤ 1048576 := hx
        have Hsy : Hid (∀ W, Calls Try.prog 32 #[.agg #[.string x, .string y']] W fun e w' => e = .returned (.tuple #[.agg #[.string (x ++ y'), .string ⟨#[]⟩], .bool true]) ∧ Below W.heap.size W w') := Lib.hid (fun W => by
          have := syncDisk_any x y' hx hy' W
          have hq : diskB x y' = true := by unfold diskB; simp only [decide_eq_true_eq]; omega
          rw [hq] at this
          exact this)
        have Hw3 := Lib.hid Hw2.out.synced
        have hr0 : ((0 : Nat) : Int) = 0 := rfl
        rw [hr0] at hr4
        generalize x ++ y' = xy at *
        go_wp2_with fail
        refine (Hsy.out _).mono ?_
        rintro e w9 ⟨rfl, k9⟩
        have b9 := below_after k9 b7
        replace f0 := frozen_step k9 c0 f0
        replace f1 := frozen_step k9 c1 f1
        replace c0 := cell_step k9 c0
        replace c1 := cell_step k9 c1
        replace hsz := Nat.lt_of_lt_of_le hsz k9.size
        replace H4' := Lib.hid (own_below H4'.out k9)
        replace H6' := Lib.hid (own_below H6'.out k9)
        clear k9
        go_wp2
        go_roundw
        case rel =>
          exact ⟨l ++ [s], (l ++ [s]).length, xy, ⟨#[]⟩, _, by simp, by simp, Lib.hid ⟨Hw3.out, HE2.out, ownsRow_keep H4'.out (by (repeat (first | (with_reducible exact Keep.refl _ _) | (with_reducible refine keep_set ?_ (by first | (simp; done) | (simp; omega) | omega)) | (with_reducible refine keep_alloc _ ?_) | (with_reducible refine keep_drewN ?_ _) | (with_reducible assumption) | (with_reducible refine keep_below (by assumption) ?_)))), ownsRow_keep H6'.out (by (repeat (first | (with_reducible exact Keep.refl _ _) | (with_reducible refine keep_set ?_ (by first | (simp; done) | (simp; omega) | omega)) | (with_reducible refine keep_alloc _ ?_) | (with_reducible refine keep_drewN ?_ _) | (with_reducible assumption) | (with_reducible refine keep_below (by assumption) ?_)))), by (repeat (first | (with_reducible exact Below.refl _ _) | (with_reducible refine below_setCell ?_ (by first | (simp; done) | (simp; omega) | omega)) | (with_reducible refine below_alloc _ ?_) | (with_reducible refine below_drewN ?_ _) | (with_reducible assumption) | (with_reducible refine below_after (by assumption) ?_)))⟩,
            ⟨(World.cell?_setCell_other _ _ _ _ (by simp)).trans (World.cell?_setCell_same _ _ _ c0), World.cell?_setCell_same _ _ _ ((World.cell?_setCell_other _ _ _ _ (by simp)).trans c1), by rw [World.frozen?_setCell, World.frozen?_setCell]; exact f0, by rw [World.frozen?_setCell, World.frozen?_setCell]; exact f1⟩, by simp; omega⟩
        case measure => simp [intOf]; omega
      · have hne : ((r4 : Int) == 0) = false := by simp; omega
        go_wp2
        go_roundw
        case rel =>
          exact ⟨l ++ [s], m, x, y', _, by simp, rfl, Lib.hid ⟨Hw2.out, HE2.out, H4'.out, H6'.out, b7⟩, ⟨c0, c1, f0, f1⟩, hsz⟩
        case measure => simp [intOf]; omega
    · have hlt2 : (8 : Int) ≤ (l.length : Int) := by omega
      obtain ⟨hW, hE, ho4, ho6, hb⟩ := HA.out
      have hl8 : l.length = 8 := by have := hW.few; omega
      have hsm := hW.small
      have Hw := Lib.hid hW
      have He := Lib.hid hE
      have H4 := Lib.hid ho4
      have H6 := Lib.hid ho6
      have hx : x.size ≤ 1048576 := by omega
      have hy : y.size ≤ 1048576 := by omega
      have hm8 : (m : Int) ≤ 8 := by have := hW.kept; omega
      have Hl8 := Lib.hid hl8
      obtain ⟨g6, cp6, e6, hg6, hc6⟩ : ∃ g cp, u6 = .slice (some ⟨g, 0, none⟩) 8 cp ∧ g < wr.heap.size ∧ ∀ j, j < 8 → wr.cell? ⟨g, j, none⟩ = some (.int .i64 (catZ l (j + 1) : Int)) := by
        rw [hl8] at ho6
        obtain ⟨g, cap, hv, _, hg, _⟩ := owned_at ho6 (by omega)
        refine ⟨g, cap, hv, hg, fun j hj => ?_⟩
        subst hv
        rw [ho6.cellAt j (by omega)]
        exact hE.2 j (by omega)
      subst e6
      have Hc6 := Lib.hid hc6
      clear HA hW hE ho4 ho6 hl8 H6 hc6
      have Hv1 : Hid (∀ W, Below w.heap.size w W → Calls Try.prog 31 #[.slice p n c, .int .i64 1] W fun e w' => e = .returned (.int .i64 (V 1 : Int)) ∧ W = w') := Lib.hid fun W b => Hv.out W b 1 (by omega)
      have Hv2 : Hid (∀ W, Below w.heap.size w W → Calls Try.prog 31 #[.slice p n c, .int .i64 2] W fun e w' => e = .returned (.int .i64 (V 2 : Int)) ∧ W = w') := Lib.hid fun W b => Hv.out W b 2 (by omega)
      obtain ⟨keep, hkt, hky⟩ : ∃ keep : Nat, (V 1 : Int).tmod ((y.size : Int) + 1) = (keep : Int) ∧ keep ≤ y.size := ⟨V 1 % (y.size + 1), by rw [Int.tmod_eq_emod_of_nonneg (by omega), show (y.size : Int) + 1 = ((y.size + 1 : Nat) : Int) from by omega]; exact (Int.natCast_emod _ _).symm, by have := Nat.mod_lt (V 1) (show 0 < y.size + 1 by omega); omega⟩
      obtain ⟨r3, hr3⟩ : ∃ r : Nat, (V 2 : Int).tmod 3 = (r : Int) := ⟨V 2 % 3, by rw [Int.tmod_eq_emod_of_nonneg (by omega)]; omega⟩
      generalize hv1 : (V 1 : Int) = V1 at *
      generalize hv2 : (V 2 : Int) = V2 at *
      obtain ⟨torn, htorn⟩ : ∃ torn : Bool, ((r3 : Int) == 0) = torn := ⟨_, rfl⟩
      have hbx : Below w.heap.size w wr := hb
      obtain ⟨wo, rfl⟩ : ∃ wo : World, wo = wr := ⟨_, rfl⟩
      have hd8 : decide ((l.length : Int) < 8) = false := by simp; omega
      go_upto_region 20 with fail
      refine wp_region_ext (by kernel_rfl) (by kernel_rfl) wo.heap.size ?_
      have hx2 := fun (u : World) (b o : Nat) (h : b < wo.heap.size) => ext_cell wo u b o h
      repeat (any_goals (go_big_quiet_step (first
        | (go_at_call 31; (first | (with_reducible refine calls_ext_same (Hv1.out _ ?_)) | (with_reducible refine calls_ext_same (Hv2.out _ ?_))); exact hbx.trans ((ext_below _ _ _).mono hbx.size)))))
      refine wpQuiet_nil ?_
      intro w2 k2
      clear hx2
      have b2 : Below w.heap.size w w2 := below_after k2 hb
      replace f0 := frozen_step k2 c0 f0
      replace f1 := frozen_step k2 c1 f1
      replace c0 := cell_step k2 c0
      replace c1 := cell_step k2 c1
      replace H4 := Lib.hid (own_below H4.out k2)
      have Hc6b : Hid (∀ j, j < 8 → w2.cell? ⟨g6, j, none⟩ = some (.int .i64 (catZ l (j + 1) : Int))) := Lib.hid fun j hj => cell_step k2 (Hc6.out j hj)
      have hg6b : g6 < w2.heap.size := Nat.lt_of_lt_of_le hg6 k2.size
      replace hsz := Nat.lt_of_lt_of_le hsz k2.size
      clear Hv1 Hv2 hv1 hv2 hkt hr3 k2 hb hbx Hc6 hg6 Hv Ht HvL
      have hfq : fallQ x y (keep : Int) = true := by
        unfold fallQ diskB
        simp only [Bool.and_eq_true, decide_eq_true_eq, inB_iff]
        omega
      have Hfd : Hid (∀ W, Calls Try.prog 33 #[.agg #[.string x, .string y], .int .i64 (keep : Int), .bool torn] W fun e w' => e = .returned (.tuple #[.agg #[.string (x ++ ⟨(fallL y keep torn).toArray⟩), .string ⟨#[]⟩], .bool true]) ∧ Below W.heap.size W w') := Lib.hid (fun W => by
        have := fallDisk_yes x y (keep : Int) torn hx hy hfq W
        rw [Int.toNat_natCast] at this
        exact this)
      have hfl : (fallL y keep torn).length ≤ keep + 1 := by
        unfold fallL
        split
        · rw [List.length_append, List.length_take]; simp; omega
        · rw [List.length_take]; omega
      have hXs : (x ++ ⟨(fallL y keep torn).toArray⟩ : ByteArray).size ≤ 200 := by
        rw [ByteArray.size_append]
        show x.size + (fallL y keep torn).toArray.size ≤ 200
        simp
        omega
      have HLaw : Hid (∀ W, W ≤ l.length → (∀ j, j < l.length → (WholeB l (x.size + keep) torn keep j ↔ j < W)) → m ≤ W ∧ (framesF ((x ++ ⟨(fallL y keep torn).toArray⟩).size + 1) (x ++ ⟨(fallL y keep torn).toArray⟩) 0).1 = l.take W) := Lib.hid (fun W hW hc => fall_law Hw.out hky hW hc)
      generalize x ++ ⟨(fallL y keep torn).toArray⟩ = X at *
      have Hfo : Hid (∀ W, Calls Try.prog 34 #[.agg #[.string X, .string ⟨#[]⟩]] W fun e w' => ∃ v at_, e = .returned (.tuple #[v, .int .i64 at_, .bool true]) ∧ StrRow w' v (framesF (X.size + 1) X 0).1 ∧ (∃ p c, v = .slice p (framesF (X.size + 1) X 0).1.length c) ∧ Below W.heap.size W w') := Lib.hid (fun W => by
        refine (framesOn_any X ⟨#[]⟩ (by omega) (by show 0 ≤ _; omega) W).mono ?_
        rintro e w' ⟨v, he, ho, hb⟩
        have hq : diskB X ⟨#[]⟩ = true := by
          unfold diskB
          simp only [decide_eq_true_eq]
          show X.size + 0 ≤ 50000
          omega
        have hXe : X ++ (⟨#[]⟩ : ByteArray) = X := by rw [show (⟨#[]⟩ : ByteArray) = ByteArray.empty from rfl, ByteArray.append_empty]
        unfold onL at ho
        rw [hq] at he ho
        simp only [cond_true, hXe] at ho
        have hr := StrRow.owned ho
        exact ⟨v, _, he, hr, by obtain ⟨p, c, hv, _⟩ := hr; exact ⟨p, c, hv⟩, hb⟩)
      clear hfl hXs hfq
      generalize (framesF (X.size + 1) X 0).1 = F at *
      have hml : m ≤ l.length := Hw.out.kept
      clear Hw He
      go_wp2_with fail
      refine (Hfd.out _).mono ?_
      rintro e w3 ⟨rfl, k3⟩
      have b3 : Below w.heap.size w w3 := below_after k3 b2
      replace c0 := cell_step k3 c0
      replace c1 := cell_step k3 c1
      replace H4 := Lib.hid (own_below H4.out k3)
      replace Hc6b := Lib.hid (fun j hj => cell_step k3 (Hc6b.out j hj))
      replace hg6b := Nat.lt_of_lt_of_le hg6b k3.size
      clear k3 b2
      go_wp2_with fail
      refine (Hfo.out _).mono ?_
      rintro e w4 ⟨v4, at4, rfl, HF, ⟨p4, q4, rfl⟩, k4⟩
      have m4 : Below w3.heap.size w3 w4 := below_after k4 (by (repeat (first | (with_reducible exact Below.refl _ _) | (with_reducible refine below_setCell ?_ (by first | (simp; done) | (simp; omega) | omega)) | (with_reducible refine below_alloc _ ?_) | (with_reducible refine below_drewN ?_ _) | (with_reducible assumption) | (with_reducible refine below_after (by assumption) ?_))))
      have b4 : Below w.heap.size w w4 := below_after m4 b3
      have d0 : w4.cell? ⟨w3.heap.size, 0, none⟩ = some (.string X) := by rw [(bcell k4).1 _ _ (by first | (simp; done) | (simp; omega))]; simp [go_sem]
      have d1 : w4.cell? ⟨w3.heap.size, 1, none⟩ = some (.string ⟨#[]⟩) := by rw [(bcell k4).1 _ _ (by first | (simp; done) | (simp; omega))]; simp [go_sem]
      replace c0 := cell_step m4 c0
      replace c1 := cell_step m4 c1
      replace H4 := Lib.hid (own_below H4.out m4)
      replace Hc6b := Lib.hid (fun j hj => cell_step m4 (Hc6b.out j hj))
      replace hg6b := Nat.lt_of_lt_of_le hg6b m4.size
      clear k4 m4 b3
      have HFr := Lib.hid HF
      clear HF
      have hkb : (keep : Int) ≤ 1048576 := by omega
      have hxb : (x.size : Int) ≤ 1048576 := by omega
      go_wp2
      go_loopw [20, 21] (fun a b wr => ∃ (i W : Nat), a = .int .i64 (W : Int) ∧ b = .int .i64 (i : Int) ∧ i ≤ 8 ∧ W ≤ i ∧ Hid (∀ j, j < i → (WholeB l (x.size + keep) torn keep j ↔ j < W)) ∧ wr = w4) (fun _ b _ => 9 - (intOf b).toNat)
      case atStart => exact ⟨0, 0, rfl, rfl, by omega, by omega, Lib.hid (fun j hj => by omega), rfl⟩
      case round =>
        obtain ⟨i, W, rfl, rfl, hi, hWi, Hall, hwr⟩ := hrel
        subst hwr
        by_cases hlt : i < 8
        · have hlt2 : (i : Int) < 8 := by omega
          have hi0 : (0 : Int) ≤ (i : Int) := by omega
          have e0 := Hc6b.out i hlt
          have hil : i < l.length := by have := Hl8.out; omega
          have Hyes : Hid (WholeB l (x.size + keep) torn keep i → ∀ j, j < i + 1 → (WholeB l (x.size + keep) torn keep j ↔ j < i + 1)) := Lib.hid (fun h j hj => ⟨fun _ => hj, fun _ => by
            by_cases e : j = i
            · subst e; exact h
            · exact whole_down h (by omega) hil⟩)
          have Hno : Hid (¬ WholeB l (x.size + keep) torn keep i → ∀ j, j < i + 1 → (WholeB l (x.size + keep) torn keep j ↔ j < W)) := Lib.hid (fun h j hj => by
            by_cases e : j = i
            · subst e; exact ⟨fun k => absurd k h, fun k => by omega⟩
            · exact Hall.out j (by omega))
          have HB : Hid (WholeB l (x.size + keep) torn keep i ↔ (catZ l (i + 1) < x.size + keep ∨ (catZ l (i + 1) = x.size + keep ∧ (torn = false ∨ keep = 0)))) := Lib.hid Iff.rfl
          generalize catZ l (i + 1) = ez at *
          clear hil
          by_cases h1 : ez < x.size + keep
          · have h1a : (ez : Int) < (x.size : Int) + (keep : Int) := by omega
            have Hq := Lib.hid (Hyes.out (HB.out.2 (Or.inl h1)))
            clear Hyes Hno HB
            go_wp2
            go_roundw
            case rel => exact ⟨i + 1, i + 1, by go_num, by go_num, by omega, by omega, Hq, by first | rfl | trivial⟩
            case measure => simp [intOf]; omega
          · have h1a : (x.size : Int) + (keep : Int) ≤ (ez : Int) := by omega
            have h1b : decide ((ez : Int) < (x.size : Int) + (keep : Int)) = false := decide_eq_false (by omega)
            by_cases h2 : ez = x.size + keep
            · have h2b : ((ez : Int) == (x.size : Int) + (keep : Int)) = true := by simp; omega
              have h2c : (ez : Int) = (x.size : Int) + (keep : Int) := by omega
              cases torn
              · have Hq := Lib.hid (Hyes.out (HB.out.2 (Or.inr ⟨h2, Or.inl rfl⟩)))
                clear Hyes Hno HB h2 h1
                go_wp2
                go_roundw
                case rel => exact ⟨i + 1, i + 1, by go_num, by go_num, by omega, by omega, Hq, by first | rfl | trivial⟩
                case measure => simp [intOf]; omega
              · by_cases h3 : keep = 0
                · have h3b : ((keep : Int) == 0) = true := by simp; omega
                  have h3c : (keep : Int) = 0 := by omega
                  have Hq := Lib.hid (Hyes.out (HB.out.2 (Or.inr ⟨h2, Or.inr h3⟩)))
                  clear Hyes Hno HB h2 h1 h3
                  go_wp2
                  go_roundw
                  case rel => exact ⟨i + 1, i + 1, by go_num, by go_num, by omega, by omega, Hq, by first | rfl | trivial⟩
                  case measure => simp [intOf]; omega
                · have h3b : ((keep : Int) == 0) = false := by simp; omega
                  have h3c : ¬ (keep : Int) = 0 := by omega
                  have Hq := Lib.hid (Hno.out (fun h => by
                    rcases HB.out.1 h with h | ⟨_, h | h⟩
                    · omega
                    · cases h
                    · exact h3 h))
                  clear Hyes Hno HB h2 h1 h3
                  go_wp2
                  go_roundw
                  case rel => exact ⟨i + 1, W, rfl, by go_num, by omega, by omega, Hq, by first | rfl | trivial⟩
                  case measure => simp [intOf]; omega
            · have h2b : ((ez : Int) == (x.size : Int) + (keep : Int)) = false := by simp; omega
              have h2c : ¬ (ez : Int) = (x.size : Int) + (keep : Int) := by omega
              have Hq := Lib.hid (Hno.out (fun h => by
                rcases HB.out.1 h with h | ⟨h, _⟩
                · omega
                · exact h2 h))
              clear Hyes Hno HB h2 h1
              go_wp2
              go_roundw
              case rel => exact ⟨i + 1, W, rfl, by go_num, by omega, by omega, Hq, by first | rfl | trivial⟩
              case measure => simp [intOf]; omega
        · have hlt2 : (8 : Int) ≤ (i : Int) := by omega
          obtain rfl : i = 8 := by omega
          obtain ⟨hmW, hF⟩ := HLaw.out W (by have := Hl8.out; omega) (fun j hj => Hall.out j (by have := Hl8.out; omega))
          obtain ⟨g4, cp4, rfl, _, _, hcap, _⟩ := owned_at H4.out (by have := Hl8.out; omega)
          have hWl : W ≤ l.length := by have := Hl8.out; omega
          have Hvt := Lib.hid (vTexts_same (.slice p4 F.length q4) (.slice (some ⟨g4, 0, none⟩) W cp4) F (by rw [hF, List.length_take]; omega) wr HFr.out (by rw [hF]; exact (StrRow.owned H4.out).take W hWl))
          have hW0 : (0 : Int) ≤ (W : Int) := by omega
          have hW1 : (W : Int) ≤ (cp4 : Int) := by omega
          have hmW2 : (m : Int) ≤ (W : Int) := by omega
          have hd2 : decide ((m : Int) ≤ (W : Int)) = true := decide_eq_true hmW2
          clear HLaw Hall hF H4 HFr hcap hWl
          go_wp2_with fail
          refine Hvt.out.mono ?_
          rintro e w5 ⟨rfl, k5⟩
          replace d0 := cell_step k5 d0
          replace d1 := cell_step k5 d1
          go_wp2
          go_ret
          exact ⟨rfl, below_after k5 b4⟩

end Go.Proofs.Ytkiebgmcjkfpaaa.fnFall
