/- l4Good, spec, kind 1. -/
import Derived.Test.YtogdbjalgledpaaGoodRec1
namespace Go.Proofs.Ytogdbjalgledpaa
open Go.RowKit

set_option maxRecDepth 100000 in
set_option maxHeartbeats 6400000 in
theorem l4Good_1 (T Ti L : Int) (pr pw : Option Addr) (nr nw cr cw : Nat) (Y : Bool) (R : List ByteArray) (Wr : List WriteD) (hnr : nr ≤ 1048576) (hnw : nw ≤ 1048576) (hR : R.length = nr) (hW : Wr.length = nw) (w : World) (rR : Rd Cod.str w (.slice pr nr cr) R) (rW : Rd Cod.write w (.slice pw nw cw) Wr) :
    Calls Try.prog 95 #[.agg #[.int .i64 1, .int .i64 T, .int .i64 Ti, .int .i64 L, .slice pr nr cr, .slice pw nw cw, .bool Y]] w fun e w' => e = .returned (.bool (inB T 1 60 && (inB Ti 1 100000 && (inB L 0 3 && (decide (nr ≤ 8) && (pB (Rising R) && (decide (nw ≤ 8) && (goodWB Wr && (decide (0 < nr + nw) && !Y))))))))) ∧ Below w.heap.size w w' := by
  have hnrI : (nr : Int) ≤ 1048576 := by omega
  have hnwI : (nw : Int) ≤ 1048576 := by omega
  have HT := Lib.hid (l1In_any T 1 60)
  have HI := Lib.hid (l3Time_any Ti)
  have HL := Lib.hid (l1In_any L 0 3)
  have HN := Lib.hid (l1In_any (nw : Int) 0 8)
  rw [show inB (nw : Int) 0 8 = decide (nw ≤ 8) from by rw [Bool.eq_iff_iff, inB_iff]; simp; omega] at HN
  have HA := Lib.hid (fun (W : World) (b : Below w.heap.size w W) => l4Keys_any _ R (by omega) W (rR.below b))
  rw [hR] at HA
  have HW := Lib.hid (fun (W : World) (b : Below w.heap.size w W) => l3Writes_any _ Wr (by omega) W (rW.below b))
  clear rR rW hR hW
  obtain ⟨G, hG⟩ : ∃ G, (inB T 1 60 && (inB Ti 1 100000 && (inB L 0 3 && (decide (nr ≤ 8) && (pB (Rising R) && (decide (nw ≤ 8) && (goodWB Wr && (decide (0 < nr + nw) && !Y)))))))) = G := ⟨_, rfl⟩
  have HG := Lib.hid hG
  rw [hG]
  clear hG
  generalize inB T 1 60 = t at *
  generalize inB Ti 1 100000 = i at *
  generalize inB L 0 3 = l at *
  generalize pB (Rising R) = a at *
  generalize goodWB Wr = g at *
  generalize decide (nr ≤ 8) = d at *
  generalize decide (nw ≤ 8) = f at *
  cases t
  · go_enter Try.func95, Try.ntmps95
    go_wp2_with (first | (go_at_call 85; (with_reducible refine (HT.out _).mono ?_); rintro e w1 ⟨rfl, rfl⟩))
    go_ret
    exact ⟨ret_bool (by rw [← HG.out]; rfl), by (repeat (first | (with_reducible exact Below.refl _ _) | (with_reducible refine below_setCell ?_ (by first | (simp; done) | (simp; omega) | omega)) | (with_reducible refine below_alloc _ ?_) | (with_reducible refine below_drewN ?_ _) | (with_reducible assumption) | (with_reducible refine below_after (by assumption) ?_)))⟩
  cases i
  · go_enter Try.func95, Try.ntmps95
    go_wp2_with (first | (go_at_call 85; (with_reducible refine (HT.out _).mono ?_); rintro e w1 ⟨rfl, rfl⟩) | (go_at_call 123; refine (HI.out _).mono ?_; rintro e w1 ⟨rfl, rfl⟩))
    go_ret
    exact ⟨ret_bool (by rw [← HG.out]; rfl), by (repeat (first | (with_reducible exact Below.refl _ _) | (with_reducible refine below_setCell ?_ (by first | (simp; done) | (simp; omega) | omega)) | (with_reducible refine below_alloc _ ?_) | (with_reducible refine below_drewN ?_ _) | (with_reducible assumption) | (with_reducible refine below_after (by assumption) ?_)))⟩
  cases l
  · go_enter Try.func95, Try.ntmps95
    go_wp2_with (first | (go_at_call 85; (with_reducible refine (HT.out _).mono ?_); rintro e w1 ⟨rfl, rfl⟩) | (go_at_call 123; refine (HI.out _).mono ?_; rintro e w1 ⟨rfl, rfl⟩) | (go_at_call 85; (with_reducible refine (HL.out _).mono ?_); rintro e w1 ⟨rfl, rfl⟩))
    go_ret
    exact ⟨ret_bool (by rw [← HG.out]; rfl), by (repeat (first | (with_reducible exact Below.refl _ _) | (with_reducible refine below_setCell ?_ (by first | (simp; done) | (simp; omega) | omega)) | (with_reducible refine below_alloc _ ?_) | (with_reducible refine below_drewN ?_ _) | (with_reducible assumption) | (with_reducible refine below_after (by assumption) ?_)))⟩
  cases d
  · cases a
    all_goals
      go_enter Try.func95, Try.ntmps95
      go_wp2_with (first | (go_at_call 85; (with_reducible refine (HT.out _).mono ?_); rintro e w1 ⟨rfl, rfl⟩) | (go_at_call 123; refine (HI.out _).mono ?_; rintro e w1 ⟨rfl, rfl⟩) | (go_at_call 85; (with_reducible refine (HL.out _).mono ?_); rintro e w1 ⟨rfl, rfl⟩) | (go_at_call 124; refine (HA.out _ (by (repeat (first | (with_reducible exact Below.refl _ _) | (with_reducible refine below_setCell ?_ (by first | (simp; done) | (simp; omega) | omega)) | (with_reducible refine below_alloc _ ?_) | (with_reducible refine below_drewN ?_ _) | (with_reducible assumption) | (with_reducible refine below_after (by assumption) ?_))))).mono ?_; rintro e w2 ⟨rfl, k2⟩; have hx2 := bcell k2; have q2 : w.heap.size < w2.heap.size := (by have := k2.size; simp at this; omega); have b2 : Below w.heap.size w w2 := below_after k2 (by (repeat (first | (with_reducible exact Below.refl _ _) | (with_reducible refine below_setCell ?_ (by first | (simp; done) | (simp; omega) | omega)) | (with_reducible refine below_alloc _ ?_) | (with_reducible refine below_drewN ?_ _) | (with_reducible assumption) | (with_reducible refine below_after (by assumption) ?_))))))
      go_ret
      exact ⟨ret_bool (by rw [← HG.out]; simp), by (repeat (first | (with_reducible exact Below.refl _ _) | (with_reducible refine below_setCell ?_ (by first | (simp; done) | (simp; omega) | omega)) | (with_reducible refine below_alloc _ ?_) | (with_reducible refine below_drewN ?_ _) | (with_reducible assumption) | (with_reducible refine below_after (by assumption) ?_)))⟩
  cases a
  · go_enter Try.func95, Try.ntmps95
    go_wp2_with (first | (go_at_call 85; (with_reducible refine (HT.out _).mono ?_); rintro e w1 ⟨rfl, rfl⟩) | (go_at_call 123; refine (HI.out _).mono ?_; rintro e w1 ⟨rfl, rfl⟩) | (go_at_call 85; (with_reducible refine (HL.out _).mono ?_); rintro e w1 ⟨rfl, rfl⟩) | (go_at_call 124; refine (HA.out _ (by (repeat (first | (with_reducible exact Below.refl _ _) | (with_reducible refine below_setCell ?_ (by first | (simp; done) | (simp; omega) | omega)) | (with_reducible refine below_alloc _ ?_) | (with_reducible refine below_drewN ?_ _) | (with_reducible assumption) | (with_reducible refine below_after (by assumption) ?_))))).mono ?_; rintro e w2 ⟨rfl, k2⟩; have hx2 := bcell k2; have q2 : w.heap.size < w2.heap.size := (by have := k2.size; simp at this; omega); have b2 : Below w.heap.size w w2 := below_after k2 (by (repeat (first | (with_reducible exact Below.refl _ _) | (with_reducible refine below_setCell ?_ (by first | (simp; done) | (simp; omega) | omega)) | (with_reducible refine below_alloc _ ?_) | (with_reducible refine below_drewN ?_ _) | (with_reducible assumption) | (with_reducible refine below_after (by assumption) ?_))))))
    go_ret
    exact ⟨ret_bool (by rw [← HG.out]; simp), by (repeat (first | (with_reducible exact Below.refl _ _) | (with_reducible refine below_setCell ?_ (by first | (simp; done) | (simp; omega) | omega)) | (with_reducible refine below_alloc _ ?_) | (with_reducible refine below_drewN ?_ _) | (with_reducible assumption) | (with_reducible refine below_after (by assumption) ?_)))⟩
  cases g
  · go_enter Try.func95, Try.ntmps95
    go_wp2_with (first | (go_at_call 85; (with_reducible refine (HT.out _).mono ?_); rintro e w1 ⟨rfl, rfl⟩) | (go_at_call 123; refine (HI.out _).mono ?_; rintro e w1 ⟨rfl, rfl⟩) | (go_at_call 85; (with_reducible refine (HL.out _).mono ?_); rintro e w1 ⟨rfl, rfl⟩) | (go_at_call 124; refine (HA.out _ (by (repeat (first | (with_reducible exact Below.refl _ _) | (with_reducible refine below_setCell ?_ (by first | (simp; done) | (simp; omega) | omega)) | (with_reducible refine below_alloc _ ?_) | (with_reducible refine below_drewN ?_ _) | (with_reducible assumption) | (with_reducible refine below_after (by assumption) ?_))))).mono ?_; rintro e w2 ⟨rfl, k2⟩; have hx2 := bcell k2; have q2 : w.heap.size < w2.heap.size := (by have := k2.size; simp at this; omega); have b2 : Below w.heap.size w w2 := below_after k2 (by (repeat (first | (with_reducible exact Below.refl _ _) | (with_reducible refine below_setCell ?_ (by first | (simp; done) | (simp; omega) | omega)) | (with_reducible refine below_alloc _ ?_) | (with_reducible refine below_drewN ?_ _) | (with_reducible assumption) | (with_reducible refine below_after (by assumption) ?_))))) | (go_at_call 125; refine (HW.out _ (by (repeat (first | (with_reducible exact Below.refl _ _) | (with_reducible refine below_setCell ?_ (by first | (simp; done) | (simp; omega) | omega)) | (with_reducible refine below_alloc _ ?_) | (with_reducible refine below_drewN ?_ _) | (with_reducible assumption) | (with_reducible refine below_after (by assumption) ?_))))).mono ?_; rintro e w3 ⟨rfl, k3⟩; have hx3 := bcell k3; have q3 : w.heap.size < w3.heap.size := Nat.lt_of_lt_of_le q2 k3.size; have b3 : Below w.heap.size w w3 := below_after k3 b2))
    go_ret
    exact ⟨ret_bool (by rw [← HG.out]; simp), by (repeat (first | (with_reducible exact Below.refl _ _) | (with_reducible refine below_setCell ?_ (by first | (simp; done) | (simp; omega) | omega)) | (with_reducible refine below_alloc _ ?_) | (with_reducible refine below_drewN ?_ _) | (with_reducible assumption) | (with_reducible refine below_after (by assumption) ?_)))⟩
  cases f
  · go_enter Try.func95, Try.ntmps95
    go_wp2_with (first | (go_at_call 85; (with_reducible refine (HT.out _).mono ?_); rintro e w1 ⟨rfl, rfl⟩) | (go_at_call 123; refine (HI.out _).mono ?_; rintro e w1 ⟨rfl, rfl⟩) | (go_at_call 85; (with_reducible refine (HL.out _).mono ?_); rintro e w1 ⟨rfl, rfl⟩) | (go_at_call 124; refine (HA.out _ (by (repeat (first | (with_reducible exact Below.refl _ _) | (with_reducible refine below_setCell ?_ (by first | (simp; done) | (simp; omega) | omega)) | (with_reducible refine below_alloc _ ?_) | (with_reducible refine below_drewN ?_ _) | (with_reducible assumption) | (with_reducible refine below_after (by assumption) ?_))))).mono ?_; rintro e w2 ⟨rfl, k2⟩; have hx2 := bcell k2; have q2 : w.heap.size < w2.heap.size := (by have := k2.size; simp at this; omega); have b2 : Below w.heap.size w w2 := below_after k2 (by (repeat (first | (with_reducible exact Below.refl _ _) | (with_reducible refine below_setCell ?_ (by first | (simp; done) | (simp; omega) | omega)) | (with_reducible refine below_alloc _ ?_) | (with_reducible refine below_drewN ?_ _) | (with_reducible assumption) | (with_reducible refine below_after (by assumption) ?_))))) | (go_at_call 125; refine (HW.out _ (by (repeat (first | (with_reducible exact Below.refl _ _) | (with_reducible refine below_setCell ?_ (by first | (simp; done) | (simp; omega) | omega)) | (with_reducible refine below_alloc _ ?_) | (with_reducible refine below_drewN ?_ _) | (with_reducible assumption) | (with_reducible refine below_after (by assumption) ?_))))).mono ?_; rintro e w3 ⟨rfl, k3⟩; have hx3 := bcell k3; have q3 : w.heap.size < w3.heap.size := Nat.lt_of_lt_of_le q2 k3.size; have b3 : Below w.heap.size w w3 := below_after k3 b2) | (go_at_call 85; (with_reducible refine (HN.out _).mono ?_); rintro e w1 ⟨rfl, rfl⟩))
    go_ret
    exact ⟨ret_bool (by rw [← HG.out]; simp), by (repeat (first | (with_reducible exact Below.refl _ _) | (with_reducible refine below_setCell ?_ (by first | (simp; done) | (simp; omega) | omega)) | (with_reducible refine below_alloc _ ?_) | (with_reducible refine below_drewN ?_ _) | (with_reducible assumption) | (with_reducible refine below_after (by assumption) ?_)))⟩
  by_cases hs : 0 < nr + nw
  rotate_left
  · have hs2 : (nr : Int) + (nw : Int) ≤ 0 := by omega
    go_enter Try.func95, Try.ntmps95
    go_wp2_with (first | (go_at_call 85; (with_reducible refine (HT.out _).mono ?_); rintro e w1 ⟨rfl, rfl⟩) | (go_at_call 123; refine (HI.out _).mono ?_; rintro e w1 ⟨rfl, rfl⟩) | (go_at_call 85; (with_reducible refine (HL.out _).mono ?_); rintro e w1 ⟨rfl, rfl⟩) | (go_at_call 124; refine (HA.out _ (by (repeat (first | (with_reducible exact Below.refl _ _) | (with_reducible refine below_setCell ?_ (by first | (simp; done) | (simp; omega) | omega)) | (with_reducible refine below_alloc _ ?_) | (with_reducible refine below_drewN ?_ _) | (with_reducible assumption) | (with_reducible refine below_after (by assumption) ?_))))).mono ?_; rintro e w2 ⟨rfl, k2⟩; have hx2 := bcell k2; have q2 : w.heap.size < w2.heap.size := (by have := k2.size; simp at this; omega); have b2 : Below w.heap.size w w2 := below_after k2 (by (repeat (first | (with_reducible exact Below.refl _ _) | (with_reducible refine below_setCell ?_ (by first | (simp; done) | (simp; omega) | omega)) | (with_reducible refine below_alloc _ ?_) | (with_reducible refine below_drewN ?_ _) | (with_reducible assumption) | (with_reducible refine below_after (by assumption) ?_))))) | (go_at_call 125; refine (HW.out _ (by (repeat (first | (with_reducible exact Below.refl _ _) | (with_reducible refine below_setCell ?_ (by first | (simp; done) | (simp; omega) | omega)) | (with_reducible refine below_alloc _ ?_) | (with_reducible refine below_drewN ?_ _) | (with_reducible assumption) | (with_reducible refine below_after (by assumption) ?_))))).mono ?_; rintro e w3 ⟨rfl, k3⟩; have hx3 := bcell k3; have q3 : w.heap.size < w3.heap.size := Nat.lt_of_lt_of_le q2 k3.size; have b3 : Below w.heap.size w w3 := below_after k3 b2) | (go_at_call 85; (with_reducible refine (HN.out _).mono ?_); rintro e w1 ⟨rfl, rfl⟩))
    go_ret
    exact ⟨ret_bool (by rw [← HG.out]; simp; omega), by (repeat (first | (with_reducible exact Below.refl _ _) | (with_reducible refine below_setCell ?_ (by first | (simp; done) | (simp; omega) | omega)) | (with_reducible refine below_alloc _ ?_) | (with_reducible refine below_drewN ?_ _) | (with_reducible assumption) | (with_reducible refine below_after (by assumption) ?_)))⟩
  have hs2 : 0 < (nr : Int) + (nw : Int) := by omega
  cases Y
  all_goals
    go_enter Try.func95, Try.ntmps95
    go_wp2_with (first | (go_at_call 85; (with_reducible refine (HT.out _).mono ?_); rintro e w1 ⟨rfl, rfl⟩) | (go_at_call 123; refine (HI.out _).mono ?_; rintro e w1 ⟨rfl, rfl⟩) | (go_at_call 85; (with_reducible refine (HL.out _).mono ?_); rintro e w1 ⟨rfl, rfl⟩) | (go_at_call 124; refine (HA.out _ (by (repeat (first | (with_reducible exact Below.refl _ _) | (with_reducible refine below_setCell ?_ (by first | (simp; done) | (simp; omega) | omega)) | (with_reducible refine below_alloc _ ?_) | (with_reducible refine below_drewN ?_ _) | (with_reducible assumption) | (with_reducible refine below_after (by assumption) ?_))))).mono ?_; rintro e w2 ⟨rfl, k2⟩; have hx2 := bcell k2; have q2 : w.heap.size < w2.heap.size := (by have := k2.size; simp at this; omega); have b2 : Below w.heap.size w w2 := below_after k2 (by (repeat (first | (with_reducible exact Below.refl _ _) | (with_reducible refine below_setCell ?_ (by first | (simp; done) | (simp; omega) | omega)) | (with_reducible refine below_alloc _ ?_) | (with_reducible refine below_drewN ?_ _) | (with_reducible assumption) | (with_reducible refine below_after (by assumption) ?_))))) | (go_at_call 125; refine (HW.out _ (by (repeat (first | (with_reducible exact Below.refl _ _) | (with_reducible refine below_setCell ?_ (by first | (simp; done) | (simp; omega) | omega)) | (with_reducible refine below_alloc _ ?_) | (with_reducible refine below_drewN ?_ _) | (with_reducible assumption) | (with_reducible refine below_after (by assumption) ?_))))).mono ?_; rintro e w3 ⟨rfl, k3⟩; have hx3 := bcell k3; have q3 : w.heap.size < w3.heap.size := Nat.lt_of_lt_of_le q2 k3.size; have b3 : Below w.heap.size w w3 := below_after k3 b2) | (go_at_call 85; (with_reducible refine (HN.out _).mono ?_); rintro e w1 ⟨rfl, rfl⟩))
    go_ret
    exact ⟨ret_bool (by rw [← HG.out]; simp [hs]), by (repeat (first | (with_reducible exact Below.refl _ _) | (with_reducible refine below_setCell ?_ (by first | (simp; done) | (simp; omega) | omega)) | (with_reducible refine below_alloc _ ?_) | (with_reducible refine below_drewN ?_ _) | (with_reducible assumption) | (with_reducible refine below_after (by assumption) ?_)))⟩

end Go.Proofs.Ytogdbjalgledpaa
