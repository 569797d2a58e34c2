/- GoodRec, impl, kind 1. -/
import Derived.Test.YtogdbjalgledpaaGoodRec1
namespace Go.Proofs.Ytogdbjalgledpaa
open Go.RowKit

set_option maxRecDepth 100000 in
set_option maxHeartbeats 6400000 in
theorem goodRec_1 (T Ti L : Int) (pr pw : Option Addr) (nr nw cr cw : Nat) (Y : Bool) (R : List ByteArray) (Wr : List WriteD) (hnr : nr ≤ 1048576) (hnw : nw ≤ 1048576) (hR : R.length = nr) (hW : Wr.length = nw) (w : World) (rR : Rd Cod.str w (.slice pr nr cr) R) (rW : Rd Cod.write w (.slice pw nw cw) Wr) :
    Calls Try.prog 60 #[.agg #[.int .i64 1, .int .i64 T, .int .i64 Ti, .int .i64 L, .slice pr nr cr, .slice pw nw cw, .bool Y]] w fun e w' => e = .returned (.bool (inB T 1 60 && (inB Ti 1 100000 && (inB L 0 3 && (decide (nr ≤ 8) && (pB (Rising R) && (decide (nw ≤ 8) && (goodWB Wr && (decide (0 < nr + nw) && !Y))))))))) ∧ Below w.heap.size w w' := by
  have hnrI : (nr : Int) ≤ 1048576 := by omega
  have hnwI : (nw : Int) ≤ 1048576 := by omega
  have HT := Lib.hid (isTxn_any T)
  have HI := Lib.hid (isTime_any Ti)
  have HL := Lib.hid (within_any L 0 3)
  have HA := Lib.hid (fun (W : World) (b : Below w.heap.size w W) => areRising_any _ R (by omega) W (rR.below b))
  have HW := Lib.hid (fun (W : World) (b : Below w.heap.size w W) => goodWrites_any _ Wr (by omega) W (rW.below b))
  clear rR rW hR hW
  obtain ⟨G, hG⟩ : ∃ G, (inB T 1 60 && (inB Ti 1 100000 && (inB L 0 3 && (decide (nr ≤ 8) && (pB (Rising R) && (decide (nw ≤ 8) && (goodWB Wr && (decide (0 < nr + nw) && !Y)))))))) = G := ⟨_, rfl⟩
  have HG := Lib.hid hG
  rw [hG]
  clear hG
  generalize inB T 1 60 = t at *
  generalize inB Ti 1 100000 = i at *
  generalize inB L 0 3 = l at *
  generalize pB (Rising R) = a at *
  generalize goodWB Wr = g at *
  go_enter Try.func60, Try.ntmps60
  go_upto_region 1 with fail
  go_cut [3] (fun s wx => s = .bool (bareB L nr nw) ∧ wx = w.alloc (.cells #[.int .i64 1, .int .i64 T, .int .i64 Ti, .int .i64 L, .slice pr nr cr, .slice pw nw cw, .bool Y] 45))
  case first =>
    by_cases h1 : L = 0
    · subst h1
      by_cases h2 : nr = 0
      · subst h2
        by_cases h3 : nw = 0
        · subst h3
          go_wp2
          go_meet
          exact ⟨rfl, rfl⟩
        · have h3' : ((nw : Int) == 0) = false := by simp; omega
          have Hb : Hid (bareB 0 0 nw = false) := Lib.hid (by unfold bareB; simp [h3])
          go_wp2
          go_meet
          exact ⟨by rw [Hb.out], rfl⟩
      · have h2' : ((nr : Int) == 0) = false := by simp; omega
        have Hb : Hid (bareB 0 nr nw = false) := Lib.hid (by unfold bareB; simp [h2])
        go_wp2
        go_meet
        exact ⟨by rw [Hb.out], rfl⟩
    · have h1' : (L == 0) = false := by simpa using h1
      have Hb : Hid (bareB L nr nw = false) := Lib.hid (by unfold bareB; simp [h1])
      go_wp2
      go_meet
      exact ⟨by rw [Hb.out], rfl⟩
  case rest =>
    obtain ⟨rfl, rfl⟩ := hcut
    generalize bareB L nr nw = bb at *
    cases t
    · go_wp2_with (go_at_call 97; refine (HT.out _).mono ?_; rintro e w1 ⟨rfl, rfl⟩)
      go_ret
      exact ⟨ret_bool (by rw [← HG.out]; rfl), by (repeat (first | (with_reducible exact Below.refl _ _) | (with_reducible refine below_setCell ?_ (by first | (simp; done) | (simp; omega) | omega)) | (with_reducible refine below_alloc _ ?_) | (with_reducible refine below_drewN ?_ _) | (with_reducible assumption) | (with_reducible refine below_after (by assumption) ?_)))⟩
    cases i
    · go_wp2_with (first | (go_at_call 97; refine (HT.out _).mono ?_; rintro e w1 ⟨rfl, rfl⟩) | (go_at_call 98; refine (HI.out _).mono ?_; rintro e w1 ⟨rfl, rfl⟩))
      go_ret
      exact ⟨ret_bool (by rw [← HG.out]; rfl), by (repeat (first | (with_reducible exact Below.refl _ _) | (with_reducible refine below_setCell ?_ (by first | (simp; done) | (simp; omega) | omega)) | (with_reducible refine below_alloc _ ?_) | (with_reducible refine below_drewN ?_ _) | (with_reducible assumption) | (with_reducible refine below_after (by assumption) ?_)))⟩
    cases l
    · go_wp2_with (first | (go_at_call 97; refine (HT.out _).mono ?_; rintro e w1 ⟨rfl, rfl⟩) | (go_at_call 98; refine (HI.out _).mono ?_; rintro e w1 ⟨rfl, rfl⟩) | (go_at_call 80; refine (HL.out _).mono ?_; rintro e w1 ⟨rfl, rfl⟩))
      go_ret
      exact ⟨ret_bool (by rw [← HG.out]; rfl), by (repeat (first | (with_reducible exact Below.refl _ _) | (with_reducible refine below_setCell ?_ (by first | (simp; done) | (simp; omega) | omega)) | (with_reducible refine below_alloc _ ?_) | (with_reducible refine below_drewN ?_ _) | (with_reducible assumption) | (with_reducible refine below_after (by assumption) ?_)))⟩
    by_cases h8 : nr ≤ 8
    rotate_left
    · have h9 : (8 : Int) < (nr : Int) := by omega
      go_wp2_with (first | (go_at_call 97; refine (HT.out _).mono ?_; rintro e w1 ⟨rfl, rfl⟩) | (go_at_call 98; refine (HI.out _).mono ?_; rintro e w1 ⟨rfl, rfl⟩) | (go_at_call 80; refine (HL.out _).mono ?_; rintro e w1 ⟨rfl, rfl⟩))
      go_ret
      exact ⟨ret_bool (by rw [← HG.out]; simp [h8]), by (repeat (first | (with_reducible exact Below.refl _ _) | (with_reducible refine below_setCell ?_ (by first | (simp; done) | (simp; omega) | omega)) | (with_reducible refine below_alloc _ ?_) | (with_reducible refine below_drewN ?_ _) | (with_reducible assumption) | (with_reducible refine below_after (by assumption) ?_)))⟩
    have h9 : (nr : Int) ≤ 8 := by omega
    cases a
    · go_wp2_with (first | (go_at_call 97; refine (HT.out _).mono ?_; rintro e w1 ⟨rfl, rfl⟩) | (go_at_call 98; refine (HI.out _).mono ?_; rintro e w1 ⟨rfl, rfl⟩) | (go_at_call 80; refine (HL.out _).mono ?_; rintro e w1 ⟨rfl, rfl⟩) | (go_at_call 99; refine (HA.out _ (by (repeat (first | (with_reducible exact Below.refl _ _) | (with_reducible refine below_setCell ?_ (by first | (simp; done) | (simp; omega) | omega)) | (with_reducible refine below_alloc _ ?_) | (with_reducible refine below_drewN ?_ _) | (with_reducible assumption) | (with_reducible refine below_after (by assumption) ?_))))).mono ?_; rintro e w2 ⟨rfl, k2⟩; have hx2 := bcell k2; have q2 : w.heap.size < w2.heap.size := (by have := k2.size; simp at this; omega); have b2 : Below w.heap.size w w2 := below_after k2 (by (repeat (first | (with_reducible exact Below.refl _ _) | (with_reducible refine below_setCell ?_ (by first | (simp; done) | (simp; omega) | omega)) | (with_reducible refine below_alloc _ ?_) | (with_reducible refine below_drewN ?_ _) | (with_reducible assumption) | (with_reducible refine below_after (by assumption) ?_))))))
      go_ret
      exact ⟨ret_bool (by rw [← HG.out]; simp), by (repeat (first | (with_reducible exact Below.refl _ _) | (with_reducible refine below_setCell ?_ (by first | (simp; done) | (simp; omega) | omega)) | (with_reducible refine below_alloc _ ?_) | (with_reducible refine below_drewN ?_ _) | (with_reducible assumption) | (with_reducible refine below_after (by assumption) ?_)))⟩
    by_cases g8 : nw ≤ 8
    rotate_left
    · have g9 : (8 : Int) < (nw : Int) := by omega
      go_wp2_with (first | (go_at_call 97; refine (HT.out _).mono ?_; rintro e w1 ⟨rfl, rfl⟩) | (go_at_call 98; refine (HI.out _).mono ?_; rintro e w1 ⟨rfl, rfl⟩) | (go_at_call 80; refine (HL.out _).mono ?_; rintro e w1 ⟨rfl, rfl⟩) | (go_at_call 99; refine (HA.out _ (by (repeat (first | (with_reducible exact Below.refl _ _) | (with_reducible refine below_setCell ?_ (by first | (simp; done) | (simp; omega) | omega)) | (with_reducible refine below_alloc _ ?_) | (with_reducible refine below_drewN ?_ _) | (with_reducible assumption) | (with_reducible refine below_after (by assumption) ?_))))).mono ?_; rintro e w2 ⟨rfl, k2⟩; have hx2 := bcell k2; have q2 : w.heap.size < w2.heap.size := (by have := k2.size; simp at this; omega); have b2 : Below w.heap.size w w2 := below_after k2 (by (repeat (first | (with_reducible exact Below.refl _ _) | (with_reducible refine below_setCell ?_ (by first | (simp; done) | (simp; omega) | omega)) | (with_reducible refine below_alloc _ ?_) | (with_reducible refine below_drewN ?_ _) | (with_reducible assumption) | (with_reducible refine below_after (by assumption) ?_))))))
      go_ret
      exact ⟨ret_bool (by rw [← HG.out]; simp [g8]), by (repeat (first | (with_reducible exact Below.refl _ _) | (with_reducible refine below_setCell ?_ (by first | (simp; done) | (simp; omega) | omega)) | (with_reducible refine below_alloc _ ?_) | (with_reducible refine below_drewN ?_ _) | (with_reducible assumption) | (with_reducible refine below_after (by assumption) ?_)))⟩
    have g9 : (nw : Int) ≤ 8 := by omega
    cases g
    · go_wp2_with (first | (go_at_call 97; refine (HT.out _).mono ?_; rintro e w1 ⟨rfl, rfl⟩) | (go_at_call 98; refine (HI.out _).mono ?_; rintro e w1 ⟨rfl, rfl⟩) | (go_at_call 80; refine (HL.out _).mono ?_; rintro e w1 ⟨rfl, rfl⟩) | (go_at_call 99; refine (HA.out _ (by (repeat (first | (with_reducible exact Below.refl _ _) | (with_reducible refine below_setCell ?_ (by first | (simp; done) | (simp; omega) | omega)) | (with_reducible refine below_alloc _ ?_) | (with_reducible refine below_drewN ?_ _) | (with_reducible assumption) | (with_reducible refine below_after (by assumption) ?_))))).mono ?_; rintro e w2 ⟨rfl, k2⟩; have hx2 := bcell k2; have q2 : w.heap.size < w2.heap.size := (by have := k2.size; simp at this; omega); have b2 : Below w.heap.size w w2 := below_after k2 (by (repeat (first | (with_reducible exact Below.refl _ _) | (with_reducible refine below_setCell ?_ (by first | (simp; done) | (simp; omega) | omega)) | (with_reducible refine below_alloc _ ?_) | (with_reducible refine below_drewN ?_ _) | (with_reducible assumption) | (with_reducible refine below_after (by assumption) ?_))))) | (go_at_call 100; refine (HW.out _ (by (repeat (first | (with_reducible exact Below.refl _ _) | (with_reducible refine below_setCell ?_ (by first | (simp; done) | (simp; omega) | omega)) | (with_reducible refine below_alloc _ ?_) | (with_reducible refine below_drewN ?_ _) | (with_reducible assumption) | (with_reducible refine below_after (by assumption) ?_))))).mono ?_; rintro e w3 ⟨rfl, k3⟩; have hx3 := bcell k3; have q3 : w.heap.size < w3.heap.size := Nat.lt_of_lt_of_le q2 k3.size; have b3 : Below w.heap.size w w3 := below_after k3 b2))
      go_ret
      exact ⟨ret_bool (by rw [← HG.out]; simp), by (repeat (first | (with_reducible exact Below.refl _ _) | (with_reducible refine below_setCell ?_ (by first | (simp; done) | (simp; omega) | omega)) | (with_reducible refine below_alloc _ ?_) | (with_reducible refine below_drewN ?_ _) | (with_reducible assumption) | (with_reducible refine below_after (by assumption) ?_)))⟩
    by_cases hs : 0 < nr + nw
    rotate_left
    · have hs2 : (nr : Int) + (nw : Int) ≤ 0 := by omega
      go_wp2_with (first | (go_at_call 97; refine (HT.out _).mono ?_; rintro e w1 ⟨rfl, rfl⟩) | (go_at_call 98; refine (HI.out _).mono ?_; rintro e w1 ⟨rfl, rfl⟩) | (go_at_call 80; refine (HL.out _).mono ?_; rintro e w1 ⟨rfl, rfl⟩) | (go_at_call 99; refine (HA.out _ (by (repeat (first | (with_reducible exact Below.refl _ _) | (with_reducible refine below_setCell ?_ (by first | (simp; done) | (simp; omega) | omega)) | (with_reducible refine below_alloc _ ?_) | (with_reducible refine below_drewN ?_ _) | (with_reducible assumption) | (with_reducible refine below_after (by assumption) ?_))))).mono ?_; rintro e w2 ⟨rfl, k2⟩; have hx2 := bcell k2; have q2 : w.heap.size < w2.heap.size := (by have := k2.size; simp at this; omega); have b2 : Below w.heap.size w w2 := below_after k2 (by (repeat (first | (with_reducible exact Below.refl _ _) | (with_reducible refine below_setCell ?_ (by first | (simp; done) | (simp; omega) | omega)) | (with_reducible refine below_alloc _ ?_) | (with_reducible refine below_drewN ?_ _) | (with_reducible assumption) | (with_reducible refine below_after (by assumption) ?_))))) | (go_at_call 100; refine (HW.out _ (by (repeat (first | (with_reducible exact Below.refl _ _) | (with_reducible refine below_setCell ?_ (by first | (simp; done) | (simp; omega) | omega)) | (with_reducible refine below_alloc _ ?_) | (with_reducible refine below_drewN ?_ _) | (with_reducible assumption) | (with_reducible refine below_after (by assumption) ?_))))).mono ?_; rintro e w3 ⟨rfl, k3⟩; have hx3 := bcell k3; have q3 : w.heap.size < w3.heap.size := Nat.lt_of_lt_of_le q2 k3.size; have b3 : Below w.heap.size w w3 := below_after k3 b2))
      go_ret
      exact ⟨ret_bool (by rw [← HG.out]; simp; omega), by (repeat (first | (with_reducible exact Below.refl _ _) | (with_reducible refine below_setCell ?_ (by first | (simp; done) | (simp; omega) | omega)) | (with_reducible refine below_alloc _ ?_) | (with_reducible refine below_drewN ?_ _) | (with_reducible assumption) | (with_reducible refine below_after (by assumption) ?_)))⟩
    have hs2 : 0 < (nr : Int) + (nw : Int) := by omega
    cases Y
    all_goals
      go_wp2_with (first | (go_at_call 97; refine (HT.out _).mono ?_; rintro e w1 ⟨rfl, rfl⟩) | (go_at_call 98; refine (HI.out _).mono ?_; rintro e w1 ⟨rfl, rfl⟩) | (go_at_call 80; refine (HL.out _).mono ?_; rintro e w1 ⟨rfl, rfl⟩) | (go_at_call 99; refine (HA.out _ (by (repeat (first | (with_reducible exact Below.refl _ _) | (with_reducible refine below_setCell ?_ (by first | (simp; done) | (simp; omega) | omega)) | (with_reducible refine below_alloc _ ?_) | (with_reducible refine below_drewN ?_ _) | (with_reducible assumption) | (with_reducible refine below_after (by assumption) ?_))))).mono ?_; rintro e w2 ⟨rfl, k2⟩; have hx2 := bcell k2; have q2 : w.heap.size < w2.heap.size := (by have := k2.size; simp at this; omega); have b2 : Below w.heap.size w w2 := below_after k2 (by (repeat (first | (with_reducible exact Below.refl _ _) | (with_reducible refine below_setCell ?_ (by first | (simp; done) | (simp; omega) | omega)) | (with_reducible refine below_alloc _ ?_) | (with_reducible refine below_drewN ?_ _) | (with_reducible assumption) | (with_reducible refine below_after (by assumption) ?_))))) | (go_at_call 100; refine (HW.out _ (by (repeat (first | (with_reducible exact Below.refl _ _) | (with_reducible refine below_setCell ?_ (by first | (simp; done) | (simp; omega) | omega)) | (with_reducible refine below_alloc _ ?_) | (with_reducible refine below_drewN ?_ _) | (with_reducible assumption) | (with_reducible refine below_after (by assumption) ?_))))).mono ?_; rintro e w3 ⟨rfl, k3⟩; have hx3 := bcell k3; have q3 : w.heap.size < w3.heap.size := Nat.lt_of_lt_of_le q2 k3.size; have b3 : Below w.heap.size w w3 := below_after k3 b2))
      go_ret
      exact ⟨ret_bool (by rw [← HG.out]; simp [h8, g8, hs]), by (repeat (first | (with_reducible exact Below.refl _ _) | (with_reducible refine below_setCell ?_ (by first | (simp; done) | (simp; omega) | omega)) | (with_reducible refine below_alloc _ ?_) | (with_reducible refine below_drewN ?_ _) | (with_reducible assumption) | (with_reducible refine below_after (by assumption) ?_)))⟩

end Go.Proofs.Ytogdbjalgledpaa
