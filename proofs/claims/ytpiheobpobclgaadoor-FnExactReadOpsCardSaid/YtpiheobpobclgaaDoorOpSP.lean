/- One bare operation and none, spec. -/
import Derived.Test.YtpiheobpobclgaaDoorOp1
namespace Go.Proofs.YtpiheobpobclgaaDoor
open Go.RowKit

set_option maxRecDepth 100000 in
set_option maxHeartbeats 6400000 in
theorem l5OpP (K : Int) (key val : ByteArray) (by_ : Int) (hK : K = 1 ∨ K = 3 ∨ K = 6) (h1 : key.size ≤ maxLen) (h2 : val.size ≤ maxLen) (w : World) :
    Calls Tryd.prog 50 #[.agg #[.int .i64 K, .string key, .string val, .int .i64 by_]] w fun e w' => e = .returned (.bool (opB ⟨K, key, val, by_⟩)) ∧ Below w.heap.size w w' := by
  have Ho := Lib.hid (opB_P hK key val by_)
  have HK := Lib.hid (l3Key_any key h1)
  have HV := Lib.hid (l3Val_any val h2)
  have HI := Lib.hid (l1In_any by_ (-9999) 9999)
  clear h1 h2
  generalize opB ⟨K, key, val, by_⟩ = q at *
  generalize keyB key = a at *
  rcases hK with rfl | rfl | rfl
  all_goals
    cases a
    · go_enter Tryd.func50, Tryd.ntmps50
      go_wp2_with fail
      refine (HK.out _).mono ?_
      rintro e w1 ⟨rfl, k1⟩
      have b1 : Below w.heap.size w w1 := below_after k1 (by (repeat (first | (with_reducible exact Below.refl _ _) | (with_reducible refine below_setCell ?_ (by first | (simp; done) | (simp; omega) | omega)) | (with_reducible refine below_alloc _ ?_) | (with_reducible refine below_drewN ?_ _) | (with_reducible assumption) | (with_reducible refine below_after (by assumption) ?_))))
      have hx := bcell k1
      have q0 : w.heap.size < w1.heap.size := by have := k1.size; simp at this; omega
      go_wp2
      go_ret
      exact ⟨ret_bool (by first | (rw [Ho.out]; done) | (rw [Ho.out]; simp [*]; done) | (rw [Ho.out]; rfl)), by (repeat (first | (with_reducible exact Below.refl _ _) | (with_reducible refine below_setCell ?_ (by first | (simp; done) | (simp; omega) | omega)) | (with_reducible refine below_alloc _ ?_) | (with_reducible refine below_drewN ?_ _) | (with_reducible assumption) | (with_reducible refine below_after (by assumption) ?_)))⟩
    · by_cases h0 : val.size = 0
      rotate_left
      · have hie := someOf h0
        have hd : decide (val.size = 0) = false := by simpa using h0
        rw [hd] at Ho
        clear h0 hd
        go_enter Tryd.func50, Tryd.ntmps50
        go_wp2_with fail
        refine (HK.out _).mono ?_
        rintro e w1 ⟨rfl, k1⟩
        have b1 : Below w.heap.size w w1 := below_after k1 (by (repeat (first | (with_reducible exact Below.refl _ _) | (with_reducible refine below_setCell ?_ (by first | (simp; done) | (simp; omega) | omega)) | (with_reducible refine below_alloc _ ?_) | (with_reducible refine below_drewN ?_ _) | (with_reducible assumption) | (with_reducible refine below_after (by assumption) ?_))))
        have hx := bcell k1
        have q0 : w.heap.size < w1.heap.size := by have := k1.size; simp at this; omega
        go_wp2
        go_ret
        exact ⟨ret_bool (by first | (rw [Ho.out]; done) | (rw [Ho.out]; simp [*]; done) | (rw [Ho.out]; rfl)), by (repeat (first | (with_reducible exact Below.refl _ _) | (with_reducible refine below_setCell ?_ (by first | (simp; done) | (simp; omega) | omega)) | (with_reducible refine below_alloc _ ?_) | (with_reducible refine below_drewN ?_ _) | (with_reducible assumption) | (with_reducible refine below_after (by assumption) ?_)))⟩
      · obtain rfl := nilOf h0
        clear h0
        by_cases hz : by_ = 0
        · subst hz
          go_enter Tryd.func50, Tryd.ntmps50
          go_wp2_with fail
          refine (HK.out _).mono ?_
          rintro e w1 ⟨rfl, k1⟩
          have b1 : Below w.heap.size w w1 := below_after k1 (by (repeat (first | (with_reducible exact Below.refl _ _) | (with_reducible refine below_setCell ?_ (by first | (simp; done) | (simp; omega) | omega)) | (with_reducible refine below_alloc _ ?_) | (with_reducible refine below_drewN ?_ _) | (with_reducible assumption) | (with_reducible refine below_after (by assumption) ?_))))
          have hx := bcell k1
          have q0 : w.heap.size < w1.heap.size := by have := k1.size; simp at this; omega
          go_wp2
          go_ret
          exact ⟨ret_bool (by first | (rw [Ho.out]; done) | (rw [Ho.out]; simp [*]; done) | (rw [Ho.out]; rfl)), by (repeat (first | (with_reducible exact Below.refl _ _) | (with_reducible refine below_setCell ?_ (by first | (simp; done) | (simp; omega) | omega)) | (with_reducible refine below_alloc _ ?_) | (with_reducible refine below_drewN ?_ _) | (with_reducible assumption) | (with_reducible refine below_after (by assumption) ?_)))⟩
        · have hz2 : (by_ == 0) = false := by simpa using hz
          go_enter Tryd.func50, Tryd.ntmps50
          go_wp2_with fail
          refine (HK.out _).mono ?_
          rintro e w1 ⟨rfl, k1⟩
          have b1 : Below w.heap.size w w1 := below_after k1 (by (repeat (first | (with_reducible exact Below.refl _ _) | (with_reducible refine below_setCell ?_ (by first | (simp; done) | (simp; omega) | omega)) | (with_reducible refine below_alloc _ ?_) | (with_reducible refine below_drewN ?_ _) | (with_reducible assumption) | (with_reducible refine below_after (by assumption) ?_))))
          have hx := bcell k1
          have q0 : w.heap.size < w1.heap.size := by have := k1.size; simp at this; omega
          go_wp2
          go_ret
          exact ⟨ret_bool (by first | (rw [Ho.out]; done) | (rw [Ho.out]; simp [*]; done) | (rw [Ho.out]; rfl)), by (repeat (first | (with_reducible exact Below.refl _ _) | (with_reducible refine below_setCell ?_ (by first | (simp; done) | (simp; omega) | omega)) | (with_reducible refine below_alloc _ ?_) | (with_reducible refine below_drewN ?_ _) | (with_reducible assumption) | (with_reducible refine below_after (by assumption) ?_)))⟩

set_option maxRecDepth 100000 in
set_option maxHeartbeats 6400000 in
theorem l5OpN (K : Int) (key val : ByteArray) (by_ : Int) (hK : K < 1 ∨ 7 < K) (h1 : key.size ≤ maxLen) (h2 : val.size ≤ maxLen) (w : World) :
    Calls Tryd.prog 50 #[.agg #[.int .i64 K, .string key, .string val, .int .i64 by_]] w fun e w' => e = .returned (.bool (opB ⟨K, key, val, by_⟩)) ∧ Below w.heap.size w w' := by
  have Ho := Lib.hid (opB_no hK key val by_)
  have HK := Lib.hid (l3Key_any key h1)
  have HV := Lib.hid (l3Val_any val h2)
  have HI := Lib.hid (l1In_any by_ (-9999) 9999)
  clear h1 h2
  generalize opB ⟨K, key, val, by_⟩ = q at *
  have e1 : (K == 1) = false := by simp; omega
  have e2 : (K == 2) = false := by simp; omega
  have e3 : (K == 3) = false := by simp; omega
  have e4 : (K == 4) = false := by simp; omega
  have e5 : (K == 5) = false := by simp; omega
  have e6 : (K == 6) = false := by simp; omega
  have e7 : (K == 7) = false := by simp; omega
  clear hK
  generalize keyB key = a at *
  cases a
  · go_enter Tryd.func50, Tryd.ntmps50
    go_wp2_with fail
    refine (HK.out _).mono ?_
    rintro e w1 ⟨rfl, k1⟩
    have b1 : Below w.heap.size w w1 := below_after k1 (by (repeat (first | (with_reducible exact Below.refl _ _) | (with_reducible refine below_setCell ?_ (by first | (simp; done) | (simp; omega) | omega)) | (with_reducible refine below_alloc _ ?_) | (with_reducible refine below_drewN ?_ _) | (with_reducible assumption) | (with_reducible refine below_after (by assumption) ?_))))
    have hx := bcell k1
    have q0 : w.heap.size < w1.heap.size := by have := k1.size; simp at this; omega
    go_wp2
    go_ret
    exact ⟨ret_bool (by first | (rw [Ho.out]; done) | (rw [Ho.out]; simp [*]; done) | (rw [Ho.out]; rfl)), by (repeat (first | (with_reducible exact Below.refl _ _) | (with_reducible refine below_setCell ?_ (by first | (simp; done) | (simp; omega) | omega)) | (with_reducible refine below_alloc _ ?_) | (with_reducible refine below_drewN ?_ _) | (with_reducible assumption) | (with_reducible refine below_after (by assumption) ?_)))⟩
  · go_enter Tryd.func50, Tryd.ntmps50
    go_wp2_with fail
    refine (HK.out _).mono ?_
    rintro e w1 ⟨rfl, k1⟩
    have b1 : Below w.heap.size w w1 := below_after k1 (by (repeat (first | (with_reducible exact Below.refl _ _) | (with_reducible refine below_setCell ?_ (by first | (simp; done) | (simp; omega) | omega)) | (with_reducible refine below_alloc _ ?_) | (with_reducible refine below_drewN ?_ _) | (with_reducible assumption) | (with_reducible refine below_after (by assumption) ?_))))
    have hx := bcell k1
    have q0 : w.heap.size < w1.heap.size := by have := k1.size; simp at this; omega
    go_wp2
    go_ret
    exact ⟨ret_bool (by first | (rw [Ho.out]; done) | (rw [Ho.out]; simp [*]; done) | (rw [Ho.out]; rfl)), by (repeat (first | (with_reducible exact Below.refl _ _) | (with_reducible refine below_setCell ?_ (by first | (simp; done) | (simp; omega) | omega)) | (with_reducible refine below_alloc _ ?_) | (with_reducible refine below_drewN ?_ _) | (with_reducible assumption) | (with_reducible refine below_after (by assumption) ?_)))⟩

end Go.Proofs.YtpiheobpobclgaaDoor
