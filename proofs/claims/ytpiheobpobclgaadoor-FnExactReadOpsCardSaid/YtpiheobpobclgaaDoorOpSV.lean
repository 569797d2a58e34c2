/- One operation with a value, spec. -/
import Derived.Test.YtpiheobpobclgaaDoorOp1
namespace Go.Proofs.YtpiheobpobclgaaDoor
open Go.RowKit

set_option maxRecDepth 100000 in
set_option maxHeartbeats 6400000 in
theorem l5OpV (K : Int) (key val : ByteArray) (by_ : Int) (hK : K = 2 ∨ K = 7) (h1 : key.size ≤ maxLen) (h2 : val.size ≤ maxLen) (w : World) :
    Calls Tryd.prog 50 #[.agg #[.int .i64 K, .string key, .string val, .int .i64 by_]] w fun e w' => e = .returned (.bool (opB ⟨K, key, val, by_⟩)) ∧ Below w.heap.size w w' := by
  have Ho := Lib.hid (opB_V hK key val by_)
  have HK := Lib.hid (l3Key_any key h1)
  have HV := Lib.hid (l3Val_any val h2)
  have HI := Lib.hid (l1In_any by_ (-9999) 9999)
  clear h1 h2
  generalize opB ⟨K, key, val, by_⟩ = q at *
  generalize keyB key = a at *
  rcases hK with rfl | rfl
  all_goals
    cases a
    · go_enter Tryd.func50, Tryd.ntmps50
      go_wp2_with fail
      refine (HK.out _).mono ?_
      rintro e w1 ⟨rfl, k1⟩
      have b1 : Below w.heap.size w w1 := below_after k1 (by (repeat (first | (with_reducible exact Below.refl _ _) | (with_reducible refine below_setCell ?_ (by first | (simp; done) | (simp; omega) | omega)) | (with_reducible refine below_alloc _ ?_) | (with_reducible refine below_drewN ?_ _) | (with_reducible assumption) | (with_reducible refine below_after (by assumption) ?_))))
      have hx := bcell k1
      have q0 : w.heap.size < w1.heap.size := by have := k1.size; simp at this; omega
      go_wp2
      go_ret
      exact ⟨ret_bool (by first | (rw [Ho.out]; done) | (rw [Ho.out]; simp [*]; done) | (rw [Ho.out]; rfl)), by (repeat (first | (with_reducible exact Below.refl _ _) | (with_reducible refine below_setCell ?_ (by first | (simp; done) | (simp; omega) | omega)) | (with_reducible refine below_alloc _ ?_) | (with_reducible refine below_drewN ?_ _) | (with_reducible assumption) | (with_reducible refine below_after (by assumption) ?_)))⟩
    · generalize valB val = b at *
      cases b
      · go_enter Tryd.func50, Tryd.ntmps50
        go_wp2_with fail
        refine (HK.out _).mono ?_
        rintro e w1 ⟨rfl, k1⟩
        have b1 : Below w.heap.size w w1 := below_after k1 (by (repeat (first | (with_reducible exact Below.refl _ _) | (with_reducible refine below_setCell ?_ (by first | (simp; done) | (simp; omega) | omega)) | (with_reducible refine below_alloc _ ?_) | (with_reducible refine below_drewN ?_ _) | (with_reducible assumption) | (with_reducible refine below_after (by assumption) ?_))))
        have hx := bcell k1
        have q0 : w.heap.size < w1.heap.size := by have := k1.size; simp at this; omega
        go_wp2_with fail
        refine (HV.out _).mono ?_
        rintro e w2 ⟨rfl, k2⟩
        have hx2 := bcell k2
        have b2 : Below w.heap.size w w2 := below_after k2 b1
        go_wp2
        go_ret
        exact ⟨ret_bool (by first | (rw [Ho.out]; done) | (rw [Ho.out]; simp [*]; done) | (rw [Ho.out]; rfl)), by (repeat (first | (with_reducible exact Below.refl _ _) | (with_reducible refine below_setCell ?_ (by first | (simp; done) | (simp; omega) | omega)) | (with_reducible refine below_alloc _ ?_) | (with_reducible refine below_drewN ?_ _) | (with_reducible assumption) | (with_reducible refine below_after (by assumption) ?_)))⟩
      · by_cases hz : by_ = 0
        · subst hz
          go_enter Tryd.func50, Tryd.ntmps50
          go_wp2_with fail
          refine (HK.out _).mono ?_
          rintro e w1 ⟨rfl, k1⟩
          have b1 : Below w.heap.size w w1 := below_after k1 (by (repeat (first | (with_reducible exact Below.refl _ _) | (with_reducible refine below_setCell ?_ (by first | (simp; done) | (simp; omega) | omega)) | (with_reducible refine below_alloc _ ?_) | (with_reducible refine below_drewN ?_ _) | (with_reducible assumption) | (with_reducible refine below_after (by assumption) ?_))))
          have hx := bcell k1
          have q0 : w.heap.size < w1.heap.size := by have := k1.size; simp at this; omega
          go_wp2_with fail
          refine (HV.out _).mono ?_
          rintro e w2 ⟨rfl, k2⟩
          have hx2 := bcell k2
          have b2 : Below w.heap.size w w2 := below_after k2 b1
          go_wp2
          go_ret
          exact ⟨ret_bool (by first | (rw [Ho.out]; done) | (rw [Ho.out]; simp [*]; done) | (rw [Ho.out]; rfl)), by (repeat (first | (with_reducible exact Below.refl _ _) | (with_reducible refine below_setCell ?_ (by first | (simp; done) | (simp; omega) | omega)) | (with_reducible refine below_alloc _ ?_) | (with_reducible refine below_drewN ?_ _) | (with_reducible assumption) | (with_reducible refine below_after (by assumption) ?_)))⟩
        · have hz2 : (by_ == 0) = false := by simpa using hz
          go_enter Tryd.func50, Tryd.ntmps50
          go_wp2_with fail
          refine (HK.out _).mono ?_
          rintro e w1 ⟨rfl, k1⟩
          have b1 : Below w.heap.size w w1 := below_after k1 (by (repeat (first | (with_reducible exact Below.refl _ _) | (with_reducible refine below_setCell ?_ (by first | (simp; done) | (simp; omega) | omega)) | (with_reducible refine below_alloc _ ?_) | (with_reducible refine below_drewN ?_ _) | (with_reducible assumption) | (with_reducible refine below_after (by assumption) ?_))))
          have hx := bcell k1
          have q0 : w.heap.size < w1.heap.size := by have := k1.size; simp at this; omega
          go_wp2_with fail
          refine (HV.out _).mono ?_
          rintro e w2 ⟨rfl, k2⟩
          have hx2 := bcell k2
          have b2 : Below w.heap.size w w2 := below_after k2 b1
          go_wp2
          go_ret
          exact ⟨ret_bool (by first | (rw [Ho.out]; done) | (rw [Ho.out]; simp [*]; done) | (rw [Ho.out]; rfl)), by (repeat (first | (with_reducible exact Below.refl _ _) | (with_reducible refine below_setCell ?_ (by first | (simp; done) | (simp; omega) | omega)) | (with_reducible refine below_alloc _ ?_) | (with_reducible refine below_drewN ?_ _) | (with_reducible assumption) | (with_reducible refine below_after (by assumption) ?_)))⟩

end Go.Proofs.YtpiheobpobclgaaDoor
