/- One operation with a number, impl. -/
import Derived.Test.YtpiheobpobclgaaDoorOp1
namespace Go.Proofs.YtpiheobpobclgaaDoor
open Go.RowKit

set_option maxRecDepth 100000 in
set_option maxHeartbeats 6400000 in
theorem isOpB (K : Int) (key val : ByteArray) (by_ : Int) (hK : K = 4 ∨ K = 5) (h1 : key.size ≤ maxLen) (h2 : val.size ≤ maxLen) (w : World) :
    Calls Tryd.prog 55 #[.agg #[.int .i64 K, .string key, .string val, .int .i64 by_]] w fun e w' => e = .returned (.bool (opB ⟨K, key, val, by_⟩)) ∧ Below w.heap.size w w' := by
  have Ho := Lib.hid (opB_B hK key val by_)
  have HK := Lib.hid (goodKey_any key h1)
  have HV := Lib.hid (goodVal_any val h2)
  have HI := Lib.hid (within_any by_ (-9999) 9999)
  have HW := Lib.hid (within_any K 1 7)
  have HA := Lib.hid (hasVal_any K)
  have HB := Lib.hid (hasBy_any K)
  clear h1 h2
  generalize opB ⟨K, key, val, by_⟩ = q at *
  generalize keyB key = a at *
  rcases hK with rfl | rfl
  all_goals
    replace HW : Hid (∀ w, Calls Tryd.prog 60 _ w fun e w' => e = .returned (.bool true) ∧ w = w') := HW
    cases a
    · go_enter Tryd.func55, Tryd.ntmps55
      go_wp2_with (first | (go_at_call 60; (with_reducible refine (HW.out _).mono ?_); rintro e w1 ⟨rfl, rfl⟩) | (go_at_call 60; (with_reducible refine (HI.out _).mono ?_); rintro e w1 ⟨rfl, rfl⟩) | (go_at_call 79; refine (HK.out _).mono ?_; rintro e w1 ⟨rfl, rfl⟩) | (go_at_call 80; refine (HV.out _).mono ?_; rintro e w1 ⟨rfl, rfl⟩) | (go_at_call 47; refine (HA.out _).mono ?_; rintro e w1 ⟨rfl, rfl⟩) | (go_at_call 48; refine (HB.out _).mono ?_; rintro e w1 ⟨rfl, rfl⟩))
      go_ret
      exact ⟨ret_bool (by first | (rw [Ho.out]; done) | (rw [Ho.out]; simp [*]; done) | (rw [Ho.out]; rfl)), by (repeat (first | (with_reducible exact Below.refl _ _) | (with_reducible refine below_setCell ?_ (by first | (simp; done) | (simp; omega) | omega)) | (with_reducible refine below_alloc _ ?_) | (with_reducible refine below_drewN ?_ _) | (with_reducible assumption) | (with_reducible refine below_after (by assumption) ?_)))⟩
    · replace HA : Hid (∀ w, Calls Tryd.prog 47 _ w fun e w' => e = .returned (.bool false) ∧ w = w') := HA
      replace HB : Hid (∀ w, Calls Tryd.prog 48 _ w fun e w' => e = .returned (.bool true) ∧ w = w') := HB
      by_cases h0 : val.size = 0
      rotate_left
      · have hie := someOf h0
        have hd : decide (val.size = 0) = false := by simpa using h0
        rw [hd] at Ho
        clear h0 hd
        generalize valB val = b at *
        cases b
        · go_enter Tryd.func55, Tryd.ntmps55
          go_wp2_with (first | (go_at_call 60; (with_reducible refine (HW.out _).mono ?_); rintro e w1 ⟨rfl, rfl⟩) | (go_at_call 60; (with_reducible refine (HI.out _).mono ?_); rintro e w1 ⟨rfl, rfl⟩) | (go_at_call 79; refine (HK.out _).mono ?_; rintro e w1 ⟨rfl, rfl⟩) | (go_at_call 80; refine (HV.out _).mono ?_; rintro e w1 ⟨rfl, rfl⟩) | (go_at_call 47; refine (HA.out _).mono ?_; rintro e w1 ⟨rfl, rfl⟩) | (go_at_call 48; refine (HB.out _).mono ?_; rintro e w1 ⟨rfl, rfl⟩))
          go_ret
          exact ⟨ret_bool (by first | (rw [Ho.out]; done) | (rw [Ho.out]; simp [*]; done) | (rw [Ho.out]; rfl)), by (repeat (first | (with_reducible exact Below.refl _ _) | (with_reducible refine below_setCell ?_ (by first | (simp; done) | (simp; omega) | omega)) | (with_reducible refine below_alloc _ ?_) | (with_reducible refine below_drewN ?_ _) | (with_reducible assumption) | (with_reducible refine below_after (by assumption) ?_)))⟩
        · go_enter Tryd.func55, Tryd.ntmps55
          go_wp2_with (first | (go_at_call 60; (with_reducible refine (HW.out _).mono ?_); rintro e w1 ⟨rfl, rfl⟩) | (go_at_call 60; (with_reducible refine (HI.out _).mono ?_); rintro e w1 ⟨rfl, rfl⟩) | (go_at_call 79; refine (HK.out _).mono ?_; rintro e w1 ⟨rfl, rfl⟩) | (go_at_call 80; refine (HV.out _).mono ?_; rintro e w1 ⟨rfl, rfl⟩) | (go_at_call 47; refine (HA.out _).mono ?_; rintro e w1 ⟨rfl, rfl⟩) | (go_at_call 48; refine (HB.out _).mono ?_; rintro e w1 ⟨rfl, rfl⟩))
          go_ret
          exact ⟨ret_bool (by first | (rw [Ho.out]; done) | (rw [Ho.out]; simp [*]; done) | (rw [Ho.out]; rfl)), by (repeat (first | (with_reducible exact Below.refl _ _) | (with_reducible refine below_setCell ?_ (by first | (simp; done) | (simp; omega) | omega)) | (with_reducible refine below_alloc _ ?_) | (with_reducible refine below_drewN ?_ _) | (with_reducible assumption) | (with_reducible refine below_after (by assumption) ?_)))⟩
      · obtain rfl := nilOf h0
        replace HV : Hid (∀ w, Calls Tryd.prog 80 _ w fun e w' => e = .returned (.bool true) ∧ w = w') := HV
        clear h0
        generalize inB by_ (-9999) 9999 = c at *
        cases c
        · go_enter Tryd.func55, Tryd.ntmps55
          go_wp2_with (first | (go_at_call 60; (with_reducible refine (HW.out _).mono ?_); rintro e w1 ⟨rfl, rfl⟩) | (go_at_call 60; (with_reducible refine (HI.out _).mono ?_); rintro e w1 ⟨rfl, rfl⟩) | (go_at_call 79; refine (HK.out _).mono ?_; rintro e w1 ⟨rfl, rfl⟩) | (go_at_call 80; refine (HV.out _).mono ?_; rintro e w1 ⟨rfl, rfl⟩) | (go_at_call 47; refine (HA.out _).mono ?_; rintro e w1 ⟨rfl, rfl⟩) | (go_at_call 48; refine (HB.out _).mono ?_; rintro e w1 ⟨rfl, rfl⟩))
          go_ret
          exact ⟨ret_bool (by first | (rw [Ho.out]; done) | (rw [Ho.out]; simp [*]; done) | (rw [Ho.out]; rfl)), by (repeat (first | (with_reducible exact Below.refl _ _) | (with_reducible refine below_setCell ?_ (by first | (simp; done) | (simp; omega) | omega)) | (with_reducible refine below_alloc _ ?_) | (with_reducible refine below_drewN ?_ _) | (with_reducible assumption) | (with_reducible refine below_after (by assumption) ?_)))⟩
        · go_enter Tryd.func55, Tryd.ntmps55
          go_wp2_with (first | (go_at_call 60; (with_reducible refine (HW.out _).mono ?_); rintro e w1 ⟨rfl, rfl⟩) | (go_at_call 60; (with_reducible refine (HI.out _).mono ?_); rintro e w1 ⟨rfl, rfl⟩) | (go_at_call 79; refine (HK.out _).mono ?_; rintro e w1 ⟨rfl, rfl⟩) | (go_at_call 80; refine (HV.out _).mono ?_; rintro e w1 ⟨rfl, rfl⟩) | (go_at_call 47; refine (HA.out _).mono ?_; rintro e w1 ⟨rfl, rfl⟩) | (go_at_call 48; refine (HB.out _).mono ?_; rintro e w1 ⟨rfl, rfl⟩))
          go_ret
          exact ⟨ret_bool (by first | (rw [Ho.out]; done) | (rw [Ho.out]; simp [*]; done) | (rw [Ho.out]; rfl)), by (repeat (first | (with_reducible exact Below.refl _ _) | (with_reducible refine below_setCell ?_ (by first | (simp; done) | (simp; omega) | omega)) | (with_reducible refine below_alloc _ ?_) | (with_reducible refine below_drewN ?_ _) | (with_reducible assumption) | (with_reducible refine below_after (by assumption) ?_)))⟩

end Go.Proofs.YtpiheobpobclgaaDoor
