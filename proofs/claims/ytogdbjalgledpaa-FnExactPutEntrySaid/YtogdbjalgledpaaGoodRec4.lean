/- l4Good, spec, kinds 2 to 4 and none. -/
import Derived.Test.YtogdbjalgledpaaGoodRec1
namespace Go.Proofs.Ytogdbjalgledpaa
open Go.RowKit

set_option maxRecDepth 100000 in
set_option maxHeartbeats 6400000 in
theorem l4Good_2 (K T Ti L : Int) (pr pw : Option Addr) (nr nw cr cw : Nat) (Y : Bool) (hK : K = 2 ∨ K = 3) (hnr : nr ≤ 1048576) (hnw : nw ≤ 1048576) (w : World) :
    Calls Try.prog 95 #[.agg #[.int .i64 K, .int .i64 T, .int .i64 Ti, .int .i64 L, .slice pr nr cr, .slice pw nw cw, .bool Y]] w fun e w' => e = .returned (.bool (bareB L nr nw && (inB T 1 60 && (bif Y then inB Ti 1 100000 else decide (Ti = 0))))) ∧ Below w.heap.size w w' := by
  have hnrI : (nr : Int) ≤ 1048576 := by omega
  have hnwI : (nw : Int) ≤ 1048576 := by omega
  have HT := Lib.hid (l1In_any T 1 60)
  have HI := Lib.hid (l3Time_any Ti)
  obtain ⟨G, hG⟩ : ∃ G, (bareB L nr nw && (inB T 1 60 && (bif Y then inB Ti 1 100000 else decide (Ti = 0)))) = G := ⟨_, rfl⟩
  have HG := Lib.hid hG
  rw [hG]
  clear hG
  generalize inB T 1 60 = t at *
  generalize inB Ti 1 100000 = i at *
  by_cases h1 : L = 0
  rotate_left
  · have h1' : (L == 0) = false := by simpa using h1
    have Hb : Hid (bareB L nr nw = false) := Lib.hid (by unfold bareB; simp [h1])
    rcases hK with rfl | rfl
    all_goals
      go_enter Try.func95, Try.ntmps95
      go_wp2
      go_ret
      exact ⟨ret_bool (by rw [← HG.out, Hb.out]; rfl), by (repeat (first | (with_reducible exact Below.refl _ _) | (with_reducible refine below_setCell ?_ (by first | (simp; done) | (simp; omega) | omega)) | (with_reducible refine below_alloc _ ?_) | (with_reducible refine below_drewN ?_ _) | (with_reducible assumption) | (with_reducible refine below_after (by assumption) ?_)))⟩
  subst h1
  by_cases h2 : nr + nw = 0
  rotate_left
  · have hs : 0 < (nr : Int) + (nw : Int) := by omega
    have Hb : Hid (bareB 0 nr nw = false) := Lib.hid (by unfold bareB; simp; omega)
    rcases hK with rfl | rfl
    all_goals
      go_enter Try.func95, Try.ntmps95
      go_wp2
      go_ret
      exact ⟨ret_bool (by rw [← HG.out, Hb.out]; rfl), by (repeat (first | (with_reducible exact Below.refl _ _) | (with_reducible refine below_setCell ?_ (by first | (simp; done) | (simp; omega) | omega)) | (with_reducible refine below_alloc _ ?_) | (with_reducible refine below_drewN ?_ _) | (with_reducible assumption) | (with_reducible refine below_after (by assumption) ?_)))⟩
  obtain rfl : nr = 0 := by omega
  obtain rfl : nw = 0 := by omega
  clear h2
  rcases hK with rfl | rfl
  all_goals
    cases t
    · go_enter Try.func95, Try.ntmps95
      go_wp2_with (go_at_call 85; (with_reducible refine (HT.out _).mono ?_); rintro e w1 ⟨rfl, rfl⟩)
      go_ret
      exact ⟨ret_bool (by rw [← HG.out]; rfl), by (repeat (first | (with_reducible exact Below.refl _ _) | (with_reducible refine below_setCell ?_ (by first | (simp; done) | (simp; omega) | omega)) | (with_reducible refine below_alloc _ ?_) | (with_reducible refine below_drewN ?_ _) | (with_reducible assumption) | (with_reducible refine below_after (by assumption) ?_)))⟩
    cases Y
    · by_cases hz : Ti = 0
      · subst hz
        go_enter Try.func95, Try.ntmps95
        go_wp2_with (go_at_call 85; (with_reducible refine (HT.out _).mono ?_); rintro e w1 ⟨rfl, rfl⟩)
        go_ret
        exact ⟨ret_bool (by rw [← HG.out]; rfl), by (repeat (first | (with_reducible exact Below.refl _ _) | (with_reducible refine below_setCell ?_ (by first | (simp; done) | (simp; omega) | omega)) | (with_reducible refine below_alloc _ ?_) | (with_reducible refine below_drewN ?_ _) | (with_reducible assumption) | (with_reducible refine below_after (by assumption) ?_)))⟩
      · have hz2 : (Ti == 0) = false := by simpa using hz
        go_enter Try.func95, Try.ntmps95
        go_wp2_with (go_at_call 85; (with_reducible refine (HT.out _).mono ?_); rintro e w1 ⟨rfl, rfl⟩)
        go_ret
        exact ⟨ret_bool (by rw [← HG.out]; simp [hz]), by (repeat (first | (with_reducible exact Below.refl _ _) | (with_reducible refine below_setCell ?_ (by first | (simp; done) | (simp; omega) | omega)) | (with_reducible refine below_alloc _ ?_) | (with_reducible refine below_drewN ?_ _) | (with_reducible assumption) | (with_reducible refine below_after (by assumption) ?_)))⟩
    · cases i
      all_goals
        go_enter Try.func95, Try.ntmps95
        go_wp2_with (first | (go_at_call 85; (with_reducible refine (HT.out _).mono ?_); rintro e w1 ⟨rfl, rfl⟩) | (go_at_call 123; refine (HI.out _).mono ?_; rintro e w1 ⟨rfl, rfl⟩))
        go_ret
        exact ⟨ret_bool (by rw [← HG.out]; rfl), by (repeat (first | (with_reducible exact Below.refl _ _) | (with_reducible refine below_setCell ?_ (by first | (simp; done) | (simp; omega) | omega)) | (with_reducible refine below_alloc _ ?_) | (with_reducible refine below_drewN ?_ _) | (with_reducible assumption) | (with_reducible refine below_after (by assumption) ?_)))⟩

set_option maxRecDepth 100000 in
set_option maxHeartbeats 6400000 in
theorem l4Good_4 (K T Ti L : Int) (pr pw : Option Addr) (nr nw cr cw : Nat) (Y : Bool) (hK : K = 4) (hnr : nr ≤ 1048576) (hnw : nw ≤ 1048576) (w : World) :
    Calls Try.prog 95 #[.agg #[.int .i64 K, .int .i64 T, .int .i64 Ti, .int .i64 L, .slice pr nr cr, .slice pw nw cw, .bool Y]] w fun e w' => e = .returned (.bool (bareB L nr nw && (decide (T = 0) && (inB Ti 1 100000 && !Y)))) ∧ Below w.heap.size w w' := by
  subst hK
  have hnrI : (nr : Int) ≤ 1048576 := by omega
  have hnwI : (nw : Int) ≤ 1048576 := by omega
  have HI := Lib.hid (l3Time_any Ti)
  obtain ⟨G, hG⟩ : ∃ G, (bareB L nr nw && (decide (T = 0) && (inB Ti 1 100000 && !Y))) = G := ⟨_, rfl⟩
  have HG := Lib.hid hG
  rw [hG]
  clear hG
  generalize inB Ti 1 100000 = i at *
  by_cases h1 : L = 0
  rotate_left
  · have h1' : (L == 0) = false := by simpa using h1
    have Hb : Hid (bareB L nr nw = false) := Lib.hid (by unfold bareB; simp [h1])
    skip
    all_goals
      go_enter Try.func95, Try.ntmps95
      go_wp2
      go_ret
      exact ⟨ret_bool (by rw [← HG.out, Hb.out]; rfl), by (repeat (first | (with_reducible exact Below.refl _ _) | (with_reducible refine below_setCell ?_ (by first | (simp; done) | (simp; omega) | omega)) | (with_reducible refine below_alloc _ ?_) | (with_reducible refine below_drewN ?_ _) | (with_reducible assumption) | (with_reducible refine below_after (by assumption) ?_)))⟩
  subst h1
  by_cases h2 : nr + nw = 0
  rotate_left
  · have hs : 0 < (nr : Int) + (nw : Int) := by omega
    have Hb : Hid (bareB 0 nr nw = false) := Lib.hid (by unfold bareB; simp; omega)
    skip
    all_goals
      go_enter Try.func95, Try.ntmps95
      go_wp2
      go_ret
      exact ⟨ret_bool (by rw [← HG.out, Hb.out]; rfl), by (repeat (first | (with_reducible exact Below.refl _ _) | (with_reducible refine below_setCell ?_ (by first | (simp; done) | (simp; omega) | omega)) | (with_reducible refine below_alloc _ ?_) | (with_reducible refine below_drewN ?_ _) | (with_reducible assumption) | (with_reducible refine below_after (by assumption) ?_)))⟩
  obtain rfl : nr = 0 := by omega
  obtain rfl : nw = 0 := by omega
  clear h2
  by_cases hz : T = 0
  rotate_left
  · have hz2 : (T == 0) = false := by simpa using hz
    go_enter Try.func95, Try.ntmps95
    go_wp2
    go_ret
    exact ⟨ret_bool (by rw [← HG.out]; simp [hz]), by (repeat (first | (with_reducible exact Below.refl _ _) | (with_reducible refine below_setCell ?_ (by first | (simp; done) | (simp; omega) | omega)) | (with_reducible refine below_alloc _ ?_) | (with_reducible refine below_drewN ?_ _) | (with_reducible assumption) | (with_reducible refine below_after (by assumption) ?_)))⟩
  subst hz
  cases i <;> cases Y
  all_goals
    go_enter Try.func95, Try.ntmps95
    go_wp2_with (go_at_call 123; refine (HI.out _).mono ?_; rintro e w1 ⟨rfl, rfl⟩)
    go_ret
    exact ⟨ret_bool (by rw [← HG.out]; rfl), by (repeat (first | (with_reducible exact Below.refl _ _) | (with_reducible refine below_setCell ?_ (by first | (simp; done) | (simp; omega) | omega)) | (with_reducible refine below_alloc _ ?_) | (with_reducible refine below_drewN ?_ _) | (with_reducible assumption) | (with_reducible refine below_after (by assumption) ?_)))⟩

set_option maxRecDepth 100000 in
set_option maxHeartbeats 6400000 in
theorem l4Good_no (K T Ti L : Int) (pr pw : Option Addr) (nr nw cr cw : Nat) (Y : Bool) (hK : K < 1 ∨ 4 < K) (hnr : nr ≤ 1048576) (hnw : nw ≤ 1048576) (w : World) :
    Calls Try.prog 95 #[.agg #[.int .i64 K, .int .i64 T, .int .i64 Ti, .int .i64 L, .slice pr nr cr, .slice pw nw cw, .bool Y]] w fun e w' => e = .returned (.bool (false)) ∧ Below w.heap.size w w' := by
  have hnrI : (nr : Int) ≤ 1048576 := by omega
  have hnwI : (nw : Int) ≤ 1048576 := by omega
  have e0 : (K != 1) = true := by simp; omega
  have e1 : (K == 1) = false := by simp; omega
  have e2 : (K == 2) = false := by simp; omega
  have e3 : (K == 3) = false := by simp; omega
  have e4 : (K == 4) = false := by simp; omega
  clear hK
  by_cases h1 : L = 0
  rotate_left
  · have h1' : (L == 0) = false := by simpa using h1
    have Hb : Hid (bareB L nr nw = false) := Lib.hid (by unfold bareB; simp [h1])
    skip
    all_goals
      go_enter Try.func95, Try.ntmps95
      go_wp2
      go_ret
      exact ⟨rfl, by (repeat (first | (with_reducible exact Below.refl _ _) | (with_reducible refine below_setCell ?_ (by first | (simp; done) | (simp; omega) | omega)) | (with_reducible refine below_alloc _ ?_) | (with_reducible refine below_drewN ?_ _) | (with_reducible assumption) | (with_reducible refine below_after (by assumption) ?_)))⟩
  subst h1
  by_cases h2 : nr + nw = 0
  rotate_left
  · have hs : 0 < (nr : Int) + (nw : Int) := by omega
    have Hb : Hid (bareB 0 nr nw = false) := Lib.hid (by unfold bareB; simp; omega)
    skip
    all_goals
      go_enter Try.func95, Try.ntmps95
      go_wp2
      go_ret
      exact ⟨rfl, by (repeat (first | (with_reducible exact Below.refl _ _) | (with_reducible refine below_setCell ?_ (by first | (simp; done) | (simp; omega) | omega)) | (with_reducible refine below_alloc _ ?_) | (with_reducible refine below_drewN ?_ _) | (with_reducible assumption) | (with_reducible refine below_after (by assumption) ?_)))⟩
  obtain rfl : nr = 0 := by omega
  obtain rfl : nw = 0 := by omega
  clear h2
  go_enter Try.func95, Try.ntmps95
  go_wp2
  go_ret
  exact ⟨rfl, by (repeat (first | (with_reducible exact Below.refl _ _) | (with_reducible refine below_setCell ?_ (by first | (simp; done) | (simp; omega) | omega)) | (with_reducible refine below_alloc _ ?_) | (with_reducible refine below_drewN ?_ _) | (with_reducible assumption) | (with_reducible refine below_after (by assumption) ?_)))⟩

end Go.Proofs.Ytogdbjalgledpaa
