/- GoodRec, impl, kind 4 and none. -/
import Derived.Test.YtogdbjalgledpaaGoodRec1
namespace Go.Proofs.Ytogdbjalgledpaa
open Go.RowKit

set_option maxRecDepth 100000 in
set_option maxHeartbeats 6400000 in
theorem goodRec_4 (K T Ti L : Int) (pr pw : Option Addr) (nr nw cr cw : Nat) (Y : Bool) (hK : K = 4) (hnr : nr ≤ 1048576) (hnw : nw ≤ 1048576) (w : World) :
    Calls Try.prog 60 #[.agg #[.int .i64 K, .int .i64 T, .int .i64 Ti, .int .i64 L, .slice pr nr cr, .slice pw nw cw, .bool Y]] w fun e w' => e = .returned (.bool (bareB L nr nw && (decide (T = 0) && (inB Ti 1 100000 && !Y)))) ∧ Below w.heap.size w w' := by
  subst hK
  have hnrI : (nr : Int) ≤ 1048576 := by omega
  have hnwI : (nw : Int) ≤ 1048576 := by omega
  have HI := Lib.hid (isTime_any Ti)
  obtain ⟨G, hG⟩ : ∃ G, (bareB L nr nw && (decide (T = 0) && (inB Ti 1 100000 && !Y))) = G := ⟨_, rfl⟩
  have HG := Lib.hid hG
  rw [hG]
  clear hG
  generalize inB Ti 1 100000 = i at *
  go_enter Try.func60, Try.ntmps60
  go_upto_region 1 with fail
  go_cut [3] (fun s wx => s = .bool (bareB L nr nw) ∧ wx = w.alloc (.cells #[.int .i64 4, .int .i64 T, .int .i64 Ti, .int .i64 L, .slice pr nr cr, .slice pw nw cw, .bool Y] 45))
  case first =>
    by_cases h1 : L = 0
    · subst h1
      by_cases h2 : nr = 0
      · subst h2
        by_cases h3 : nw = 0
        · subst h3
          go_wp2
          go_meet
          exact ⟨rfl, rfl⟩
        · have h3' : ((nw : Int) == 0) = false := by simp; omega
          have Hb : Hid (bareB 0 0 nw = false) := Lib.hid (by unfold bareB; simp [h3])
          go_wp2
          go_meet
          exact ⟨by rw [Hb.out], rfl⟩
      · have h2' : ((nr : Int) == 0) = false := by simp; omega
        have Hb : Hid (bareB 0 nr nw = false) := Lib.hid (by unfold bareB; simp [h2])
        go_wp2
        go_meet
        exact ⟨by rw [Hb.out], rfl⟩
    · have h1' : (L == 0) = false := by simpa using h1
      have Hb : Hid (bareB L nr nw = false) := Lib.hid (by unfold bareB; simp [h1])
      go_wp2
      go_meet
      exact ⟨by rw [Hb.out], rfl⟩
  case rest =>
    obtain ⟨rfl, rfl⟩ := hcut
    generalize bareB L nr nw = bb at *
    cases bb
    · go_wp2
      go_ret
      exact ⟨ret_bool (by rw [← HG.out]; rfl), by (repeat (first | (with_reducible exact Below.refl _ _) | (with_reducible refine below_setCell ?_ (by first | (simp; done) | (simp; omega) | omega)) | (with_reducible refine below_alloc _ ?_) | (with_reducible refine below_drewN ?_ _) | (with_reducible assumption) | (with_reducible refine below_after (by assumption) ?_)))⟩
    by_cases hz : T = 0
    rotate_left
    · have hz2 : (T == 0) = false := by simpa using hz
      go_wp2
      go_ret
      exact ⟨ret_bool (by rw [← HG.out]; simp [hz]), by (repeat (first | (with_reducible exact Below.refl _ _) | (with_reducible refine below_setCell ?_ (by first | (simp; done) | (simp; omega) | omega)) | (with_reducible refine below_alloc _ ?_) | (with_reducible refine below_drewN ?_ _) | (with_reducible assumption) | (with_reducible refine below_after (by assumption) ?_)))⟩
    subst hz
    cases i <;> cases Y
    all_goals
      go_wp2_with (go_at_call 98; refine (HI.out _).mono ?_; rintro e w1 ⟨rfl, rfl⟩)
      go_ret
      exact ⟨ret_bool (by rw [← HG.out]; rfl), by (repeat (first | (with_reducible exact Below.refl _ _) | (with_reducible refine below_setCell ?_ (by first | (simp; done) | (simp; omega) | omega)) | (with_reducible refine below_alloc _ ?_) | (with_reducible refine below_drewN ?_ _) | (with_reducible assumption) | (with_reducible refine below_after (by assumption) ?_)))⟩

set_option maxRecDepth 100000 in
set_option maxHeartbeats 6400000 in
theorem goodRec_no (K T Ti L : Int) (pr pw : Option Addr) (nr nw cr cw : Nat) (Y : Bool) (hK : K < 1 ∨ 4 < K) (hnr : nr ≤ 1048576) (hnw : nw ≤ 1048576) (w : World) :
    Calls Try.prog 60 #[.agg #[.int .i64 K, .int .i64 T, .int .i64 Ti, .int .i64 L, .slice pr nr cr, .slice pw nw cw, .bool Y]] w fun e w' => e = .returned (.bool (false)) ∧ Below w.heap.size w w' := by
  have hnrI : (nr : Int) ≤ 1048576 := by omega
  have hnwI : (nw : Int) ≤ 1048576 := by omega
  have e1 : (K == 1) = false := by simp; omega
  have e2 : (K == 2) = false := by simp; omega
  have e3 : (K == 3) = false := by simp; omega
  have e4 : (K == 4) = false := by simp; omega
  clear hK
  go_enter Try.func60, Try.ntmps60
  go_upto_region 1 with fail
  go_cut [3] (fun s wx => s = .bool (bareB L nr nw) ∧ wx = w.alloc (.cells #[.int .i64 K, .int .i64 T, .int .i64 Ti, .int .i64 L, .slice pr nr cr, .slice pw nw cw, .bool Y] 45))
  case first =>
    by_cases h1 : L = 0
    · subst h1
      by_cases h2 : nr = 0
      · subst h2
        by_cases h3 : nw = 0
        · subst h3
          go_wp2
          go_meet
          exact ⟨rfl, rfl⟩
        · have h3' : ((nw : Int) == 0) = false := by simp; omega
          have Hb : Hid (bareB 0 0 nw = false) := Lib.hid (by unfold bareB; simp [h3])
          go_wp2
          go_meet
          exact ⟨by rw [Hb.out], rfl⟩
      · have h2' : ((nr : Int) == 0) = false := by simp; omega
        have Hb : Hid (bareB 0 nr nw = false) := Lib.hid (by unfold bareB; simp [h2])
        go_wp2
        go_meet
        exact ⟨by rw [Hb.out], rfl⟩
    · have h1' : (L == 0) = false := by simpa using h1
      have Hb : Hid (bareB L nr nw = false) := Lib.hid (by unfold bareB; simp [h1])
      go_wp2
      go_meet
      exact ⟨by rw [Hb.out], rfl⟩
  case rest =>
    obtain ⟨rfl, rfl⟩ := hcut
    generalize bareB L nr nw = bb at *
    go_wp2
    go_ret
    exact ⟨rfl, by (repeat (first | (with_reducible exact Below.refl _ _) | (with_reducible refine below_setCell ?_ (by first | (simp; done) | (simp; omega) | omega)) | (with_reducible refine below_alloc _ ?_) | (with_reducible refine below_drewN ?_ _) | (with_reducible assumption) | (with_reducible refine below_after (by assumption) ?_)))⟩

end Go.Proofs.Ytogdbjalgledpaa
