/- The functions of spans and clocks, walked. -/
import Derived.Test.YtgmpkaipjbgnkaaExt
namespace Go.Proofs.Ytgmpkaipjbgnkaa
open Go.RowKit

def inB (n lo hi : Int) : Bool := decide (lo ≤ n) && decide (n ≤ hi)
theorem inB_iff {n lo hi : Int} : inB n lo hi = true ↔ lo ≤ n ∧ n ≤ hi := by simp [inB]
theorem inB_not {n lo hi : Int} : inB n lo hi = false ↔ ¬ (lo ≤ n ∧ n ≤ hi) := by rw [← inB_iff]; simp
def spanB (lo hi : Int) : Bool := decide (lo ≤ hi) && decide (-10 ≤ lo) && decide (hi ≤ 100010)

/-- impl.within -/
theorem within_any (n lo hi : Int) (w : World) : Calls Try.prog 27 #[.int .i64 n, .int .i64 lo, .int .i64 hi] w fun e w' => e = .returned (.bool (inB n lo hi)) ∧ w = w' := by
  unfold inB; by_cases h1 : lo ≤ n <;> by_cases h2 : n ≤ hi <;> (go_enter Try.func27, Try.ntmps27; go_wp2; go_ret; exact ⟨by simp [h1, h2], rfl⟩)

/-- spec.l1In -/
theorem l1In_any (n lo hi : Int) (w : World) : Calls Try.prog 31 #[.int .i64 n, .int .i64 lo, .int .i64 hi] w fun e w' => e = .returned (.bool (inB n lo hi)) ∧ w = w' := by
  unfold inB; by_cases h1 : lo ≤ n <;> by_cases h2 : n ≤ hi <;> (go_enter Try.func31, Try.ntmps31; go_wp2; go_ret; exact ⟨by simp [h1, h2], rfl⟩)

/-- impl.GoodSpan -/
theorem goodSpan_any (lo hi : Int) (w : World) : Calls Try.prog 15 #[.agg #[.int .i64 lo, .int .i64 hi]] w fun e w' => e = .returned (.bool (spanB lo hi)) ∧ Below w.heap.size w w' := by
  unfold spanB; by_cases h1 : lo ≤ hi <;> by_cases h2 : -10 ≤ lo <;> by_cases h3 : hi ≤ 100010 <;>
    first | (exfalso; omega) | (go_enter Try.func15, Try.ntmps15; go_wp2; go_ret; exact ⟨by simp [h1, h2, h3], (Below.refl _ _).alloc (Nat.le_refl _) _⟩)

/-- spec.l2Span -/
theorem l2Span_any (lo hi : Int) (w : World) : Calls Try.prog 28 #[.agg #[.int .i64 lo, .int .i64 hi]] w fun e w' => e = .returned (.bool (spanB lo hi)) ∧ Below w.heap.size w w' := by
  unfold spanB; by_cases h1 : lo ≤ hi <;> by_cases h2 : -10 ≤ lo <;> by_cases h3 : hi ≤ 100010 <;>
    first | (exfalso; omega) | (go_enter Try.func28, Try.ntmps28; go_wp2; go_ret; exact ⟨by simp [h1, h2, h3], (Below.refl _ _).alloc (Nat.le_refl _) _⟩)

/-- spec.GoodSpan -/
theorem goodSpanS_any (lo hi : Int) (w : World) : Calls Try.prog 13 #[.agg #[.int .i64 lo, .int .i64 hi]] w fun e w' => e = .returned (.bool (spanB lo hi)) ∧ Below w.heap.size w w' := by
  go_enter Try.func13, Try.ntmps13
  go_wp2_with (go_at_call 28; refine (l2Span_any _ _ _).mono ?_; rintro e w1 ⟨rfl, hb⟩)
  go_ret
  exact ⟨rfl, ((Below.refl _ _).alloc (Nat.le_refl _) _).trans (hb.mono (by simp))⟩

/-- laws.toSpan -/
theorem toSpan_any (lo hi : Int) (w : World) : Calls Try.prog 14 #[.agg #[.int .i64 lo, .int .i64 hi]] w fun e w' => e = .returned (.agg #[.int .i64 lo, .int .i64 hi]) ∧ Below w.heap.size w w' := by
  go_enter Try.func14, Try.ntmps14
  go_wp2
  refine bodyPost_ret (v := .agg #[.int .i64 lo, .int .i64 hi]) (by simp [results, Try.results14, go_sem]) rfl ⟨rfl, ?_⟩
  exact ((((Below.refl _ _).alloc (Nat.le_refl _) _).alloc (by simp) _).alloc (by simp; omega) _)

/-- laws.toClock -/
theorem toClock_any (x : Int) (w : World) : Calls Try.prog 11 #[.agg #[.int .i64 x]] w fun e w' => e = .returned (.agg #[.int .i64 x]) ∧ Below w.heap.size w w' := by
  go_enter Try.func11, Try.ntmps11
  go_wp2
  refine bodyPost_ret (v := .agg #[.int .i64 x]) (by simp [results, Try.results11, go_sem]) rfl ⟨rfl, ?_⟩
  exact ((((Below.refl _ _).alloc (Nat.le_refl _) _).alloc (by simp) _).alloc (by simp; omega) _)

/-- impl.GoodClock -/
theorem goodClock_any (x : Int) (w : World) : Calls Try.prog 12 #[.agg #[.int .i64 x]] w fun e w' => e = .returned (.bool (inB x (-5) 5)) ∧ Below w.heap.size w w' := by
  go_enter Try.func12, Try.ntmps12
  go_wp2_with (go_at_call 27; refine (within_any _ _ _ _).mono ?_; rintro e w' ⟨rfl, rfl⟩)
  go_ret
  exact ⟨rfl, (Below.refl _ _).alloc (Nat.le_refl _) _⟩

/-- spec.l2Clock -/
theorem l2Clock_any (x : Int) (w : World) : Calls Try.prog 26 #[.agg #[.int .i64 x]] w fun e w' => e = .returned (.bool (inB x (-5) 5)) ∧ Below w.heap.size w w' := by
  go_enter Try.func26, Try.ntmps26
  go_wp2_with (go_at_call 31; refine (l1In_any _ _ _ _).mono ?_; rintro e w' ⟨rfl, rfl⟩)
  go_ret
  exact ⟨rfl, (Below.refl _ _).alloc (Nat.le_refl _) _⟩

/-- spec.GoodClock -/
theorem goodClockS_any (x : Int) (w : World) : Calls Try.prog 10 #[.agg #[.int .i64 x]] w fun e w' => e = .returned (.bool (inB x (-5) 5)) ∧ Below w.heap.size w w' := by
  go_enter Try.func10, Try.ntmps10
  go_wp2_with (go_at_call 26; refine (l2Clock_any _ _).mono ?_; rintro e w1 ⟨rfl, hb⟩)
  go_ret
  exact ⟨rfl, ((Below.refl _ _).alloc (Nat.le_refl _) _).trans (hb.mono (by simp))⟩

/-- spec.l2Near -/
theorem l2Near_any (t : Int) (w : World) : Calls Try.prog 29 #[.int .i64 t] w fun e w' => e = .returned (.bool (inB t (-100) 100100)) ∧ w = w' := by
  go_enter Try.func29, Try.ntmps29
  go_wp2_with (go_at_call 31; refine (l1In_any _ _ _ _).mono ?_; rintro e w' ⟨rfl, rfl⟩)
  go_ret
  exact ⟨rfl, rfl⟩

/-- impl.isAsked -/
theorem isAsked_any (lo hi t : Int) (w : World) : Calls Try.prog 30 #[.agg #[.int .i64 lo, .int .i64 hi], .int .i64 t] w fun e w' => e = .returned (.bool (spanB lo hi && inB t (-100) 100100)) ∧ Below w.heap.size w w' := by
  cases hs : spanB lo hi
  · go_enter Try.func30, Try.ntmps30
    go_wp2_with (go_at_call 15; refine (goodSpan_any _ _ _).mono ?_; rintro e w1 ⟨rfl, hb⟩)
    go_ret
    exact ⟨by simp, ((Below.refl _ _).alloc (Nat.le_refl _) _).trans (hb.mono (by simp))⟩
  · go_enter Try.func30, Try.ntmps30
    go_wp2_with (first | (go_at_call 15; refine (goodSpan_any _ _ _).mono ?_; rintro e w1 ⟨rfl, hb⟩) | (go_at_call 27; refine (within_any _ _ _ _).mono ?_; rintro e w' ⟨rfl, rfl⟩))
    go_ret
    exact ⟨by simp, ((Below.refl _ _).alloc (Nat.le_refl _) _).trans (hb.mono (by simp))⟩

end Go.Proofs.Ytgmpkaipjbgnkaa
