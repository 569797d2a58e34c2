/- The functions of spans and clocks, walked. -/
import Derived.Test.YtkgnogdbojefkaaExt
namespace Go.Proofs.Ytkgnogdbojefkaa
open Go.RowKit

def inB (n lo hi : Int) : Bool := decide (lo ≤ n) && decide (n ≤ hi)
theorem inB_iff {n lo hi : Int} : inB n lo hi = true ↔ lo ≤ n ∧ n ≤ hi := by simp [inB]
theorem inB_not {n lo hi : Int} : inB n lo hi = false ↔ ¬ (lo ≤ n ∧ n ≤ hi) := by rw [← inB_iff]; simp
def spanB (lo hi : Int) : Bool := decide (lo ≤ hi) && decide (-10 ≤ lo) && decide (hi ≤ 100010)

/-- impl.within -/
theorem within_any (n lo hi : Int) (w : World) : Calls Try.prog 83 #[.int .i64 n, .int .i64 lo, .int .i64 hi] w fun e w' => e = .returned (.bool (inB n lo hi)) ∧ w = w' := by
  unfold inB; by_cases h1 : lo ≤ n <;> by_cases h2 : n ≤ hi <;> (go_enter Try.func83, Try.ntmps83; go_wp2; go_ret; exact ⟨by simp [h1, h2], rfl⟩)

/-- spec.l1In -/
theorem l1In_any (n lo hi : Int) (w : World) : Calls Try.prog 78 #[.int .i64 n, .int .i64 lo, .int .i64 hi] w fun e w' => e = .returned (.bool (inB n lo hi)) ∧ w = w' := by
  unfold inB; by_cases h1 : lo ≤ n <;> by_cases h2 : n ≤ hi <;> (go_enter Try.func78, Try.ntmps78; go_wp2; go_ret; exact ⟨by simp [h1, h2], rfl⟩)

/-- impl.GoodSpan -/
theorem goodSpan_any (lo hi : Int) (w : World) : Calls Try.prog 86 #[.agg #[.int .i64 lo, .int .i64 hi]] w fun e w' => e = .returned (.bool (spanB lo hi)) ∧ Below w.heap.size w w' := by
  unfold spanB; by_cases h1 : lo ≤ hi <;> by_cases h2 : -10 ≤ lo <;> by_cases h3 : hi ≤ 100010 <;>
    first | (exfalso; omega) | (go_enter Try.func86, Try.ntmps86; go_wp2; go_ret; exact ⟨by simp [h1, h2, h3], (Below.refl _ _).alloc (Nat.le_refl _) _⟩)

/-- spec.l2Span -/
theorem l2Span_any (lo hi : Int) (w : World) : Calls Try.prog 79 #[.agg #[.int .i64 lo, .int .i64 hi]] w fun e w' => e = .returned (.bool (spanB lo hi)) ∧ Below w.heap.size w w' := by
  unfold spanB; by_cases h1 : lo ≤ hi <;> by_cases h2 : -10 ≤ lo <;> by_cases h3 : hi ≤ 100010 <;>
    first | (exfalso; omega) | (go_enter Try.func79, Try.ntmps79; go_wp2; go_ret; exact ⟨by simp [h1, h2, h3], (Below.refl _ _).alloc (Nat.le_refl _) _⟩)

/-- laws.toSpan -/
theorem toSpan_any (lo hi : Int) (w : World) : Calls Try.prog 82 #[.agg #[.int .i64 lo, .int .i64 hi]] w fun e w' => e = .returned (.agg #[.int .i64 lo, .int .i64 hi]) ∧ Below w.heap.size w w' := by
  go_enter Try.func82, Try.ntmps82
  go_wp2
  refine bodyPost_ret (v := .agg #[.int .i64 lo, .int .i64 hi]) (by simp [results, Try.results82, go_sem]) rfl ⟨rfl, ?_⟩
  exact ((((Below.refl _ _).alloc (Nat.le_refl _) _).alloc (by simp) _).alloc (by simp; omega) _)

end Go.Proofs.Ytkgnogdbojefkaa
