/- The functions of spans and clocks, walked. -/
import Derived.Test.YtekgackednpdgaaExt
namespace Go.Proofs.Ytekgackednpdgaa
open Go.RowKit

def inB (n lo hi : Int) : Bool := decide (lo ≤ n) && decide (n ≤ hi)
theorem inB_iff {n lo hi : Int} : inB n lo hi = true ↔ lo ≤ n ∧ n ≤ hi := by simp [inB]
theorem inB_not {n lo hi : Int} : inB n lo hi = false ↔ ¬ (lo ≤ n ∧ n ≤ hi) := by rw [← inB_iff]; simp
def spanB (lo hi : Int) : Bool := decide (lo ≤ hi) && decide (-10 ≤ lo) && decide (hi ≤ 100010)

/-- impl.within -/
theorem within_any (n lo hi : Int) (w : World) : Calls Try.prog 88 #[.int .i64 n, .int .i64 lo, .int .i64 hi] w fun e w' => e = .returned (.bool (inB n lo hi)) ∧ w = w' := by
  unfold inB; by_cases h1 : lo ≤ n <;> by_cases h2 : n ≤ hi <;> (go_enter Try.func88, Try.ntmps88; go_wp2; go_ret; exact ⟨by simp [h1, h2], rfl⟩)

/-- spec.l1In -/
theorem l1In_any (n lo hi : Int) (w : World) : Calls Try.prog 84 #[.int .i64 n, .int .i64 lo, .int .i64 hi] w fun e w' => e = .returned (.bool (inB n lo hi)) ∧ w = w' := by
  unfold inB; by_cases h1 : lo ≤ n <;> by_cases h2 : n ≤ hi <;> (go_enter Try.func84, Try.ntmps84; go_wp2; go_ret; exact ⟨by simp [h1, h2], rfl⟩)

end Go.Proofs.Ytekgackednpdgaa
