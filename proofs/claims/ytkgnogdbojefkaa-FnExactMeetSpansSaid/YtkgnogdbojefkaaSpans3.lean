/- MoveSpan: walked. -/
import Derived.Test.YtkgnogdbojefkaaSpans
namespace Go.Proofs.Ytkgnogdbojefkaa
open Go.RowKit

def pickI : Bool → Int → Int
  | true, x => x
  | false, _ => 0
@[simp] theorem pickI_true (x : Int) : pickI true x = x := rfl
@[simp] theorem pickI_false (x : Int) : pickI false x = 0 := rfl

def moveQ (lo hi n : Int) : Bool := (spanB lo hi && inB n 0 100000) && spanB (lo + n) (hi + n)

theorem spanB_iff {lo hi : Int} : spanB lo hi = true ↔ lo ≤ hi ∧ -10 ≤ lo ∧ hi ≤ 100010 := by simp [spanB]; omega

/-- laws.eqSpan -/
theorem eqSpan_same (x y : Int) (w : World) : Calls Try.prog 26 #[.agg #[.int .i64 x, .int .i64 y], .agg #[.int .i64 x, .int .i64 y]] w fun e w' => e = .returned (.bool true) ∧ Below w.heap.size w w' := by
  go_enter Try.func26, Try.ntmps26
  go_wp2
  go_ret
  exact ⟨rfl, below_alloc _ (below_new _ _)⟩

end Go.Proofs.Ytkgnogdbojefkaa
