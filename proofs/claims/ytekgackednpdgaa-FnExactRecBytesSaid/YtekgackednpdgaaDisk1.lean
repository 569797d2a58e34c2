/- The size law's helpers and the plain functions of disks, walked. -/
import Derived.Test.YtekgackednpdgaaSpans2
import Derived.Test.YtekgackednpdgaaTypes
namespace Go.Proofs.Ytekgackednpdgaa
open Go.RowKit

/-- laws.szDisk: what is left behind the disk's letters, -1 where that is below 0. -/
def szDiskF (x y : ByteArray) (left : Int) : Int := if left - x.size < 0 then -1 else if left - x.size - y.size < 0 then -1 else left - x.size - y.size

theorem szDisk_any (x y : ByteArray) (left : Int) (hx : x.size ≤ maxLen) (hy : y.size ≤ maxLen) (hl : 0 ≤ left ∧ left ≤ 1048576) (w : World) :
    Calls Try.prog 28 #[.agg #[.string x, .string y], .int .i64 left] w fun e w' => e = .returned (.int .i64 (szDiskF x y left)) ∧ Below w.heap.size w w' := by
  unfold maxLen at hx hy
  obtain ⟨hl0, hl1⟩ := hl
  unfold szDiskF
  by_cases h1 : left - x.size < 0
  · rw [if_pos h1]
    go_enter Try.func28, Try.ntmps28
    go_wp2
    go_ret
    exact ⟨rfl, below_new _ _⟩
  · rw [if_neg h1]
    by_cases h2 : left - x.size - y.size < 0
    · rw [if_pos h2]
      go_enter Try.func28, Try.ntmps28
      go_wp2
      go_ret
      exact ⟨rfl, below_new _ _⟩
    · rw [if_neg h2]
      go_enter Try.func28, Try.ntmps28
      go_wp2
      go_ret
      exact ⟨rfl, below_new _ _⟩

/-- laws.toDisk -/
theorem toDisk_any (x y : ByteArray) (w : World) : Calls Try.prog 30 #[.agg #[.string x, .string y]] w fun e w' => e = .returned (.agg #[.string x, .string y]) ∧ Below w.heap.size w w' := by
  go_enter Try.func30, Try.ntmps30
  go_wp2
  refine bodyPost_ret (v := .agg #[.string x, .string y]) (by simp [results, Try.results30, go_sem]) rfl ⟨rfl, ?_⟩
  exact below_alloc _ (below_alloc _ (below_new _ _))

def diskB (x y : ByteArray) : Bool := decide (x.size + y.size ≤ 50000)

/-- impl.GoodDisk -/
theorem goodDisk_any (x y : ByteArray) (hx : x.size ≤ 1099511627776) (hy : y.size ≤ 1099511627776) (w : World) :
    Calls Try.prog 90 #[.agg #[.string x, .string y]] w fun e w' => e = .returned (.bool (diskB x y)) ∧ Below w.heap.size w w' := by
  unfold diskB
  go_enter Try.func90, Try.ntmps90
  go_wp2
  go_ret
  exact ⟨by simp; omega, below_new _ _⟩

/-- spec.GoodDisk -/
theorem goodDiskS_any (x y : ByteArray) (hx : x.size ≤ 1099511627776) (hy : y.size ≤ 1099511627776) (w : World) :
    Calls Try.prog 82 #[.agg #[.string x, .string y]] w fun e w' => e = .returned (.bool (diskB x y)) ∧ Below w.heap.size w w' := by
  unfold diskB
  go_enter Try.func82, Try.ntmps82
  go_wp2
  go_ret
  exact ⟨by simp; omega, below_new _ _⟩

end Go.Proofs.Ytekgackednpdgaa
