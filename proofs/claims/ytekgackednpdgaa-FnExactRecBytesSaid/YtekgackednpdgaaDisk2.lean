/- Disks: written, made durable, fallen. -/
import Derived.Test.YtekgackednpdgaaDisk1
import Derived.Test.YtekgackednpdgaaBytes2
namespace Go.Proofs.Ytekgackednpdgaa
open Go.RowKit

/-- x, where q says so; else nothing. -/
def pickB : Bool → ByteArray → ByteArray
  | true, x => x
  | false, _ => ⟨#[]⟩
@[simp] theorem pickB_true (x : ByteArray) : pickB true x = x := rfl
@[simp] theorem pickB_false (x : ByteArray) : pickB false x = ⟨#[]⟩ := rfl

/-- laws.eqDisk -/
theorem eqDisk_same (x y : ByteArray) (w : World) : Calls Try.prog 32 #[.agg #[.string x, .string y], .agg #[.string x, .string y]] w fun e w' => e = .returned (.bool true) ∧ Below w.heap.size w w' := by
  go_enter Try.func32, Try.ntmps32
  go_wp2
  go_ret
  exact ⟨rfl, below_alloc _ (below_new _ _)⟩

theorem size_append (x y : ByteArray) : (x ++ y).size = x.size + y.size := by simp

end Go.Proofs.Ytekgackednpdgaa
