/- One cell: good or not, both. -/
import Derived.Test.YtogdbjalgledpaaRising
import Derived.Test.YtogdbjalgledpaaData
import Derived.IntWalk
namespace Go.Proofs.Ytogdbjalgledpaa
open Go.RowKit

/-- impl.isTime -/
theorem isTime_any (n : Int) (w : World) : Calls Try.prog 98 #[.int .i64 n] w fun e w' => e = .returned (.bool (inB n 1 100000)) ∧ w = w' := by
  go_enter Try.func98, Try.ntmps98
  go_wp2_with (go_at_call 80; refine (within_any _ _ _ _).mono ?_; rintro e w1 ⟨rfl, rfl⟩)
  go_ret
  exact ⟨rfl, rfl⟩

/-- spec.l3Time -/
theorem l3Time_any (n : Int) (w : World) : Calls Try.prog 123 #[.int .i64 n] w fun e w' => e = .returned (.bool (inB n 1 100000)) ∧ w = w' := by
  go_enter Try.func123, Try.ntmps123
  go_wp2_with (go_at_call 85; refine (l1In_any _ _ _ _).mono ?_; rintro e w1 ⟨rfl, rfl⟩)
  go_ret
  exact ⟨rfl, rfl⟩

/-- Version j is good and behind the one ahead of it. -/
def VerAt (l : List VerD) (j : Nat) : Prop := ∀ h : j < l.length, inB l[j].Time 1 100000 = true ∧ storedB l[j].Val l[j].Gone = true ∧ ∀ m (hm : m + 1 = j), (l[m]'(by omega)).Time < l[j].Time
/-- Version j is behind the one ahead of it. -/
def OrdAt (l : List VerD) (j : Nat) : Prop := ∀ h : j < l.length, ∀ m (hm : m + 1 = j), (l[m]'(by omega)).Time < l[j].Time
def VerKAt (key : ByteArray) (l : List VerD) (j : Nat) : Prop := ∀ _ : j < l.length, VerAt l j ∧ keyB key = true
def GoodV (l : List VerD) : Prop := inB l.length 1 16 = true ∧ ∀ j, j < l.length → VerAt l j

end Go.Proofs.Ytogdbjalgledpaa
