/- MendDisk, both. -/
import Derived.Test.YtkiebgmcjkfpaaaCore
namespace Go.Proofs.Ytkiebgmcjkfpaaa
open Go.RowKit

theorem bytes_nil {y : ByteArray} (h : y.size = 0) : y = ⟨#[]⟩ := by
  apply str_eq_iff.1
  rw [ByteArray.toList_eq, ByteArray.toList_eq]
  have h2 : y.data.toList.length = 0 := by rw [Array.length_toList]; exact h
  rw [List.eq_nil_of_length_eq_zero h2]

theorem not_nil {y : ByteArray} (h : ¬ y.size = 0) : y.toList.isEmpty = false := by
  rw [ByteArray.toList_eq]
  cases hl : y.data.toList with
  | nil => exact absurd (by have h2 := congrArg List.length hl; rw [Array.length_toList] at h2; exact h2) h
  | cons a l => rfl

/-- What MendDisk says. -/
def mendQ (x y : ByteArray) : Bool := diskB x y && decide (y.size = 0)
/-- What MendDisk leaves. -/
noncomputable def mendF (x : ByteArray) : ByteArray := x.extract 0 (framesF (x.size + 1) x 0).2

end Go.Proofs.Ytkiebgmcjkfpaaa
