/- Operations, the parts. -/
import Derived.Test.YtpiheobpobclgaaDoorKit
import Derived.Test.YtpiheobpobclgaaDoorRowd
namespace Go.Proofs.YtpiheobpobclgaaDoor
open Go.RowKit

/-- Whether an operation is good. -/
def opB (x : OpD) : Bool := keyB x.Key && (bif decide (x.Kind = 2) || decide (x.Kind = 7) then valB x.Val && decide (x.By = 0)
  else bif decide (x.Kind = 4) || decide (x.Kind = 5) then decide (x.Val.size = 0) && inB x.By (-9999) 9999
  else bif decide (x.Kind = 1) || decide (x.Kind = 3) || decide (x.Kind = 6) then decide (x.Val.size = 0) && decide (x.By = 0) else false)

theorem opB_V {K : Int} (h : K = 2 ∨ K = 7) (key val : ByteArray) (b : Int) : opB ⟨K, key, val, b⟩ = (keyB key && (valB val && decide (b = 0))) := by
  rcases h with rfl | rfl <;> rfl
theorem opB_B {K : Int} (h : K = 4 ∨ K = 5) (key val : ByteArray) (b : Int) : opB ⟨K, key, val, b⟩ = (keyB key && (decide (val.size = 0) && inB b (-9999) 9999)) := by
  rcases h with rfl | rfl <;> rfl
theorem opB_P {K : Int} (h : K = 1 ∨ K = 3 ∨ K = 6) (key val : ByteArray) (b : Int) : opB ⟨K, key, val, b⟩ = (keyB key && (decide (val.size = 0) && decide (b = 0))) := by
  rcases h with rfl | rfl | rfl <;> rfl
theorem opB_no {K : Int} (h : K < 1 ∨ 7 < K) (key val : ByteArray) (b : Int) : opB ⟨K, key, val, b⟩ = false := by
  unfold opB
  rw [show decide (K = 2) = false from by simp; omega, show decide (K = 7) = false from by simp; omega, show decide (K = 4) = false from by simp; omega, show decide (K = 5) = false from by simp; omega, show decide (K = 1) = false from by simp; omega, show decide (K = 3) = false from by simp; omega, show decide (K = 6) = false from by simp; omega]
  simp
theorem kinds (K : Int) : (K = 2 ∨ K = 7) ∨ (K = 4 ∨ K = 5) ∨ (K = 1 ∨ K = 3 ∨ K = 6) ∨ (K < 1 ∨ 7 < K) := by omega
theorem valB_nil : valB ⟨#[]⟩ = true := rfl
theorem in_zero : inB 0 (-9999) 9999 = true := rfl

/-- impl.hasVal -/
theorem hasVal_any (K : Int) (w : World) : Calls Tryd.prog 47 #[.int .i64 K] w fun e w' => e = .returned (.bool (decide (K = 2) || decide (K = 7))) ∧ w = w' := by
  by_cases h1 : K = 2
  · subst h1
    go_enter Tryd.func47, Tryd.ntmps47
    go_wp2
    go_ret
    exact ⟨rfl, rfl⟩
  · have h1' : decide (K = 2) = false := by simpa using h1
    by_cases h2 : K = 7
    · subst h2
      go_enter Tryd.func47, Tryd.ntmps47
      go_wp2
      go_ret
      exact ⟨rfl, rfl⟩
    · have h2' : decide (K = 7) = false := by simpa using h2
      rw [h1', h2']
      go_enter Tryd.func47, Tryd.ntmps47
      go_wp2
      go_ret
      exact ⟨ret_bool (by simp [h1, h2]), rfl⟩

/-- impl.hasBy -/
theorem hasBy_any (K : Int) (w : World) : Calls Tryd.prog 48 #[.int .i64 K] w fun e w' => e = .returned (.bool (decide (K = 4) || decide (K = 5))) ∧ w = w' := by
  by_cases h1 : K = 4
  · subst h1
    go_enter Tryd.func48, Tryd.ntmps48
    go_wp2
    go_ret
    exact ⟨rfl, rfl⟩
  · have h1' : decide (K = 4) = false := by simpa using h1
    by_cases h2 : K = 5
    · subst h2
      go_enter Tryd.func48, Tryd.ntmps48
      go_wp2
      go_ret
      exact ⟨rfl, rfl⟩
    · have h2' : decide (K = 5) = false := by simpa using h2
      rw [h1', h2']
      go_enter Tryd.func48, Tryd.ntmps48
      go_wp2
      go_ret
      exact ⟨ret_bool (by simp [h1, h2]), rfl⟩


end Go.Proofs.YtpiheobpobclgaaDoor
