/- What ReadOps returns is small. Plain. -/
import Derived.Test.YtpiheobpobclgaaDoorReadOpS2
namespace Go.Proofs.YtpiheobpobclgaaDoor

theorem opB_small {x : OpD} (h : opB x = true) : costOp x ≤ 36 := by
  have hp := opB_parts h
  have hk : x.Key.size ≤ 12 := by
    unfold opB at h
    simp only [Bool.and_eq_true] at h
    have h1 := h.1
    unfold keyB at h1
    simp only [Bool.and_eq_true, inB_iff] at h1
    omega
  have hv : x.Val.size ≤ 24 := by
    obtain ⟨K, key, val, b⟩ := x
    rcases kinds K with k | k | k | k
    · rw [opB_V k] at h
      simp only [Bool.and_eq_true] at h
      have h2 := h.2.1
      unfold valB at h2
      simp only [Bool.and_eq_true, decide_eq_true_eq] at h2
      exact h2.1
    · rw [opB_B k] at h
      simp only [Bool.and_eq_true, decide_eq_true_eq] at h
      have := h.2.1
      dsimp only
      omega
    · rw [opB_P k] at h
      simp only [Bool.and_eq_true, decide_eq_true_eq] at h
      have := h.2.1
      dsimp only
      omega
    · rw [opB_no k] at h
      cases h
  unfold costOp
  omega
theorem costs_small : ∀ l : List OpD, (∀ x ∈ l, costOp x ≤ 36) → costOpS l ≤ l.length * 37
  | [], _ => Nat.zero_le _
  | x :: r, h => by
    have ih := costs_small r fun y hy => h y (List.mem_cons_of_mem _ hy)
    have h1 := h x (List.mem_cons_self ..)
    simp [costOpS, sumC] at *
    omega
theorem opsR_small (s : ByteArray) : costOpS (opsR s).1 ≤ 1048576 := by
  unfold opsR
  split
  · rename_i h
    have hc := Classical.choose_spec h
    obtain ⟨h1, h2⟩ := goodOB_parts hc.1
    have := costs_small _ fun x hx => opB_small (h2 x hx)
    dsimp only
    omega
  · decide
theorem opsQ_small (s : ByteArray) : costOpS (opsQ s).1 ≤ 1048576 := by
  unfold opsQ
  split
  · exact opsR_small s
  · decide

end Go.Proofs.YtpiheobpobclgaaDoor
