/- What PutRows returns is small. Printed by mkfresh.py. -/
import Derived.Test.YtkcidneefdaaiaaPutWT
import Derived.Test.YtkcidneefdaaiaaRowd
namespace Go.Proofs.Ytkcidneefdaaiaa
open Go.RowKit

theorem good_small {x : WriteD} (h : (keyB x.Key && storedB x.Val x.Gone) = true) : costWrite x ≤ 36 := by
  simp only [Bool.and_eq_true] at h
  obtain ⟨h1, h2⟩ := h
  unfold keyB at h1
  unfold storedB valB at h2
  simp only [Bool.and_eq_true, decide_eq_true_eq, inB_iff] at h1 h2
  have := h2.1.1
  unfold costWrite
  omega
theorem writes_small : ∀ l : List WriteD, (∀ x ∈ l, costWrite x ≤ 36) → costWriteS l ≤ l.length * 37
  | [], _ => Nat.zero_le _
  | x :: r, h => by
    have ih := writes_small r fun y hy => h y (List.mem_cons_of_mem _ hy)
    have h1 := h x (List.mem_cons_self ..)
    simp [costWriteS, sumC] at *
    omega
theorem rows_cost (l ws : List WriteD) : costWriteS (pickL (rowsQ l ws) (rowsL l ws)) ≤ 1048576 := by
  cases hq : rowsQ l ws
  · show costWriteS [] ≤ _
    decide
  · show costWriteS (rowsL l ws) ≤ _
    unfold rowsQ rowsB at hq
    simp only [Bool.and_eq_true, decide_eq_true_eq] at hq
    have h1 := writes_small (rowsL l ws) fun x hx => good_small (by
      rcases putAll_mem ws l x (List.mem_filter.1 hx).1 with h | h
      · exact goodWB_mem hq.1.2 h
      · exact goodWB_mem hq.1.1.1 h)
    have := hq.2
    omega

end Go.Proofs.Ytkcidneefdaaiaa
