/- spec.l5Num, spec.NumberIn. -/
import Derived.Test.YtpiheobpobclgaaGreatDoorNumF
namespace Go.Proofs.YtpiheobpobclgaaGreatDoor
open Go.RowKit

theorem readS_neg {l : List UInt8} (h : l.head? = some 45) : readS l = if readD (l.drop 1) ≤ 0 then (0, false) else (-readD (l.drop 1), true) := by
  cases l with
  | nil => cases h
  | cons c r =>
    simp only [List.head?_cons, Option.some.injEq] at h
    subst h
    rfl
theorem readS_pos {l : List UInt8} (h : l.head? ≠ some 45) : readS l = if readD l < 0 then (0, false) else (readD l, true) := by
  unfold readS
  split
  · exact absurd rfl h
  · rfl
theorem readD_in (l : List UInt8) : -1 ≤ readD l ∧ readD l ≤ 999999 := by
  by_cases h : 0 ≤ readD l
  · obtain ⟨n, hn, he, _⟩ := readD_pos h
    omega
  · unfold readD at h ⊢
    by_cases hc : 1 ≤ l.length ∧ l.length ≤ 6 ∧ ¬ (l.head? = some 48 ∧ 1 < l.length)
    · rw [if_pos hc] at h ⊢
      cases hd : Lib.decFrom 0 l with
      | none => simp
      | some n => rw [hd] at h; simp at h
    · rw [if_neg hc]; simp

end Go.Proofs.YtpiheobpobclgaaGreatDoor
