/- The words of a record's kinds, all five. -/
import Derived.Test.YtpiheobpobclgaaGreatDoorRdTxI
namespace Go.Proofs.YtpiheobpobclgaaGreatDoor
open Go.RowKit

/-- The kind behind the first k words. -/
def kindAtR (u : ByteArray) : Nat → Int
  | 0 => 0
  | k + 1 => if 0 < k ∧ wordBs.getD k ⟨#[]⟩ = u then (k : Int) else kindAtR u k
theorem kindAtR_5 (u : ByteArray) : kindAtR u 5 = kindR u := by
  simp only [kindAtR, wordBs, kindR]
  simp [eq_comm]
theorem kindAtR_in (u : ByteArray) : ∀ k, 0 ≤ kindAtR u k ∧ kindAtR u k ≤ k
  | 0 => ⟨Int.le_refl _, Int.le_refl _⟩
  | k + 1 => by
    have := kindAtR_in u k
    unfold kindAtR
    split <;> omega

set_option maxRecDepth 100000 in
/-- spec.l4Words, all five. -/
theorem l4Words5_any (w : World) : Calls Tryz.prog 10 #[] w fun e w' => ∃ N : Nat, e = .returned (.slice (some ⟨N, 0, none⟩) 5 5) ∧ w.heap.size ≤ N ∧ N < w'.heap.size ∧ (∀ j, j < 5 → w'.cell? ⟨N, j, none⟩ = some (.string (wordBs.getD j ⟨#[]⟩))) ∧ Below w.heap.size w w' := by
  go_enter Tryz.func10, Tryz.ntmps10
  go_wp2
  go_ret
  refine ⟨w.heap.size, rfl, Nat.le_refl _, by simp, fun j hj => ?_, by (repeat (first | (with_reducible exact Below.refl _ _) | (with_reducible refine below_setCell ?_ (by first | (simp; done) | (simp; omega) | omega)) | (with_reducible refine below_alloc _ ?_) | (with_reducible refine below_drewN ?_ _) | (with_reducible assumption) | (with_reducible refine below_after (by assumption) ?_)))⟩
  rcases (show j = 0 ∨ j = 1 ∨ j = 2 ∨ j = 3 ∨ j = 4 by omega) with rfl | rfl | rfl | rfl | rfl <;> (simp [go_sem]; rfl)

set_option maxRecDepth 100000 in
/-- impl.recWords, all five. -/
theorem recWords5_any (w : World) : Calls Tryz.prog 17 #[] w fun e w' => ∃ N : Nat, e = .returned (.slice (some ⟨N, 0, none⟩) 5 5) ∧ w.heap.size ≤ N ∧ N < w'.heap.size ∧ (∀ j, j < 5 → w'.cell? ⟨N, j, none⟩ = some (.string (wordBs.getD j ⟨#[]⟩))) ∧ Below w.heap.size w w' := by
  go_enter Tryz.func17, Tryz.ntmps17
  go_wp2
  go_ret
  refine ⟨w.heap.size, rfl, Nat.le_refl _, by simp, fun j hj => ?_, by (repeat (first | (with_reducible exact Below.refl _ _) | (with_reducible refine below_setCell ?_ (by first | (simp; done) | (simp; omega) | omega)) | (with_reducible refine below_alloc _ ?_) | (with_reducible refine below_drewN ?_ _) | (with_reducible assumption) | (with_reducible refine below_after (by assumption) ?_)))⟩
  rcases (show j = 0 ∨ j = 1 ∨ j = 2 ∨ j = 3 ∨ j = 4 by omega) with rfl | rfl | rfl | rfl | rfl <;> (simp [go_sem]; rfl)

/-- slices.Index in the words -/
theorem idxWordsR_any (N : Nat) (u : ByteArray) (w : World) (hw : ∀ j, j < 5 → w.cell? ⟨N, j, none⟩ = some (.string (wordBs.getD j ⟨#[]⟩))) :
    Calls Tryz.prog 16 #[.slice (some ⟨N, 0, none⟩) 5 5, .string u] w fun e w' => e = .returned (.int .i64 (Lib.idxOfS wordBs u)) ∧ w = w' := by
  refine (Tryz.slices_Index_string N 0 5 5 wordBs u w (by decide) (by decide) (fun j hj => by rw [Nat.zero_add]; exact hw j (by have : wordBs.length = 5 := rfl; omega))).mono ?_
  rintro e w' ⟨rfl, rfl⟩
  exact ⟨rfl, rfl⟩

end Go.Proofs.YtpiheobpobclgaaGreatDoor
