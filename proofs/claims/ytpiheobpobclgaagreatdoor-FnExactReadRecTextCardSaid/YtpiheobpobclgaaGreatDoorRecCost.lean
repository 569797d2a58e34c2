/- A good record is small. -/
import Derived.Test.YtpiheobpobclgaaGreatDoorGoodr
namespace Go.Proofs.YtpiheobpobclgaaGreatDoor
open Go.RowKit

theorem sumC_bound {α : Type} (f : α → Nat) (d : Nat) : ∀ (l : List α), (∀ k (h : k < l.length), f l[k] ≤ d) → sumC f l ≤ l.length * d
  | [], _ => by simp [sumC]
  | a :: l, h => by
    have h0 := h 0 (by simp)
    have h1 := sumC_bound f d l (fun k hk => by have := h (k + 1) (by simpa using hk); simpa using this)
    simp only [List.getElem_cons_zero] at h0
    have e : (l.length + 1) * d = l.length * d + d := Nat.succ_mul _ _
    simp [sumC] at h1 ⊢
    omega

theorem keyB_size {s : ByteArray} (h : keyB s = true) : s.size ≤ 12 := by
  unfold keyB at h
  rw [Bool.and_eq_true, inB_iff] at h
  omega

theorem storedB_size {s : ByteArray} {b : Bool} (h : storedB s b = true) : s.size ≤ 24 := by
  unfold storedB valB at h
  simp only [Bool.and_eq_true, decide_eq_true_eq] at h
  exact h.1.1

theorem goodRB_cost {r : RecD} (h : goodRB r = true) : costRec r ≤ 400 := by
  have bare : ∀ {L : Int}, bareB L r.Reads.length r.Writes.length = true → costRec r ≤ 400 := fun h => by
    unfold bareB at h
    simp only [Bool.and_eq_true, decide_eq_true_eq] at h
    have h1 : r.Reads = [] := List.eq_nil_of_length_eq_zero h.2.1
    have h2 : r.Writes = [] := List.eq_nil_of_length_eq_zero h.2.2
    unfold costRec costStringS costWriteS
    rw [h1, h2]
    simp [sumC]
  rcases rec_kinds r.Kind with k | k | k | k
  · rw [goodRB_1 k] at h
    unfold prepB at h
    simp only [Bool.and_eq_true, decide_eq_true_eq, pB_iff] at h
    obtain ⟨_, _, _, h1, h2, h3, h4, _, _⟩ := h
    unfold goodWB at h4
    simp only [Bool.and_eq_true, decide_eq_true_eq, pB_iff, Bool.not_eq_true'] at h4
    obtain ⟨_, h5, h6⟩ := h4
    have s1 := sumC_bound (fun s => s.size) 12 r.Reads (fun k hk => keyB_size (h2 k hk hk).1)
    have s2 := sumC_bound costWrite 36 r.Writes (fun k hk => by
      have a1 := keyB_size (h5 k (by simpa using hk) (by simpa using hk)).1
      have a2 : badStored r.Writes[k] = false := by simpa using List.any_eq_false.1 h6 _ (List.getElem_mem hk)
      unfold badStored at a2
      have a3 := storedB_size (s := r.Writes[k].Val) (b := r.Writes[k].Gone) (by simpa using a2)
      simp only [List.getElem_map] at a1
      unfold costWrite
      omega)
    unfold costRec costStringS costWriteS
    have e1 : r.Reads.length * 12 ≤ 8 * 12 := Nat.mul_le_mul_right _ h1
    have e2 : r.Writes.length * 36 ≤ 8 * 36 := Nat.mul_le_mul_right _ h3
    omega
  · rw [goodRB_2 k] at h
    unfold doneB at h
    rw [Bool.and_eq_true] at h
    exact bare h.1
  · rw [goodRB_4 k] at h
    unfold floorB at h
    rw [Bool.and_eq_true] at h
    exact bare h.1
  · rw [goodRB_no k] at h
    cases h


end Go.Proofs.YtpiheobpobclgaaGreatDoor
