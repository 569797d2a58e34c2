/- The order of strings; truth of a sentence as a Bool. Plain lemmas; no program. -/
import Derived.Test.YtekgackednpdgaaKeys2
import Derived.WalkLawsBesides
namespace Go.Proofs.Ytekgackednpdgaa
open Go.RowKit

theorem nilOf {y : ByteArray} (h : y.size = 0) : y = ⟨#[]⟩ := by
  apply str_eq_iff.1
  rw [ByteArray.toList_eq, ByteArray.toList_eq]
  have h2 : y.data.toList.length = 0 := by rw [Array.length_toList]; exact h
  rw [List.eq_nil_of_length_eq_zero h2]
theorem someOf {y : ByteArray} (h : ¬ y.size = 0) : y.toList.isEmpty = false := by
  rw [ByteArray.toList_eq]
  cases hl : y.data.toList with
  | nil => exact absurd (by have h2 := congrArg List.length hl; rw [Array.length_toList] at h2; exact h2) h
  | cons a l => rfl

/-- Whether p holds. -/
noncomputable def pB (p : Prop) : Bool := @decide p (Classical.propDecidable p)
theorem pB_true {p : Prop} (h : p) : pB p = true := @decide_eq_true p (Classical.propDecidable p) h
theorem pB_false {p : Prop} (h : ¬ p) : pB p = false := @decide_eq_false p (Classical.propDecidable p) h
theorem pB_iff {p : Prop} : pB p = true ↔ p := @decide_eq_true_iff p (Classical.propDecidable p)
theorem pB_eq {p : Prop} {b : Bool} (h : p ↔ b = true) : pB p = b := by
  cases b
  · exact pB_false fun k => by cases h.1 k
  · exact pB_true (h.2 rfl)
theorem pB_congr {p q : Prop} (h : p ↔ q) : pB p = pB q := by rw [propext h]

/-- Whether one string lies before another. -/
def ltB (a b : ByteArray) : Bool := Op.bytesLess a.toList b.toList

theorem byte_tri (a b : UInt8) : a < b ∨ b < a ∨ a = b := by
  rcases Nat.lt_trichotomy a.toNat b.toNat with h | h | h
  · exact Or.inl (UInt8.lt_iff_toNat_lt.2 h)
  · exact Or.inr (Or.inr (UInt8.toNat_inj.1 h))
  · exact Or.inr (Or.inl (UInt8.lt_iff_toNat_lt.2 h))

theorem less_tri : ∀ (a b : List UInt8), (Op.bytesLess a b || a == b) = !Op.bytesLess b a
  | [], [] => rfl
  | [], _ :: _ => rfl
  | _ :: _, [] => rfl
  | a :: x, b :: y => by
    have ih := less_tri x y
    unfold Op.bytesLess
    rcases byte_tri a b with h | h | h
    · have h2 : ¬ b < a := fun h' => absurd (UInt8.lt_trans h h') (UInt8.lt_irrefl _)
      have h3 : (b == a) = false := by simp; exact fun e => UInt8.lt_irrefl _ (e ▸ h)
      simp [h, h2, h3]
    · have h2 : ¬ a < b := fun h' => absurd (UInt8.lt_trans h h') (UInt8.lt_irrefl _)
      have h3 : (a == b) = false := by simp; exact fun e => UInt8.lt_irrefl _ (e ▸ h)
      have h4 : (a :: x == b :: y) = false := by simp; exact fun e => absurd e (by simpa using h3)
      simp [h, h2, h3, h4]
    · subst h
      have h2 : ¬ a < a := UInt8.lt_irrefl _
      simp only [h2, decide_false, beq_self_eq_true, Bool.true_and, Bool.false_or]
      rw [← ih]
      simp

theorem leB_eq (a b : ByteArray) : (Op.bytesLess a.toList b.toList || a.toList == b.toList) = !ltB b a := less_tri _ _

theorem less_irrefl : ∀ (a : List UInt8), Op.bytesLess a a = false
  | [] => rfl
  | a :: x => by
    unfold Op.bytesLess
    simp [UInt8.lt_irrefl, less_irrefl x]
theorem ltB_irrefl (a : ByteArray) : ltB a a = false := less_irrefl _
theorem less_trans : ∀ (a b c : List UInt8), Op.bytesLess a b = true → Op.bytesLess b c = true → Op.bytesLess a c = true
  | [], [], _, h, _ => by cases h
  | [], _ :: _, [], _, k => by cases k
  | [], _ :: _, _ :: _, _, _ => rfl
  | _ :: _, [], _, h, _ => by cases h
  | _ :: _, _ :: _, [], _, k => by cases k
  | a :: x, b :: y, c :: z, h, k => by
    unfold Op.bytesLess at h k ⊢
    simp only [Bool.or_eq_true, decide_eq_true_eq, Bool.and_eq_true, beq_iff_eq] at h k ⊢
    rcases h with h | ⟨rfl, h⟩
    · rcases k with k | ⟨rfl, k⟩
      · exact Or.inl (UInt8.lt_trans h k)
      · exact Or.inl h
    · rcases k with k | ⟨rfl, k⟩
      · exact Or.inl k
      · exact Or.inr ⟨rfl, less_trans x y z h k⟩
theorem ltB_trans {a b c : ByteArray} (h : ltB a b = true) (k : ltB b c = true) : ltB a c = true := less_trans _ _ _ h k

end Go.Proofs.Ytekgackednpdgaa
