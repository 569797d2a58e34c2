/- Plain: which bytes begin with the code of a number. No program. -/
import Derived.Test.YtekgackednpdgaaPlainBytes
namespace Go.Proofs.Ytekgackednpdgaa
open Go.RowKit

/-- The number that bytes say, seven bits each. -/
def decL : List UInt8 → Nat
  | [] => 0
  | b :: l => b.toNat % 128 + 128 * decL l

theorem decL_append (l m : List UInt8) : decL (l ++ m) = decL l + 128 ^ l.length * decL m := by
  induction l with
  | nil => simp [decL]
  | cons b l ih =>
    simp only [List.cons_append, decL, ih, List.length_cons, Nat.pow_succ]
    rw [Nat.mul_add, Nat.add_assoc, show 128 ^ l.length * 128 * decL m = 128 * (128 ^ l.length * decL m) from by rw [Nat.mul_comm (128 ^ l.length) 128, Nat.mul_assoc]]

theorem toNat_ofNat_lt {n : Nat} (h : n < 256) : (UInt8.ofNat n).toNat = n := UInt8.toNat_ofNat_of_lt' (by simpa [UInt8.size] using h)

theorem decL_numL (n : Nat) : decL (numL n) = n := by
  induction n using Nat.strongRecOn with
  | ind n ih =>
    by_cases h : n < 128
    · rw [numL_small h]
      simp only [decL]
      rw [toNat_ofNat_lt (by omega)]
      omega
    · rw [numL_big h]
      simp only [decL]
      rw [toNat_ofNat_lt (by omega), ih (n / 128) (by omega)]
      omega

/-- All bytes but the last go on. -/
theorem numL_shape (n : Nat) : ∃ i z, numL n = i ++ [z] ∧ (∀ b ∈ i, 128 ≤ b.toNat) ∧ z.toNat < 128 := by
  induction n using Nat.strongRecOn with
  | ind n ih =>
    by_cases h : n < 128
    · exact ⟨[], _, by rw [numL_small h]; rfl, by simp, by rw [toNat_ofNat_lt (by omega)]; exact h⟩
    · obtain ⟨i, z, h1, h2, h3⟩ := ih (n / 128) (by omega)
      refine ⟨UInt8.ofNat (n % 128 + 128) :: i, z, by rw [numL_big h, h1]; rfl, ?_, h3⟩
      intro b hb
      rcases List.mem_cons.1 hb with rfl | hb
      · rw [toNat_ofNat_lt (by omega)]; omega
      · exact h2 b hb

theorem numL_pow (n k : Nat) (h : n < 128 ^ (k + 1)) : (numL n).length ≤ k + 1 := by
  induction k generalizing n with
  | zero => rw [numL_small (by simpa using h)]; simp
  | succ k ih =>
    by_cases hs : n < 128
    · rw [numL_small hs]; simp
    · rw [numL_big hs]
      have := ih (n / 128) (by
        rw [Nat.div_lt_iff_lt_mul (by decide)]
        rw [Nat.pow_succ] at h
        exact h)
      simp only [List.length_cons]
      omega
theorem numL_five {n : Nat} (h : n ≤ 1000000000) : (numL n).length ≤ 5 := by
  have e : 128 ^ (4 + 1) = 34359738368 := by decide
  exact numL_pow n 4 (by rw [e]; omega)

/-- The bytes begin with the code of n. -/
def IsNum (l : List UInt8) (n : Nat) : Prop := n ≤ 1000000000 ∧ numL n <+: l

/-- k bytes that go on: a code goes on behind them. -/
theorem num_longer {l : List UInt8} {n k : Nat} (h : numL n <+: l) (hk : ∀ b ∈ l.take k, 128 ≤ b.toNat) (hkl : k ≤ l.length) : k < (numL n).length := by
  obtain ⟨i, z, h1, h2, h3⟩ := numL_shape n
  apply Nat.lt_of_not_le
  intro hle
  obtain ⟨r, hr⟩ := h
  have hz : z ∈ l.take k := by
    rw [← hr, List.take_append, h1]
    simp
    left
    rw [h1] at hle
    simp at hle
    rw [List.take_of_length_le (by simp; omega)]
    simp
  have := hk z hz
  omega

theorem num_exact {l : List UInt8} {n k : Nat} (h : numL n <+: l) (hk : ∀ b ∈ l.take k, 128 ≤ b.toNat) (hkl : k < l.length) (hz : l[k].toNat < 128) : numL n = l.take (k + 1) := by
  have h1 := num_longer h hk (Nat.le_of_lt hkl)
  obtain ⟨i, z, e, h2, h3⟩ := numL_shape n
  obtain ⟨r, hr⟩ := h
  have hlen : (numL n).length = k + 1 := by
    apply Nat.le_antisymm _ h1
    apply Nat.le_of_not_lt
    intro hlt
    have hi : k < i.length := by rw [e] at hlt; simp at hlt; omega
    have hm : l[k] ∈ i := by
      have : l[k] = i[k] := by
        have e2 : l = i ++ ([z] ++ r) := by rw [← hr, e]; simp
        subst e2
        rw [List.getElem_append_left hi]
      rw [this]
      exact List.getElem_mem hi
    have := h2 _ hm
    omega
  rw [← hr, ← hlen]
  simp

theorem decL_take_le (l : List UInt8) (k : Nat) : decL (l.take k) ≤ decL l := by
  have h : decL l = decL (l.take k) + 128 ^ (l.take k).length * decL (l.drop k) := by rw [← decL_append, List.take_append_drop]
  rw [h]
  exact Nat.le_add_right _ _

theorem decL_lt (l : List UInt8) : decL l < 128 ^ l.length := by
  induction l with
  | nil => simp [decL]
  | cons b l ih =>
    simp only [decL, List.length_cons, Nat.pow_succ]
    have : b.toNat % 128 < 128 := Nat.mod_lt _ (by decide)
    omega

/-- What has been read so far is no more than the number. -/
theorem num_ge {l : List UInt8} {n k : Nat} (h : numL n <+: l) (hk : k ≤ (numL n).length) : decL (l.take k) ≤ n := by
  obtain ⟨r, hr⟩ := h
  rw [← hr, List.take_append_of_le_length hk]
  have := decL_take_le (numL n) k
  rwa [decL_numL] at this

end Go.Proofs.Ytekgackednpdgaa
