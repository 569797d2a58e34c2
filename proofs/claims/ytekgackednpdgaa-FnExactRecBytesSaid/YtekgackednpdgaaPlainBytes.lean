/- Plain: the number code, the checksum. No program. -/
import Derived.Test.YtekgackednpdgaaExt
namespace Go.Proofs.Ytekgackednpdgaa
open Go.RowKit

/-- A byte as a cell. -/
def byteV (c : UInt8) : Value := .int .u8 (c.toNat : Int)
theorem byteV_one (l : List UInt8) : ∀ u ∈ l.map byteV, u.oneCell' = true := by
  intro u hu
  obtain ⟨c, _, rfl⟩ := List.mem_map.1 hu
  rfl

theorem byteV_ofNat {n : Nat} (h : n < 256) : byteV (UInt8.ofNat n) = .int .u8 (n : Int) := by
  unfold byteV
  rw [UInt8.toNat_ofNat_of_lt' (by simpa [UInt8.size] using h)]

/-- The bytes of a number. -/
def numL (n : Nat) : List UInt8 := if n < 128 then [UInt8.ofNat n] else UInt8.ofNat (n % 128 + 128) :: numL (n / 128)
termination_by n
decreasing_by omega

theorem numL_small {n : Nat} (h : n < 128) : numL n = [UInt8.ofNat n] := by rw [numL, if_pos h]
theorem numL_big {n : Nat} (h : ¬ n < 128) : numL n = UInt8.ofNat (n % 128 + 128) :: numL (n / 128) := by rw [numL, if_neg h]

theorem numL_length (n : Nat) : (numL n).length ≤ n + 1 := by
  induction n using Nat.strongRecOn with
  | ind n ih =>
    by_cases h : n < 128
    · rw [numL_small h]; simp
    · rw [numL_big h]
      have := ih (n / 128) (by omega)
      simp only [List.length_cons]
      omega

/-- One step of the checksum. -/
def sumStep (s : Int) (c : UInt8) : Int := (31 * s + (c.toNat : Int) + 1) % 16000057
/-- The checksum. -/
def sumL (l : List UInt8) : Int := l.foldl sumStep 7

theorem sumStep_bound (s : Int) (c : UInt8) : 0 ≤ sumStep s c ∧ sumStep s c < 16000057 := by unfold sumStep; omega
theorem foldl_bound : ∀ (l : List UInt8) (s : Int), 0 ≤ s ∧ s < 16000057 → 0 ≤ l.foldl sumStep s ∧ l.foldl sumStep s < 16000057
  | [], _, h => h
  | c :: l, s, _ => foldl_bound l _ (sumStep_bound s c)
theorem sumL_bound (l : List UInt8) : 0 ≤ sumL l ∧ sumL l < 16000057 := foldl_bound l 7 (by decide)
theorem sumL_snoc (l : List UInt8) (c : UInt8) : sumL (l ++ [c]) = sumStep (sumL l) c := by simp [sumL]
theorem take_snoc (s : ByteArray) (k : Nat) (h : k < s.size) : s.data.toList.take (k + 1) = s.data.toList.take k ++ [s[k]] := by
  rw [List.take_succ_eq_append_getElem (by simpa using h)]; rfl
theorem take_all (s : ByteArray) : s.data.toList.take s.size = s.data.toList := List.take_of_length_le (by rw [Array.length_toList]; exact Nat.le_refl _)

theorem ret_bool {a b : Bool} (h : a = b) : Ending.returned (.bool a) = .returned (.bool b) := by rw [h]
theorem str_eq_iff {a b : ByteArray} : a.toList = b.toList ↔ a = b := by
  rw [ByteArray.toList_eq, ByteArray.toList_eq]
  constructor
  · intro h
    cases a; cases b
    simpa using h
  · rintro rfl; rfl
theorem str_ne {a b : ByteArray} (h : a ≠ b) : (a.toList == b.toList) = false := by
  rw [beq_eq_false_iff_ne]; exact fun e => h (str_eq_iff.1 e)
theorem ret_int {k : IntKind} {a b : Int} (h : a = b) : Ending.returned (.int k a) = .returned (.int k b) := by rw [h]
theorem ret_str {a b : ByteArray} (h : a = b) : Ending.returned (.string a) = .returned (.string b) := by rw [h]

end Go.Proofs.Ytekgackednpdgaa
