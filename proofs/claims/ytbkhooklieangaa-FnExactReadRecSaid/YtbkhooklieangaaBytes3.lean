/- The exported functions of numbers, texts, sums and seals, walked. -/
import Derived.Test.YtbkhooklieangaaCore
namespace Go.Proofs.Ytbkhooklieangaa
open Go.RowKit

def numR (n : Int) : ByteArray × Bool := if inB n 0 1000000000 = true then (numB n.toNat, true) else (⟨#[]⟩, false)
def textR (s : ByteArray) : ByteArray × Bool := if s.size ≤ 60 then (textB s, true) else (⟨#[]⟩, false)
def sumR (s : ByteArray) : Int × Bool := if s.size ≤ 6000 then (sumL s.data.toList, true) else (0, false)
def sealR (s : ByteArray) : ByteArray × Bool := if s.size ≤ 5997 then (sealB s, true) else (⟨#[]⟩, false)
def openR (s : ByteArray) : ByteArray × Bool := if (3 ≤ s.size ∧ s.size ≤ 6000) ∧ sealB (s.extract 0 (s.size - 3)) = s then (s.extract 0 (s.size - 3), true) else (⟨#[]⟩, false)

/-- impl.OpenSeal -/
theorem expOpenSeal_any (s : ByteArray) (hs : s.size ≤ maxLen) (w : World) : Calls Try.prog 75 #[.string s] w fun e w' => e = .returned (.tuple #[.string (openR s).1, .bool (openR s).2]) ∧ Below w.heap.size w w' := by
  unfold openR
  unfold maxLen at hs
  by_cases hq : 3 ≤ s.size ∧ s.size ≤ 6000
  · obtain ⟨q0, q1⟩ := hq
    have hin : inB (s.size : Int) 3 6000 = true := by rw [inB_iff]; omega
    have hsz : (s.extract 0 (s.size - 3)).size ≤ 1099511627776 := by rw [ByteArray.size_extract]; omega
    have Hd := Lib.hid (seal_any _ hsz)
    have esub : ((s.size : Int) - 3).toNat = s.size - 3 := by omega
    by_cases hq : sealB (s.extract 0 (s.size - 3)) = s
    · rw [if_pos ⟨⟨q0, q1⟩, hq⟩]
      rw [hq] at Hd
      clear hq hsz
      go_enter Try.func75, Try.ntmps75
      go_wp2_with (first | (go_at_call 115; refine (within_any _ _ _ _).mono ?_; rintro e w1 ⟨rfl, rfl⟩) | (go_at_call 127; refine (Hd.out _).mono ?_; rintro e w1 ⟨rfl, hb⟩))
      go_ret2
      exact ⟨rfl, hb⟩
    · rw [if_neg (fun h => hq h.2)]
      have hne := str_ne hq
      clear hq hsz
      go_enter Try.func75, Try.ntmps75
      go_wp2_with (first | (go_at_call 115; refine (within_any _ _ _ _).mono ?_; rintro e w1 ⟨rfl, rfl⟩) | (go_at_call 127; refine (Hd.out _).mono ?_; rintro e w1 ⟨rfl, hb⟩))
      go_ret2
      exact ⟨rfl, hb⟩
  · rw [if_neg (fun h => hq h.1)]
    have hin : inB (s.size : Int) 3 6000 = false := by rw [inB_not]; omega
    by_cases h3 : s.size < 3
    · go_enter Try.func75, Try.ntmps75
      go_wp2_with (first | (go_at_call 115; refine (within_any _ _ _ _).mono ?_; rintro e w1 ⟨rfl, rfl⟩) | fail)
      go_ret2
      exact ⟨rfl, Below.refl _ _⟩
    · go_enter Try.func75, Try.ntmps75
      go_wp2_with (first | (go_at_call 115; refine (within_any _ _ _ _).mono ?_; rintro e w1 ⟨rfl, rfl⟩) | fail)
      go_ret2
      exact ⟨rfl, Below.refl _ _⟩

/-- spec.OpenSeal -/
theorem expOpenSealS_any (s : ByteArray) (hs : s.size ≤ maxLen) (w : World) : Calls Try.prog 68 #[.string s] w fun e w' => e = .returned (.tuple #[.string (openR s).1, .bool (openR s).2]) ∧ Below w.heap.size w w' := by
  unfold openR
  unfold maxLen at hs
  by_cases hq : 3 ≤ s.size ∧ s.size ≤ 6000
  · obtain ⟨q0, q1⟩ := hq
    have hin : inB (s.size : Int) 3 6000 = true := by rw [inB_iff]; omega
    have hsz : (s.extract 0 (s.size - 3)).size ≤ 1099511627776 := by rw [ByteArray.size_extract]; omega
    have Hd := Lib.hid (l1Seal_any _ hsz)
    have esub : ((s.size : Int) - 3).toNat = s.size - 3 := by omega
    by_cases hq : sealB (s.extract 0 (s.size - 3)) = s
    · rw [if_pos ⟨⟨q0, q1⟩, hq⟩]
      rw [hq] at Hd
      clear hq hsz
      go_enter Try.func68, Try.ntmps68
      go_wp2_with (first | fail | (go_at_call 121; refine (Hd.out _).mono ?_; rintro e w1 ⟨rfl, hb⟩))
      go_ret2
      exact ⟨rfl, hb⟩
    · rw [if_neg (fun h => hq h.2)]
      have hne := str_ne hq
      clear hq hsz
      go_enter Try.func68, Try.ntmps68
      go_wp2_with (first | fail | (go_at_call 121; refine (Hd.out _).mono ?_; rintro e w1 ⟨rfl, hb⟩))
      go_ret2
      exact ⟨rfl, hb⟩
  · rw [if_neg (fun h => hq h.1)]
    have hin : inB (s.size : Int) 3 6000 = false := by rw [inB_not]; omega
    by_cases h3 : s.size < 3
    · go_enter Try.func68, Try.ntmps68
      go_wp2_with (first | fail | fail)
      go_ret2
      exact ⟨rfl, Below.refl _ _⟩
    · go_enter Try.func68, Try.ntmps68
      go_wp2_with (first | fail | fail)
      go_ret2
      exact ⟨rfl, Below.refl _ _⟩

end Go.Proofs.Ytbkhooklieangaa
