/- The exported functions of numbers, texts, sums and seals, walked. -/
import Derived.Test.YtpnganfdccelmaaBytes2
namespace Go.Proofs.Ytpnganfdccelmaa
open Go.RowKit

def numR (n : Int) : ByteArray × Bool := if inB n 0 1000000000 = true then (numB n.toNat, true) else (⟨#[]⟩, false)
def textR (s : ByteArray) : ByteArray × Bool := if s.size ≤ 60 then (textB s, true) else (⟨#[]⟩, false)
def sumR (s : ByteArray) : Int × Bool := if s.size ≤ 6000 then (sumL s.data.toList, true) else (0, false)
def sealR (s : ByteArray) : ByteArray × Bool := if s.size ≤ 5997 then (sealB s, true) else (⟨#[]⟩, false)
def openR (s : ByteArray) : ByteArray × Bool := if (3 ≤ s.size ∧ s.size ≤ 6000) ∧ sealB (s.extract 0 (s.size - 3)) = s then (s.extract 0 (s.size - 3), true) else (⟨#[]⟩, false)

/-- impl.NumBytes -/
theorem expNumBytes_any (n : Int) (w : World) : Calls Try.prog 18 #[.int .i64 n] w fun e w' => e = .returned (.tuple #[.string (numR n).1, .bool (numR n).2]) ∧ Below w.heap.size w w' := by
  unfold numR
  have Hc := Lib.hid (within_any n 0 1000000000)
  cases hq : inB n 0 1000000000
  · rw [hq] at Hc
    go_enter Try.func18, Try.ntmps18
    go_wp2_with (go_at_call 48; refine (Hc.out _).mono ?_; rintro e w1 ⟨rfl, rfl⟩)
    go_ret2
    exact ⟨rfl, Below.refl _ _⟩
  · rw [hq] at Hc
    obtain ⟨h0, h1⟩ := inB_iff.1 hq
    obtain ⟨m, rfl⟩ := Int.eq_ofNat_of_zero_le h0
    have Hd := Lib.hid (numBytes_b m (by omega))
    clear hq
    go_enter Try.func18, Try.ntmps18
    go_wp2_with (first | (go_at_call 48; refine (Hc.out _).mono ?_; rintro e w1 ⟨rfl, rfl⟩) | (go_at_call 49; refine (Hd.out _).mono ?_; rintro e w1 ⟨rfl, hb⟩))
    go_ret2
    exact ⟨rfl, hb⟩

/-- impl.TextBytes -/
theorem expTextBytes_any (s : ByteArray) (hs : s.size ≤ maxLen) (w : World) : Calls Try.prog 20 #[.string s] w fun e w' => e = .returned (.tuple #[.string (textR s).1, .bool (textR s).2]) ∧ Below w.heap.size w w' := by
  unfold textR
  unfold maxLen at hs
  by_cases hq : s.size ≤ 60
  · rw [if_pos hq]
    have Hd := Lib.hid (textBytes_any s (by omega))
    go_enter Try.func20, Try.ntmps20
    go_wp2_with (go_at_call 51; refine (Hd.out _).mono ?_; rintro e w1 ⟨rfl, hb⟩)
    go_ret2
    exact ⟨rfl, hb⟩
  · rw [if_neg hq]
    go_enter Try.func20, Try.ntmps20
    go_wp2
    go_ret2
    exact ⟨rfl, Below.refl _ _⟩

/-- impl.SumOf -/
theorem expSumOf_any (s : ByteArray) (hs : s.size ≤ maxLen) (w : World) : Calls Try.prog 16 #[.string s] w fun e w' => e = .returned (.tuple #[.int .i64 (sumR s).1, .bool (sumR s).2]) ∧ Below w.heap.size w w' := by
  unfold sumR
  have Hd := Lib.hid (sumOf_any s hs)
  unfold maxLen at hs
  by_cases hq : s.size ≤ 6000
  · rw [if_pos hq]
    go_enter Try.func16, Try.ntmps16
    go_wp2_with (go_at_call 45; refine (Hd.out _).mono ?_; rintro e w1 ⟨rfl, rfl⟩)
    go_ret2
    exact ⟨rfl, Below.refl _ _⟩
  · rw [if_neg hq]
    go_enter Try.func16, Try.ntmps16
    go_wp2
    go_ret2
    exact ⟨rfl, Below.refl _ _⟩

/-- impl.SealBytes -/
theorem expSealBytes_any (s : ByteArray) (hs : s.size ≤ maxLen) (w : World) : Calls Try.prog 26 #[.string s] w fun e w' => e = .returned (.tuple #[.string (sealR s).1, .bool (sealR s).2]) ∧ Below w.heap.size w w' := by
  unfold sealR
  unfold maxLen at hs
  by_cases hq : s.size ≤ 5997
  · rw [if_pos hq]
    have Hd := Lib.hid (seal_any s (by omega))
    go_enter Try.func26, Try.ntmps26
    go_wp2_with (go_at_call 56; refine (Hd.out _).mono ?_; rintro e w1 ⟨rfl, hb⟩)
    go_ret2
    exact ⟨rfl, hb⟩
  · rw [if_neg hq]
    go_enter Try.func26, Try.ntmps26
    go_wp2
    go_ret2
    exact ⟨rfl, Below.refl _ _⟩

/-- impl.OpenSeal -/
theorem expOpenSeal_any (s : ByteArray) (hs : s.size ≤ maxLen) (w : World) : Calls Try.prog 28 #[.string s] w fun e w' => e = .returned (.tuple #[.string (openR s).1, .bool (openR s).2]) ∧ Below w.heap.size w w' := by
  unfold openR
  unfold maxLen at hs
  by_cases hq : 3 ≤ s.size ∧ s.size ≤ 6000
  · obtain ⟨q0, q1⟩ := hq
    have hin : inB (s.size : Int) 3 6000 = true := by rw [inB_iff]; omega
    have hsz : (s.extract 0 (s.size - 3)).size ≤ 1099511627776 := by rw [ByteArray.size_extract]; omega
    have Hd := Lib.hid (seal_any _ hsz)
    have esub : ((s.size : Int) - 3).toNat = s.size - 3 := by omega
    by_cases hq : sealB (s.extract 0 (s.size - 3)) = s
    · rw [if_pos ⟨⟨q0, q1⟩, hq⟩]
      rw [hq] at Hd
      clear hq hsz
      go_enter Try.func28, Try.ntmps28
      go_wp2_with (first | (go_at_call 48; refine (within_any _ _ _ _).mono ?_; rintro e w1 ⟨rfl, rfl⟩) | (go_at_call 56; refine (Hd.out _).mono ?_; rintro e w1 ⟨rfl, hb⟩))
      go_ret2
      exact ⟨rfl, hb⟩
    · rw [if_neg (fun h => hq h.2)]
      have hne := str_ne hq
      clear hq hsz
      go_enter Try.func28, Try.ntmps28
      go_wp2_with (first | (go_at_call 48; refine (within_any _ _ _ _).mono ?_; rintro e w1 ⟨rfl, rfl⟩) | (go_at_call 56; refine (Hd.out _).mono ?_; rintro e w1 ⟨rfl, hb⟩))
      go_ret2
      exact ⟨rfl, hb⟩
  · rw [if_neg (fun h => hq h.1)]
    have hin : inB (s.size : Int) 3 6000 = false := by rw [inB_not]; omega
    by_cases h3 : s.size < 3
    · go_enter Try.func28, Try.ntmps28
      go_wp2_with (first | (go_at_call 48; refine (within_any _ _ _ _).mono ?_; rintro e w1 ⟨rfl, rfl⟩) | fail)
      go_ret2
      exact ⟨rfl, Below.refl _ _⟩
    · go_enter Try.func28, Try.ntmps28
      go_wp2_with (first | (go_at_call 48; refine (within_any _ _ _ _).mono ?_; rintro e w1 ⟨rfl, rfl⟩) | fail)
      go_ret2
      exact ⟨rfl, Below.refl _ _⟩

/-- spec.NumBytes -/
theorem expNumBytesS_any (n : Int) (w : World) : Calls Try.prog 17 #[.int .i64 n] w fun e w' => e = .returned (.tuple #[.string (numR n).1, .bool (numR n).2]) ∧ Below w.heap.size w w' := by
  unfold numR
  have Hc := Lib.hid (l1In_any n 0 1000000000)
  cases hq : inB n 0 1000000000
  · rw [hq] at Hc
    go_enter Try.func17, Try.ntmps17
    go_wp2_with (go_at_call 46; refine (Hc.out _).mono ?_; rintro e w1 ⟨rfl, rfl⟩)
    go_ret2
    exact ⟨rfl, Below.refl _ _⟩
  · rw [hq] at Hc
    obtain ⟨h0, h1⟩ := inB_iff.1 hq
    obtain ⟨m, rfl⟩ := Int.eq_ofNat_of_zero_le h0
    have Hd := Lib.hid (l1NumB_b m (by omega))
    clear hq
    go_enter Try.func17, Try.ntmps17
    go_wp2_with (first | (go_at_call 46; refine (Hc.out _).mono ?_; rintro e w1 ⟨rfl, rfl⟩) | (go_at_call 47; refine (Hd.out _).mono ?_; rintro e w1 ⟨rfl, hb⟩))
    go_ret2
    exact ⟨rfl, hb⟩

/-- spec.TextBytes -/
theorem expTextBytesS_any (s : ByteArray) (hs : s.size ≤ maxLen) (w : World) : Calls Try.prog 19 #[.string s] w fun e w' => e = .returned (.tuple #[.string (textR s).1, .bool (textR s).2]) ∧ Below w.heap.size w w' := by
  unfold textR
  unfold maxLen at hs
  by_cases hq : s.size ≤ 60
  · rw [if_pos hq]
    have Hd := Lib.hid (l1TextB_any s (by omega))
    go_enter Try.func19, Try.ntmps19
    go_wp2_with (go_at_call 50; refine (Hd.out _).mono ?_; rintro e w1 ⟨rfl, hb⟩)
    go_ret2
    exact ⟨rfl, hb⟩
  · rw [if_neg hq]
    go_enter Try.func19, Try.ntmps19
    go_wp2
    go_ret2
    exact ⟨rfl, Below.refl _ _⟩

/-- spec.SumOf -/
theorem expSumOfS_any (s : ByteArray) (hs : s.size ≤ maxLen) (w : World) : Calls Try.prog 15 #[.string s] w fun e w' => e = .returned (.tuple #[.int .i64 (sumR s).1, .bool (sumR s).2]) ∧ Below w.heap.size w w' := by
  unfold sumR
  have Hd := Lib.hid (l1Sum_any s hs)
  unfold maxLen at hs
  by_cases hq : s.size ≤ 6000
  · rw [if_pos hq]
    go_enter Try.func15, Try.ntmps15
    go_wp2_with (go_at_call 44; refine (Hd.out _).mono ?_; rintro e w1 ⟨rfl, rfl⟩)
    go_ret2
    exact ⟨rfl, Below.refl _ _⟩
  · rw [if_neg hq]
    go_enter Try.func15, Try.ntmps15
    go_wp2
    go_ret2
    exact ⟨rfl, Below.refl _ _⟩

/-- spec.SealBytes -/
theorem expSealBytesS_any (s : ByteArray) (hs : s.size ≤ maxLen) (w : World) : Calls Try.prog 25 #[.string s] w fun e w' => e = .returned (.tuple #[.string (sealR s).1, .bool (sealR s).2]) ∧ Below w.heap.size w w' := by
  unfold sealR
  unfold maxLen at hs
  by_cases hq : s.size ≤ 5997
  · rw [if_pos hq]
    have Hd := Lib.hid (l1Seal_any s (by omega))
    go_enter Try.func25, Try.ntmps25
    go_wp2_with (go_at_call 55; refine (Hd.out _).mono ?_; rintro e w1 ⟨rfl, hb⟩)
    go_ret2
    exact ⟨rfl, hb⟩
  · rw [if_neg hq]
    go_enter Try.func25, Try.ntmps25
    go_wp2
    go_ret2
    exact ⟨rfl, Below.refl _ _⟩

/-- spec.OpenSeal -/
theorem expOpenSealS_any (s : ByteArray) (hs : s.size ≤ maxLen) (w : World) : Calls Try.prog 27 #[.string s] w fun e w' => e = .returned (.tuple #[.string (openR s).1, .bool (openR s).2]) ∧ Below w.heap.size w w' := by
  unfold openR
  unfold maxLen at hs
  by_cases hq : 3 ≤ s.size ∧ s.size ≤ 6000
  · obtain ⟨q0, q1⟩ := hq
    have hin : inB (s.size : Int) 3 6000 = true := by rw [inB_iff]; omega
    have hsz : (s.extract 0 (s.size - 3)).size ≤ 1099511627776 := by rw [ByteArray.size_extract]; omega
    have Hd := Lib.hid (l1Seal_any _ hsz)
    have esub : ((s.size : Int) - 3).toNat = s.size - 3 := by omega
    by_cases hq : sealB (s.extract 0 (s.size - 3)) = s
    · rw [if_pos ⟨⟨q0, q1⟩, hq⟩]
      rw [hq] at Hd
      clear hq hsz
      go_enter Try.func27, Try.ntmps27
      go_wp2_with (first | fail | (go_at_call 55; refine (Hd.out _).mono ?_; rintro e w1 ⟨rfl, hb⟩))
      go_ret2
      exact ⟨rfl, hb⟩
    · rw [if_neg (fun h => hq h.2)]
      have hne := str_ne hq
      clear hq hsz
      go_enter Try.func27, Try.ntmps27
      go_wp2_with (first | fail | (go_at_call 55; refine (Hd.out _).mono ?_; rintro e w1 ⟨rfl, hb⟩))
      go_ret2
      exact ⟨rfl, hb⟩
  · rw [if_neg (fun h => hq h.1)]
    have hin : inB (s.size : Int) 3 6000 = false := by rw [inB_not]; omega
    by_cases h3 : s.size < 3
    · go_enter Try.func27, Try.ntmps27
      go_wp2_with (first | fail | fail)
      go_ret2
      exact ⟨rfl, Below.refl _ _⟩
    · go_enter Try.func27, Try.ntmps27
      go_wp2_with (first | fail | fail)
      go_ret2
      exact ⟨rfl, Below.refl _ _⟩

end Go.Proofs.Ytpnganfdccelmaa
