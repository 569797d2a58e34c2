/- Texts, seals: walked. -/
import Derived.Test.YtekgackednpdgaaBytes
namespace Go.Proofs.Ytekgackednpdgaa
open Go.RowKit

def numB (n : Nat) : ByteArray := ⟨(numL n).toArray⟩
theorem numB_size (n : Nat) : (numB n).size ≤ n + 1 := by
  have := numL_length n
  simpa [numB, ByteArray.size] using this
def textB (s : ByteArray) : ByteArray := numB s.size ++ s

theorem numBytes_b (n : Nat) (hn : n ≤ 1099511627776) (w : World) : Calls Try.prog 143 #[.int .i64 (n : Int)] w fun e w' => e = .returned (.string (numB n)) ∧ Below w.heap.size w w' := numBytes_any n hn w

theorem l1NumB_b (n : Nat) (hn : n ≤ 1099511627776) (w : World) : Calls Try.prog 140 #[.int .i64 (n : Int)] w fun e w' => e = .returned (.string (numB n)) ∧ Below w.heap.size w w' := l1NumB_any n hn w

/-- impl.textBytes -/
theorem textBytes_any (s : ByteArray) (hs : s.size ≤ 1099511627776) (w : World) : Calls Try.prog 169 #[.string s] w fun e w' => e = .returned (.string (textB s)) ∧ Below w.heap.size w w' := by
  have hz := numB_size s.size
  have hadd := fun W => run_string_add_sum (P := Try.prog) (w := W) (numB s.size) s (by omega)
  have Hc := Lib.hid (numBytes_b s.size hs)
  go_enter Try.func169, Try.ntmps169
  go_wp2_with (go_at_call 143; refine (Hc.out _).mono ?_; rintro e w1 ⟨rfl, hb⟩)
  go_ret
  exact ⟨rfl, hb⟩

/-- spec.l1TextB -/
theorem l1TextB_any (s : ByteArray) (hs : s.size ≤ 1099511627776) (w : World) : Calls Try.prog 166 #[.string s] w fun e w' => e = .returned (.string (textB s)) ∧ Below w.heap.size w w' := by
  have hz := numB_size s.size
  have hadd := fun W => run_string_add_sum (P := Try.prog) (w := W) (numB s.size) s (by omega)
  have Hc := Lib.hid (l1NumB_b s.size hs)
  go_enter Try.func166, Try.ntmps166
  go_wp2_with (go_at_call 140; refine (Hc.out _).mono ?_; rintro e w1 ⟨rfl, hb⟩)
  go_ret
  exact ⟨rfl, hb⟩

def threeL (n : Int) : List UInt8 := [UInt8.ofNat (n.toNat / 65536), UInt8.ofNat (n.toNat / 256 % 256), UInt8.ofNat (n.toNat % 256)]
def threeB (n : Int) : ByteArray := ⟨(threeL n).toArray⟩
def sealB (s : ByteArray) : ByteArray := s ++ threeB (sumL s.data.toList)

theorem convert_three {P : Program} {src dst e : TypeId} (hs : P.underlying src = some (.slice e)) (he : P.underlying e = some (.int .u8)) (hd : P.underlying dst = some .string) (n : Int) (h0 : 0 ≤ n) (h1 : n < 16000057) (W : World) :
    (convert src dst (.slice (some ⟨W.heap.size, 0, none⟩) 3 3)).run P (W.alloc (.cells #[.int .u8 (n / 65536), .int .u8 (n / 256 % 256), .int .u8 (n % 256)] e)) =
      .ok (.string (threeB n)) (W.alloc (.cells #[.int .u8 (n / 65536), .int .u8 (n / 256 % 256), .int .u8 (n % 256)] e)) := by
  obtain ⟨m, rfl⟩ := Int.eq_ofNat_of_zero_le h0
  have e1 : byteV (UInt8.ofNat (m / 65536)) = .int .u8 ((m : Int) / 65536) := by rw [byteV_ofNat (by omega)]; simp
  have e2 : byteV (UInt8.ofNat (m / 256 % 256)) = .int .u8 ((m : Int) / 256 % 256) := by rw [byteV_ofNat (by omega)]; simp
  have e3 : byteV (UInt8.ofNat (m % 256)) = .int .u8 ((m : Int) % 256) := by rw [byteV_ofNat (by omega)]; simp
  refine run_convert_bytes_back _ src dst e _ 3 (threeL m) hs he hd fun j hj => ?_
  rw [WideShapes.add_plain, Nat.zero_add, World.cell?_alloc_mark]
  rw [← e1, ← e2, ← e3]
  match j, hj with
  | 0, _ => rfl
  | 1, _ => rfl
  | 2, _ => rfl

/-- spec.l1Three -/
theorem l1Three_any (n : Int) (h0 : 0 ≤ n) (h1 : n < 16000057) (w : World) : Calls Try.prog 179 #[.int .i64 n] w fun e w' => e = .returned (.string (threeB n)) ∧ Below w.heap.size w w' := by
  have hcv := convert_three (src := 162) (dst := 9) Try.underlying162 Try.underlying5 Try.underlying9 n h0 h1
  go_enter Try.func179, Try.ntmps179
  go_wp2
  go_ret
  exact ⟨rfl, below_new _ _⟩

/-- impl.seal -/
theorem seal_any (s : ByteArray) (hs : s.size ≤ 1099511627776) (w : World) : Calls Try.prog 144 #[.string s] w fun e w' => e = .returned (.string (sealB s)) ∧ Below w.heap.size w w' := by
  have Hc := Lib.hid (sumOf_any s (by unfold maxLen; omega))
  obtain ⟨b0, b1⟩ := sumL_bound s.data.toList
  have he : sealB s = s ++ threeB (sumL s.data.toList) := rfl
  rw [he]
  clear he
  generalize sumL s.data.toList = n at *
  have hcv := convert_three (src := 162) (dst := 9) Try.underlying162 Try.underlying5 Try.underlying9 n b0 b1
  have hadd := fun W => run_string_add_sum (P := Try.prog) (w := W) s (threeB n) (by have : (threeB n).size = 3 := rfl; omega)
  go_enter Try.func144, Try.ntmps144
  go_wp2_with (go_at_call 183; refine (Hc.out _).mono ?_; rintro e w1 ⟨rfl, rfl⟩)
  go_ret
  exact ⟨rfl, below_new _ _⟩

/-- spec.l1Seal -/
theorem l1Seal_any (s : ByteArray) (hs : s.size ≤ 1099511627776) (w : World) : Calls Try.prog 141 #[.string s] w fun e w' => e = .returned (.string (sealB s)) ∧ Below w.heap.size w w' := by
  have Hc := Lib.hid (l1Sum_any s (by unfold maxLen; omega))
  obtain ⟨b0, b1⟩ := sumL_bound s.data.toList
  have he : sealB s = s ++ threeB (sumL s.data.toList) := rfl
  rw [he]
  clear he
  generalize sumL s.data.toList = n at *
  have Hd := Lib.hid (l1Three_any n b0 b1)
  have hadd := fun W => run_string_add_sum (P := Try.prog) (w := W) s (threeB n) (by have : (threeB n).size = 3 := rfl; omega)
  go_enter Try.func141, Try.ntmps141
  go_wp2_with (first | (go_at_call 180; refine (Hc.out _).mono ?_; rintro e w1 ⟨rfl, rfl⟩) | (go_at_call 179; refine (Hd.out _).mono ?_; rintro e w1 ⟨rfl, hb⟩))
  go_ret
  exact ⟨rfl, hb⟩

end Go.Proofs.Ytekgackednpdgaa
