/- Lists of strings: counted, copied, encoded. -/
import Derived.Test.YtekgackednpdgaaStrs
import Derived.Test.YtekgackednpdgaaBytes2
namespace Go.Proofs.Ytekgackednpdgaa
open Go.RowKit

/-- The texts' encodings, one behind another. -/
def textsL : List ByteArray → ByteArray
  | [] => ⟨#[]⟩
  | s :: l => textB s ++ textsL l
theorem textsL_snoc (l : List ByteArray) (s : ByteArray) : textsL (l ++ [s]) = textsL l ++ textB s := by
  induction l with
  | nil => exact (ByteArray.append_empty (b := textB s)).trans (ByteArray.empty_append (b := textB s)).symm
  | cons a l ih => simp [textsL, ih, ByteArray.append_assoc]
def textsB (l : List ByteArray) : ByteArray := numB l.length ++ textsL l
/-- The strings' bytes together. -/
def sumSize : List ByteArray → Nat
  | [] => 0
  | s :: l => s.size + sumSize l
theorem textB_size (s : ByteArray) : (textB s).size ≤ 2 * s.size + 1 := by
  unfold textB
  rw [ByteArray.size_append]
  have := numB_size s.size
  omega
theorem textsL_size (l : List ByteArray) : (textsL l).size ≤ 2 * sumSize l + l.length := by
  induction l with
  | nil => exact Nat.zero_le _
  | cons a l ih =>
    have := textB_size a
    simp only [textsL, ByteArray.size_append, sumSize, List.length_cons]
    omega
theorem sumSize_take (l : List ByteArray) (k : Nat) (h : k < l.length) : sumSize (l.take (k + 1)) = sumSize (l.take k) + l[k].size := by
  rw [List.take_succ_eq_append_getElem h]
  have : ∀ a b : List ByteArray, sumSize (a ++ b) = sumSize a + sumSize b := by
    intro a b
    induction a with
    | nil => simp [sumSize]
    | cons x a ih => simp only [List.cons_append, sumSize, ih]; omega
  rw [this]
  simp [sumSize]
theorem sumSize_le (l : List ByteArray) (k : Nat) : sumSize (l.take k) ≤ sumSize l := by
  induction l generalizing k with
  | nil => simp [sumSize]
  | cons a l ih =>
    cases k with
    | zero => simp [sumSize]
    | succ k => simp only [List.take_succ_cons, sumSize]; have := ih k; omega
theorem sumSize_get (l : List ByteArray) (k : Nat) (h : k < l.length) : l[k].size ≤ sumSize l := by
  have h1 := sumSize_take l k h
  have h2 := sumSize_le l (k + 1)
  omega

set_option maxRecDepth 100000 in
/-- impl.textsBytes -/
theorem textsBytes_any (v : Value) (l : List ByteArray) (hl : l.length ≤ 1048576) (hs : sumSize l ≤ 1048576) (w : World) (h : StrRow w v l) :
    Calls Try.prog 168 #[v] w fun e w' => e = .returned (.string (textsB l)) ∧ Below w.heap.size w w' := by
  obtain ⟨p, c, rfl, r⟩ := h
  have R := Lib.hid r
  have Hc := Lib.hid (numBytes_b l.length (by omega))
  clear r
  obtain ⟨n, hn⟩ : ∃ n : Nat, l.length = n := ⟨_, rfl⟩
  have Hn := Lib.hid hn
  rw [hn] at Hc ⊢
  have hnb : (n : Int) ≤ 1048576 := by omega
  clear hn hl
  have Hs := Lib.hid hs
  clear hs
  go_enter Try.func168, Try.ntmps168
  go_wp2_with fail
  refine (Hc.out _).mono ?_
  rintro e w1 ⟨rfl, k1⟩
  go_wp2
  go_loopw [3, 11] (fun o i wr => ∃ k : Nat, i = .int .i64 (k : Int) ∧ k ≤ n ∧ o = .string (numB n ++ textsL (l.take k)) ∧ Below w.heap.size w wr) (fun _ i _ => n - (intOf i).toNat)
  case atStart => exact ⟨0, rfl, Nat.zero_le _, by rw [List.take_zero]; exact congrArg Value.string ByteArray.append_empty.symm, k1⟩
  case round =>
    obtain ⟨k, rfl, hk, rfl, hb⟩ := hrel
    by_cases hlt : k < n
    · have hlt2 : (k : Int) < (n : Int) := by omega
      have hkl : k < l.length := by have := Hn.out; omega
      obtain ⟨g, o, rfl, hg, hc⟩ := R.out (by have := Hn.out; omega)
      have d0 : wr.cell? ⟨g, o + k, none⟩ = some (.string l[k]) := (hb.cell (p := ⟨g, o + k, none⟩) hg).trans (hc k hkl)
      clear hc
      have Ht := Lib.hid (textBytes_any l[k] (by have := sumSize_get l k hkl; have := Hs.out; omega))
      have Hsn : Hid (numB n ++ textsL (l.take (k + 1)) = (numB n ++ textsL (l.take k)) ++ textB l[k]) := Lib.hid (by rw [List.take_succ_eq_append_getElem hkl, textsL_snoc, ByteArray.append_assoc])
      have hadd := fun W => run_string_add_sum (P := Try.prog) (w := W) (numB n ++ textsL (l.take k)) (textB l[k]) (by
        have h1 := textB_size l[k]
        have h2 := textsL_size (l.take k)
        have h3 := numB_size n
        have h4 := sumSize_get l k hkl
        have h5 := sumSize_le l k
        have h6 : (l.take k).length ≤ n := by rw [List.length_take]; have := Hn.out; omega
        have := Hs.out
        rw [ByteArray.size_append]
        omega)
      obtain ⟨s, es⟩ : ∃ s, l[k] = s := ⟨_, rfl⟩
      rw [es] at d0 Ht Hsn hadd
      clear es hkl
      generalize numB n ++ textsL (l.take k) = B0 at *
      go_wp2_with (go_at_call 169; refine (Ht.out _).mono ?_; rintro e w2 ⟨rfl, k2⟩)
      go_roundw
      case rel => exact ⟨k + 1, by go_num, by omega, by rw [Hsn.out], below_after k2 hb⟩
      case measure => simp [intOf]; omega
    · have hlt2 : (n : Int) ≤ (k : Int) := by omega
      obtain rfl : k = n := by omega
      go_wp2
      go_ret
      exact ⟨ret_str (by unfold textsB; rw [Hn.out, List.take_of_length_le (by have := Hn.out; omega)]), hb⟩

set_option maxRecDepth 100000 in
/-- spec.l1TextsB -/
theorem l1TextsB_any (v : Value) (l : List ByteArray) (hl : l.length ≤ 1048576) (hs : sumSize l ≤ 1048576) (w : World) (h : StrRow w v l) :
    Calls Try.prog 165 #[v] w fun e w' => e = .returned (.string (textsB l)) ∧ Below w.heap.size w w' := by
  obtain ⟨p, c, rfl, r⟩ := h
  have R := Lib.hid r
  have Hc := Lib.hid (l1NumB_b l.length (by omega))
  clear r
  obtain ⟨n, hn⟩ : ∃ n : Nat, l.length = n := ⟨_, rfl⟩
  have Hn := Lib.hid hn
  rw [hn] at Hc ⊢
  have hnb : (n : Int) ≤ 1048576 := by omega
  clear hn hl
  have Hs := Lib.hid hs
  clear hs
  go_enter Try.func165, Try.ntmps165
  go_wp2_with fail
  refine (Hc.out _).mono ?_
  rintro e w1 ⟨rfl, k1⟩
  go_wp2
  go_loopw [3, 11] (fun o i wr => ∃ k : Nat, i = .int .i64 (k : Int) ∧ k ≤ n ∧ o = .string (numB n ++ textsL (l.take k)) ∧ Below w.heap.size w wr) (fun _ i _ => n - (intOf i).toNat)
  case atStart => exact ⟨0, rfl, Nat.zero_le _, by rw [List.take_zero]; exact congrArg Value.string ByteArray.append_empty.symm, k1⟩
  case round =>
    obtain ⟨k, rfl, hk, rfl, hb⟩ := hrel
    by_cases hlt : k < n
    · have hlt2 : (k : Int) < (n : Int) := by omega
      have hkl : k < l.length := by have := Hn.out; omega
      obtain ⟨g, o, rfl, hg, hc⟩ := R.out (by have := Hn.out; omega)
      have d0 : wr.cell? ⟨g, o + k, none⟩ = some (.string l[k]) := (hb.cell (p := ⟨g, o + k, none⟩) hg).trans (hc k hkl)
      clear hc
      have Ht := Lib.hid (l1TextB_any l[k] (by have := sumSize_get l k hkl; have := Hs.out; omega))
      have Hsn : Hid (numB n ++ textsL (l.take (k + 1)) = (numB n ++ textsL (l.take k)) ++ textB l[k]) := Lib.hid (by rw [List.take_succ_eq_append_getElem hkl, textsL_snoc, ByteArray.append_assoc])
      have hadd := fun W => run_string_add_sum (P := Try.prog) (w := W) (numB n ++ textsL (l.take k)) (textB l[k]) (by
        have h1 := textB_size l[k]
        have h2 := textsL_size (l.take k)
        have h3 := numB_size n
        have h4 := sumSize_get l k hkl
        have h5 := sumSize_le l k
        have h6 : (l.take k).length ≤ n := by rw [List.length_take]; have := Hn.out; omega
        have := Hs.out
        rw [ByteArray.size_append]
        omega)
      obtain ⟨s, es⟩ : ∃ s, l[k] = s := ⟨_, rfl⟩
      rw [es] at d0 Ht Hsn hadd
      clear es hkl
      generalize numB n ++ textsL (l.take k) = B0 at *
      go_wp2_with (go_at_call 166; refine (Ht.out _).mono ?_; rintro e w2 ⟨rfl, k2⟩)
      go_roundw
      case rel => exact ⟨k + 1, by go_num, by omega, by rw [Hsn.out], below_after k2 hb⟩
      case measure => simp [intOf]; omega
    · have hlt2 : (n : Int) ≤ (k : Int) := by omega
      obtain rfl : k = n := by omega
      go_wp2
      go_ret
      exact ⟨ret_str (by unfold textsB; rw [Hn.out, List.take_of_length_le (by have := Hn.out; omega)]), hb⟩

end Go.Proofs.Ytekgackednpdgaa
