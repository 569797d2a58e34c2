/- Keys and values: the functions above. -/
import Derived.Test.YtpnganfdccelmaaKeys
namespace Go.Proofs.Ytpnganfdccelmaa
open Go.RowKit

def keyB (s : ByteArray) : Bool := inB s.size 1 12 && hasL s.data.toList [46, 47]
def valB (s : ByteArray) : Bool := decide (s.size ≤ 24) && hasL s.data.toList [46, 45, 44, 95]

/-- impl.GoodKey -/
theorem goodKey_any (s : ByteArray) (hs : s.size ≤ maxLen) (w : World) : Calls Try.prog 24 #[.string s] w fun e w' => e = .returned (.bool (keyB s)) ∧ w = w' := by
  have Hc := Lib.hid (within_any (s.size : Int) 1 12)
  have Hd := Lib.hid (hasBytes_any s ⟨#[46, 47]⟩ hs)
  unfold keyB
  unfold maxLen at hs
  generalize inB (s.size : Int) 1 12 = p at *
  have he : hasL s.data.toList (⟨#[46, 47]⟩ : ByteArray).data.toList = hasL s.data.toList [46, 47] := rfl
  rw [he] at Hd
  clear he
  generalize hasL s.data.toList [46, 47] = q at *
  cases p
  all_goals
    go_enter Try.func24, Try.ntmps24
    go_wp2_with (first | (go_at_call 48; refine (Hc.out _).mono ?_; rintro e w1 ⟨rfl, rfl⟩) | (go_at_call 53; refine (Hd.out _).mono ?_; rintro e w1 ⟨rfl, rfl⟩))
    go_ret
    exact ⟨rfl, rfl⟩

/-- impl.GoodVal -/
theorem goodVal_any (s : ByteArray) (hs : s.size ≤ maxLen) (w : World) : Calls Try.prog 22 #[.string s] w fun e w' => e = .returned (.bool (valB s)) ∧ w = w' := by
  have Hd := Lib.hid (hasBytes_any s ⟨#[46, 45, 44, 95]⟩ hs)
  unfold valB
  unfold maxLen at hs
  have he : hasL s.data.toList (⟨#[46, 45, 44, 95]⟩ : ByteArray).data.toList = hasL s.data.toList [46, 45, 44, 95] := rfl
  rw [he] at Hd
  clear he
  generalize hasL s.data.toList [46, 45, 44, 95] = q at *
  by_cases hq : s.size ≤ 24
  all_goals
    go_enter Try.func22, Try.ntmps22
    go_wp2_with (go_at_call 53; refine (Hd.out _).mono ?_; rintro e w1 ⟨rfl, rfl⟩)
    go_ret
    exact ⟨ret_bool (by simp [hq]), rfl⟩

/-- spec.l3Key -/
theorem l3Key_any (s : ByteArray) (hs : s.size ≤ maxLen) (w : World) : Calls Try.prog 54 #[.string s] w fun e w' => e = .returned (.bool (keyB s)) ∧ Below w.heap.size w w' := by
  have Hc := Lib.hid (l1In_any (s.size : Int) 1 12)
  have Hd := Lib.hid (l3Bytes_any s ⟨#[46, 47]⟩ hs (by unfold maxLen; decide))
  unfold keyB
  unfold maxLen at hs
  generalize inB (s.size : Int) 1 12 = p at *
  have he : hasL s.data.toList (⟨#[46, 47]⟩ : ByteArray).data.toList = hasL s.data.toList [46, 47] := rfl
  rw [he] at Hd
  clear he
  generalize hasL s.data.toList [46, 47] = q at *
  cases p
  · go_enter Try.func54, Try.ntmps54
    go_wp2_with (go_at_call 46; refine (Hc.out _).mono ?_; rintro e w1 ⟨rfl, rfl⟩)
    go_ret
    exact ⟨rfl, Below.refl _ _⟩
  · go_enter Try.func54, Try.ntmps54
    go_wp2_with (first | (go_at_call 46; refine (Hc.out _).mono ?_; rintro e w1 ⟨rfl, rfl⟩) | (go_at_call 66; refine (Hd.out _).mono ?_; rintro e w1 ⟨rfl, hb⟩))
    go_ret
    exact ⟨rfl, hb⟩

/-- spec.l3Val -/
theorem l3Val_any (s : ByteArray) (hs : s.size ≤ maxLen) (w : World) : Calls Try.prog 52 #[.string s] w fun e w' => e = .returned (.bool (valB s)) ∧ Below w.heap.size w w' := by
  have Hd := Lib.hid (l3Bytes_any s ⟨#[46, 45, 44, 95]⟩ hs (by unfold maxLen; decide))
  unfold valB
  unfold maxLen at hs
  have he : hasL s.data.toList (⟨#[46, 45, 44, 95]⟩ : ByteArray).data.toList = hasL s.data.toList [46, 45, 44, 95] := rfl
  rw [he] at Hd
  clear he
  generalize hasL s.data.toList [46, 45, 44, 95] = q at *
  by_cases hq : s.size ≤ 24
  · go_enter Try.func52, Try.ntmps52
    go_wp2_with (go_at_call 66; refine (Hd.out _).mono ?_; rintro e w1 ⟨rfl, hb⟩)
    go_ret
    exact ⟨ret_bool (by simp [hq]), hb⟩
  · go_enter Try.func52, Try.ntmps52
    go_wp2
    go_ret
    exact ⟨ret_bool (by simp [hq]), Below.refl _ _⟩

/-- spec.GoodKey -/
theorem goodKeyS_any (s : ByteArray) (hs : s.size ≤ maxLen) (w : World) : Calls Try.prog 23 #[.string s] w fun e w' => e = .returned (.bool (keyB s)) ∧ Below w.heap.size w w' := by
  have Hd := Lib.hid (l3Key_any s hs)
  go_enter Try.func23, Try.ntmps23
  go_wp2_with (go_at_call 54; refine (Hd.out _).mono ?_; rintro e w1 ⟨rfl, hb⟩)
  go_ret
  exact ⟨rfl, hb⟩

/-- spec.GoodVal -/
theorem goodValS_any (s : ByteArray) (hs : s.size ≤ maxLen) (w : World) : Calls Try.prog 21 #[.string s] w fun e w' => e = .returned (.bool (valB s)) ∧ Below w.heap.size w w' := by
  have Hd := Lib.hid (l3Val_any s hs)
  go_enter Try.func21, Try.ntmps21
  go_wp2_with (go_at_call 52; refine (Hd.out _).mono ?_; rintro e w1 ⟨rfl, hb⟩)
  go_ret
  exact ⟨rfl, hb⟩

end Go.Proofs.Ytpnganfdccelmaa
