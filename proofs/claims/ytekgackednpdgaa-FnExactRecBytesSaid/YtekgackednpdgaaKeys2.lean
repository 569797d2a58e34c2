/- Keys and values: the functions above. -/
import Derived.Test.YtekgackednpdgaaKeys
namespace Go.Proofs.Ytekgackednpdgaa
open Go.RowKit

def keyB (s : ByteArray) : Bool := inB s.size 1 12 && hasL s.data.toList [46, 47]
def valB (s : ByteArray) : Bool := decide (s.size ≤ 24) && hasL s.data.toList [46, 45, 44, 95]

/-- impl.GoodKey -/
theorem goodKey_any (s : ByteArray) (hs : s.size ≤ maxLen) (w : World) : Calls Try.prog 102 #[.string s] w fun e w' => e = .returned (.bool (keyB s)) ∧ w = w' := by
  have Hc := Lib.hid (within_any (s.size : Int) 1 12)
  have Hd := Lib.hid (hasBytes_any s ⟨#[46, 47]⟩ hs)
  unfold keyB
  unfold maxLen at hs
  generalize inB (s.size : Int) 1 12 = p at *
  have he : hasL s.data.toList (⟨#[46, 47]⟩ : ByteArray).data.toList = hasL s.data.toList [46, 47] := rfl
  rw [he] at Hd
  clear he
  generalize hasL s.data.toList [46, 47] = q at *
  cases p
  all_goals
    go_enter Try.func102, Try.ntmps102
    go_wp2_with (first | (go_at_call 88; refine (Hc.out _).mono ?_; rintro e w1 ⟨rfl, rfl⟩) | (go_at_call 155; refine (Hd.out _).mono ?_; rintro e w1 ⟨rfl, rfl⟩))
    go_ret
    exact ⟨rfl, rfl⟩

/-- impl.GoodVal -/
theorem goodVal_any (s : ByteArray) (hs : s.size ≤ maxLen) (w : World) : Calls Try.prog 175 #[.string s] w fun e w' => e = .returned (.bool (valB s)) ∧ w = w' := by
  have Hd := Lib.hid (hasBytes_any s ⟨#[46, 45, 44, 95]⟩ hs)
  unfold valB
  unfold maxLen at hs
  have he : hasL s.data.toList (⟨#[46, 45, 44, 95]⟩ : ByteArray).data.toList = hasL s.data.toList [46, 45, 44, 95] := rfl
  rw [he] at Hd
  clear he
  generalize hasL s.data.toList [46, 45, 44, 95] = q at *
  by_cases hq : s.size ≤ 24
  all_goals
    go_enter Try.func175, Try.ntmps175
    go_wp2_with (go_at_call 155; refine (Hd.out _).mono ?_; rintro e w1 ⟨rfl, rfl⟩)
    go_ret
    exact ⟨ret_bool (by simp [hq]), rfl⟩

/-- spec.l3Key -/
theorem l3Key_any (s : ByteArray) (hs : s.size ≤ maxLen) (w : World) : Calls Try.prog 100 #[.string s] w fun e w' => e = .returned (.bool (keyB s)) ∧ Below w.heap.size w w' := by
  have Hc := Lib.hid (l1In_any (s.size : Int) 1 12)
  have Hd := Lib.hid (l3Bytes_any s ⟨#[46, 47]⟩ hs (by unfold maxLen; decide))
  unfold keyB
  unfold maxLen at hs
  generalize inB (s.size : Int) 1 12 = p at *
  have he : hasL s.data.toList (⟨#[46, 47]⟩ : ByteArray).data.toList = hasL s.data.toList [46, 47] := rfl
  rw [he] at Hd
  clear he
  generalize hasL s.data.toList [46, 47] = q at *
  cases p
  · go_enter Try.func100, Try.ntmps100
    go_wp2_with (go_at_call 84; refine (Hc.out _).mono ?_; rintro e w1 ⟨rfl, rfl⟩)
    go_ret
    exact ⟨rfl, Below.refl _ _⟩
  · go_enter Try.func100, Try.ntmps100
    go_wp2_with (first | (go_at_call 84; refine (Hc.out _).mono ?_; rintro e w1 ⟨rfl, rfl⟩) | (go_at_call 153; refine (Hd.out _).mono ?_; rintro e w1 ⟨rfl, hb⟩))
    go_ret
    exact ⟨rfl, hb⟩

/-- spec.l3Val -/
theorem l3Val_any (s : ByteArray) (hs : s.size ≤ maxLen) (w : World) : Calls Try.prog 194 #[.string s] w fun e w' => e = .returned (.bool (valB s)) ∧ Below w.heap.size w w' := by
  have Hd := Lib.hid (l3Bytes_any s ⟨#[46, 45, 44, 95]⟩ hs (by unfold maxLen; decide))
  unfold valB
  unfold maxLen at hs
  have he : hasL s.data.toList (⟨#[46, 45, 44, 95]⟩ : ByteArray).data.toList = hasL s.data.toList [46, 45, 44, 95] := rfl
  rw [he] at Hd
  clear he
  generalize hasL s.data.toList [46, 45, 44, 95] = q at *
  by_cases hq : s.size ≤ 24
  · go_enter Try.func194, Try.ntmps194
    go_wp2_with (go_at_call 153; refine (Hd.out _).mono ?_; rintro e w1 ⟨rfl, hb⟩)
    go_ret
    exact ⟨ret_bool (by simp [hq]), hb⟩
  · go_enter Try.func194, Try.ntmps194
    go_wp2
    go_ret
    exact ⟨ret_bool (by simp [hq]), Below.refl _ _⟩

end Go.Proofs.Ytekgackednpdgaa
