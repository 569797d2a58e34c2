/- ReadText, both. -/
import Derived.Test.YtekgackednpdgaaReadNum
namespace Go.Proofs.Ytekgackednpdgaa
open Go.RowKit

/-- What a reading of a text from the place st comes to. -/
def TextPost (B : ByteArray) (st g : Nat) (w : World) (e : Ending) (w' : World) : Prop :=
  (∃ n : Nat, IsNum (B.data.toList.drop st) n ∧ n ≤ 60 ∧ st + (numL n).length + n ≤ B.size ∧ e = .returned (.string (B.extract (st + (numL n).length) (st + (numL n).length + n))) ∧ SrcAt w' g B (st + (numL n).length + n) false ∧ w.grownBy w' (some g)) ∨
  ((∀ n, IsNum (B.data.toList.drop st) n → 60 < n ∨ B.size < st + (numL n).length + n) ∧ e = .returned (.string ⟨#[]⟩) ∧ (∃ a, a ≤ B.size ∧ SrcAt w' g B a true) ∧ w.grownBy w' (some g))

theorem wrap_in {x : Int} (h0 : -9223372036854775808 ≤ x) (h1 : x ≤ 9223372036854775807) : IntKind.i64.wrap x = x := by
  simp [IntKind.wrap, IntKind.signed, IntKind.bits]
  omega

theorem num_room {B : ByteArray} {st n : Nat} (hst : st ≤ B.size) (h : IsNum (B.data.toList.drop st) n) : st + (numL n).length ≤ B.size := by
  have h2 := List.IsPrefix.length_le h.2
  have hl : (B.data.toList.drop st).length = B.size - st := by rw [List.length_drop, Array.length_toList]; rfl
  omega

/-- The text with which bytes go on at a place, and the place behind it. -/
noncomputable def textOf (B : ByteArray) (st : Nat) : Option (ByteArray × Nat) :=
  match numOf (B.data.toList.drop st) with
  | some n => bif decide (n ≤ 60) && decide (st + (numL n).length + n ≤ B.size) then some (B.extract (st + (numL n).length) (st + (numL n).length + n), st + (numL n).length + n) else none
  | none => none
theorem textOf_some {B : ByteArray} {st n : Nat} (h : IsNum (B.data.toList.drop st) n) (h1 : n ≤ 60) (h2 : st + (numL n).length + n ≤ B.size) :
    textOf B st = some (B.extract (st + (numL n).length) (st + (numL n).length + n), st + (numL n).length + n) := by
  unfold textOf
  rw [numOf_some h]
  simp [h1, h2]
theorem textOf_none {B : ByteArray} {st : Nat} (h : ∀ n, IsNum (B.data.toList.drop st) n → 60 < n ∨ B.size < st + (numL n).length + n) : textOf B st = none := by
  unfold textOf
  by_cases hx : ∃ n, IsNum (B.data.toList.drop st) n
  · obtain ⟨n, hn⟩ := hx
    rw [numOf_some hn]
    rcases h n hn with h1 | h1
    · simp only [show decide (n ≤ 60) = false from by simp; omega, Bool.false_and, cond_false]
    · simp only [show decide (st + (numL n).length + n ≤ B.size) = false from by simp; omega, Bool.and_false, cond_false]
  · rw [numOf_none (fun n hn => hx ⟨n, hn⟩)]

/-- What ReadText returns. -/
noncomputable def readTextR (B : ByteArray) (at_ : Int) : ByteArray × Int × Bool :=
  match placeB B at_ 6000, textOf B at_.toNat with
  | true, some (s, p) => (s, (p : Int), true)
  | _, _ => (⟨#[]⟩, 0, false)

end Go.Proofs.Ytekgackednpdgaa
