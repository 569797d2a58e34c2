/- spec.l3Trim. -/
import Derived.Test.YtogdbjalgledpaaPlainTrim
import Derived.Test.YtogdbjalgledpaaRow3
namespace Go.Proofs.Ytogdbjalgledpaa
open Go.RowKit

/-- A value that is a row being built, as long as what it holds. -/
def Grow {α : Type} (c : Cod α) (w : World) (base : Nat) (e : TypeId) (v : Value) (xs : List α) : Prop := Part c w base e v xs.length xs
theorem Grow.below {α : Type} {c : Cod α} {w w' : World} {base : Nat} {e : TypeId} {v : Value} {xs : List α} (h : Grow c w base e v xs) (k : Below w.heap.size w w') : Grow c w' base e v xs := Part.below h k
theorem Grow.form {α : Type} {c : Cod α} {w : World} {base : Nat} {e : TypeId} {v : Value} {xs : List α} (h : Grow c w base e v xs) : ∃ p cap, v = .slice p xs.length cap := by
  obtain ⟨cells, h⟩ := h
  exact h.form
theorem grow_nil {α : Type} (c : Cod α) (w : World) (base : Nat) (e : TypeId) : Grow c w base e (.slice none 0 0) [] := ⟨[], part_start (World.ownsRow_nil w base e c.size)⟩
theorem Grow.own {α : Type} {c : Cod α} {w : World} {base : Nat} {e : TypeId} {v : Value} {xs : List α} (h : Grow c w base e v xs) : Own c w base v xs := Part.own h rfl

end Go.Proofs.Ytogdbjalgledpaa
