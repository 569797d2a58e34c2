/- spec.l3Trim. -/
import Derived.Test.YtibgpjkpfakgiaaPlainTrim
import Derived.Test.YtibgpjkpfakgiaaRow3
namespace Go.Proofs.Ytibgpjkpfakgiaa
open Go.RowKit

theorem Try_infoT_ver : (Try.prog.info? 125).map (fun i => (i.zero, i.size, i.bytes)) = some (some (.agg #[.int .i64 0, .string ⟨#[]⟩, .bool false]), 3, 32) := by kernel_rfl
theorem Try_infoT_cell : (Try.prog.info? 85).map (fun i => (i.zero, i.size, i.bytes)) = some (some (.agg #[.string ⟨#[]⟩, .slice none 0 0]), 2, 40) := by kernel_rfl

/-- A value that is a row being built, as long as what it holds. -/
def Grow {α : Type} (c : Cod α) (w : World) (base : Nat) (e : TypeId) (v : Value) (xs : List α) : Prop := Part c w base e v xs.length xs
theorem Grow.below {α : Type} {c : Cod α} {w w' : World} {base : Nat} {e : TypeId} {v : Value} {xs : List α} (h : Grow c w base e v xs) (k : Below w.heap.size w w') : Grow c w' base e v xs := Part.below h k
theorem Grow.form {α : Type} {c : Cod α} {w : World} {base : Nat} {e : TypeId} {v : Value} {xs : List α} (h : Grow c w base e v xs) : ∃ p cap, v = .slice p xs.length cap := by
  obtain ⟨cells, h⟩ := h
  exact h.form
theorem grow_nil {α : Type} (c : Cod α) (w : World) (base : Nat) (e : TypeId) : Grow c w base e (.slice none 0 0) [] := ⟨[], part_start (World.ownsRow_nil w base e c.size)⟩
theorem Grow.own {α : Type} {c : Cod α} {w : World} {base : Nat} {e : TypeId} {v : Value} {xs : List α} (h : Grow c w base e v xs) : Own c w base v xs := Part.own h rfl

end Go.Proofs.Ytibgpjkpfakgiaa
