/- Lists of strings and of writes compared. -/
import Derived.Test.YtibgpjkpfakgiaaEqStruct2
import Derived.Test.YtibgpjkpfakgiaaRStr
namespace Go.Proofs.Ytibgpjkpfakgiaa
open Go.RowKit

theorem at_str {w : World} {g o k : Nat} {x : ByteArray} (h : At Cod.str w g (o + k * Cod.str.size) x) : w.cell? ⟨g, o + k, none⟩ = some (.string x) := by
  obtain ⟨f, h, _⟩ := h
  have h2 : w.cell? ⟨g, o + k * 1 + 0, none⟩ = some (.string x) := h
  rwa [Nat.mul_one] at h2

end Go.Proofs.Ytibgpjkpfakgiaa
