/- Cells and rows over a call that turns only what is new. Plain lemmas; no program. -/
import Derived.Test.YtogdbjalgledpaaRow3
namespace Go.Proofs.Ytogdbjalgledpaa
open Go.RowKit

theorem cell_from {W w' : World} {B b i : Nat} {u : Value} (hb : Below B W w') (h : b < B) (hc : W.cell? ⟨b, i, none⟩ = some u) : w'.cell? ⟨b, i, none⟩ = some u := (hb.cell (p := ⟨b, i, none⟩) h).trans hc
theorem free_from {W w' : World} {B b i : Nat} (hb : Below B W w') (h : b < B) (hc : W.frozen? ⟨b, i, none⟩ = false) : w'.frozen? ⟨b, i, none⟩ = false := (hb.frozen (p := ⟨b, i, none⟩) h).trans hc

theorem made0 {w0 : World} {e : TypeId} {size H base : Nat} (hH : w0.heap.size = H) (hb : base ≤ H) : (w0.alloc (.cells #[] e)).ownsRow base e size (.slice (some ⟨H, 0, none⟩) 0 0) 0 [] := by
  subst hH
  exact World.ownsRow_made _ _ _ hb (Nat.zero_le _) (by simp)

theorem keep_cut {B : Nat} {w2 V w3 : World} (k : Keep B w2 V) (h : Below w2.heap.size V w3) : Keep B w2 w3 :=
  ⟨Nat.le_trans k.size h.size, fun b h1 h2 => (h.block b h2).trans (k.block b h1 h2)⟩

end Go.Proofs.Ytogdbjalgledpaa
