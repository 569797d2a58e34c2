/- A box: a block of cells, kept as one fact. Plain lemmas; no program. -/
import Derived.Test.YtpiheobpobclgaaGreatDoorKit
namespace Go.Proofs.YtpiheobpobclgaaGreatDoor
open Go.RowKit

/-- Block B holds the cells cs. -/
def Blk (w : World) (B : Nat) (e : TypeId) (cs : Array Value) : Prop := w.heap[B]? = some (.cells cs e (0, 0))

variable {w w' : World} {B : Nat} {e : TypeId} {cs : Array Value}

theorem Blk.cell (h : Blk w B e cs) (i : Nat) {v : Value} (hv : cs[i]? = some v) : w.cell? ⟨B, i, none⟩ = some v := by
  unfold Blk at h
  simp [World.cell?, h, hv]
theorem Blk.frozen (h : Blk w B e cs) (i : Nat) : w.frozen? ⟨B, i, none⟩ = false := by
  unfold Blk at h
  simp [World.frozen?, h]
theorem Blk.lt (h : Blk w B e cs) : B < w.heap.size := (Array.getElem?_eq_some_iff.1 h).1
theorem Blk.new (w : World) (e : TypeId) (cs : Array Value) : Blk (w.alloc (.cells cs e)) w.heap.size e cs := by
  show (w.heap.push _)[w.heap.size]? = _
  simp
theorem Blk.of (h : Blk w B e cs) (k : w'.heap[B]? = w.heap[B]?) : Blk w' B e cs := k.trans h
theorem Blk.below (h : Blk w B e cs) (k : Below w.heap.size w w') : Blk w' B e cs := h.of (k.block _ h.lt)
theorem Blk.belowB {N : Nat} (h : Blk w B e cs) (k : Below N w w') (hB : B < N) : Blk w' B e cs := h.of (k.block _ hB)
theorem Blk.grown {g : Nat} (h : Blk w B e cs) (k : w.grownBy w' (some g)) (hB : B ≠ g) : Blk w' B e cs := h.of (k.block _ h.lt (fun e => hB (Option.some.inj e)))
theorem Blk.drew (h : Blk w B e cs) : Blk w.drew B e cs := h
theorem Blk.drewN (h : Blk w B e cs) (n : Nat) : Blk (w.drewN n) B e cs := h
theorem Blk.alloc (h : Blk w B e cs) (o : Obj) : Blk (w.alloc o) B e cs := h.of (Below.heap_alloc _ _ _ h.lt)
theorem Blk.set (h : Blk w B e cs) (i : Nat) (u : Value) : Blk (w.setCell ⟨B, i, none⟩ u) B e (cs.setIfInBounds i u) := by
  unfold Blk at h ⊢
  have hl := (Array.getElem?_eq_some_iff.1 h).1
  show (w.heap.modify B _)[B]? = _
  rw [Array.getElem?_modify]
  simp [h]
theorem Blk.other (h : Blk w B e cs) {b : Nat} (i : Nat) (u : Value) (hb : B ≠ b) : Blk (w.setCell ⟨b, i, none⟩ u) B e cs := h.of (Below.heap_setCell w ⟨b, i, none⟩ u B hb)

end Go.Proofs.YtpiheobpobclgaaGreatDoor
