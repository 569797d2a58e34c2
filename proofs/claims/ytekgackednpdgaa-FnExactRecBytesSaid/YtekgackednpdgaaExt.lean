/- A region that draws its order, whose operations read old memory and whose calls make new memory alone and hand back plain values: one walk of the lexical order serves every order. -/
import Derived.Test.YtekgackednpdgaaBase
import Derived.WalkSpells
import Derived.WalkLawsBesides
import Derived.BigQuiet
import Derived.Deep.QuietTactic
import Derived.Outline
import Derived.Deep.RegionHeld3
import Derived.Lib.Hide
namespace Go.Proofs.Ytekgackednpdgaa
open Go.RowKit

/-- u, if below B it is as w; else w. -/
noncomputable def ext (B : Nat) (w u : World) : World := by
  classical
  exact if Below B w u then u else w

theorem ext_below (B : Nat) (w u : World) : Below B w (ext B w u) := by
  unfold ext
  split
  · assumption
  · exact Below.refl _ _

theorem ext_of_below {B : Nat} {w w' : World} (h : Below B w w') : ∃ u, w' = ext B w u := ⟨w', by unfold ext; rw [if_pos h]⟩

theorem ext_cell {B : Nat} (w u : World) (b o : Nat) (h : b < B) : (ext B w u).cell? ⟨b, o, none⟩ = w.cell? ⟨b, o, none⟩ := (ext_below B w u).cell (p := ⟨b, o, none⟩) h
theorem ext_frozen {B : Nat} (w u : World) (b o : Nat) (h : b < B) : (ext B w u).frozen? ⟨b, o, none⟩ = w.frozen? ⟨b, o, none⟩ := (ext_below B w u).frozen (p := ⟨b, o, none⟩) h
theorem ext_size (B : Nat) (w u : World) : w.heap.size ≤ (ext B w u).heap.size := (ext_below B w u).size

theorem calls_ext {P : Program} {f : FuncId} {args : Array Value} {w n : World} {B : Nat} {v : Value} (hB : B ≤ w.heap.size)
    (h : Calls P f args (ext B w n) fun e w' => e = .returned v ∧ Below (ext B w n).heap.size (ext B w n) w') :
    Calls P f args (ext B w n) fun e w'' => e = .returned v ∧ ∃ m, w'' = ext B w m :=
  h.mono fun _ _ ⟨he, hb⟩ => ⟨he, ext_of_below ((ext_below B w n).trans (hb.mono (Nat.le_trans hB (ext_size B w n))))⟩

theorem calls_ext_same {P : Program} {f : FuncId} {args : Array Value} {w n : World} {B : Nat} {v : Value}
    (h : Calls P f args (ext B w n) fun e w' => e = .returned v ∧ ext B w n = w') :
    Calls P f args (ext B w n) fun e w'' => e = .returned v ∧ ∃ m, w'' = ext B w m :=
  h.mono fun _ _ ⟨he, hb⟩ => ⟨he, n, hb.symm⟩

theorem wp_region_ext {P : Program} {id : Nat} {Q : Exit → Act → World → Prop} {a : Act} {w : World} {l : List Oper} (hm : P.follows .mixedOrders = true) (hB : Region.lexB .any l.toArray = true) (B : Nat)
    (h : wpQuiet P l.toArray (fun w' => ∃ u, w' = ext B w u) (fun a' => ∀ w', Below B w w' → Q .normal a' w') l a) : (Code.region id l.toArray true).wp P Q a w :=
  wp_region_quiet (C := fun w' => ∃ u, w' = ext B w u) hm hB (ext_of_below (Below.refl B w).drew) (by
    refine cast ?_ h
    congr 1
    funext a'
    refine propext ⟨fun k w' hw => ?_, fun k w' hw => k w' (ext_of_below hw)⟩
    obtain ⟨u, rfl⟩ := hw
    exact k _ (ext_below _ _ _))

theorem bcell {B : Nat} {W w1 : World} (hb : Below B W w1) : (∀ b o, b < B → w1.cell? ⟨b, o, none⟩ = W.cell? ⟨b, o, none⟩) ∧ (∀ b o, b < B → w1.frozen? ⟨b, o, none⟩ = W.frozen? ⟨b, o, none⟩) :=
  ⟨fun b o h => hb.cell (p := ⟨b, o, none⟩) h, fun b o h => hb.frozen (p := ⟨b, o, none⟩) h⟩

theorem cell_step {W w' : World} {b o : Nat} {v : Value} (k : Below W.heap.size W w') (h : W.cell? ⟨b, o, none⟩ = some v) : w'.cell? ⟨b, o, none⟩ = some v :=
  (k.cell (p := ⟨b, o, none⟩) (World.block_lt_of_cell? _ _ h)).trans h
theorem frozen_step {W w' : World} {b o : Nat} {v : Value} (k : Below W.heap.size W w') (h : W.cell? ⟨b, o, none⟩ = some v) (hf : W.frozen? ⟨b, o, none⟩ = false) : w'.frozen? ⟨b, o, none⟩ = false :=
  (k.frozen (p := ⟨b, o, none⟩) (World.block_lt_of_cell? _ _ h)).trans hf

theorem World.cell?_setCell_none {W : World} {a : Addr} {u : Value} (h : W.cell? a = none) : (W.setCell a u).cell? a = none := by
  unfold World.cell? at h ⊢
  simp only [World.setCell, Array.getElem?_modify]
  split at h
  · rename_i c e f hb
    simp only [hb, if_true, Option.map_some]
    by_cases hs : a.spot.isSome
    · simp [hs]
    · simp only [hs, if_false] at h ⊢
      simp at h ⊢
      omega
  · rename_i hb
    simp only [if_true]
    cases hw : W.heap[a.block]? with
    | none => rfl
    | some o =>
      cases o <;> simp_all
/-- What a cell holds, whatever it is. -/
def valAt (w : World) (b o : Nat) : Value := (w.cell? ⟨b, o, none⟩).getD undef
/-- The cell is there. -/
theorem has_of {w : World} {b o : Nat} {v : Value} (h : w.cell? ⟨b, o, none⟩ = some v) : w.cell? ⟨b, o, none⟩ = some (valAt w b o) := by rw [valAt, h]; rfl
theorem has_step {W w' : World} {b o : Nat} (k : Below W.heap.size W w') (h : W.cell? ⟨b, o, none⟩ = some (valAt W b o)) : w'.cell? ⟨b, o, none⟩ = some (valAt w' b o) := has_of (cell_step k h)
theorem has_set {W : World} {b o : Nat} {p : Addr} {u : Value} (h : W.cell? ⟨b, o, none⟩ = some (valAt W b o)) : (W.setCell p u).cell? ⟨b, o, none⟩ = some (valAt (W.setCell p u) b o) := by
  by_cases e : p = ⟨b, o, none⟩
  · subst e
    exact has_of (World.cell?_setCell_same _ _ _ h)
  · exact has_of ((World.cell?_setCell_other _ _ _ _ e).trans h)
theorem set_cell_eq {W : World} {a : Addr} {u x : Value} (h : (W.setCell a u).cell? a = some x) : (W.setCell a u).cell? a = some u := by
  cases hc : W.cell? a with
  | some y => exact World.cell?_setCell_same _ _ _ hc
  | none =>
    rw [World.cell?_setCell_none hc] at h
    cases h
theorem set2_cells {W : World} {b : Nat} {u0 u1 x0 x1 : Value} (h0 : ((W.setCell ⟨b, 0, none⟩ u0).setCell ⟨b, 1, none⟩ u1).cell? ⟨b, 0, none⟩ = some x0) (h1 : ((W.setCell ⟨b, 0, none⟩ u0).setCell ⟨b, 1, none⟩ u1).cell? ⟨b, 1, none⟩ = some x1) :
    ((W.setCell ⟨b, 0, none⟩ u0).setCell ⟨b, 1, none⟩ u1).cell? ⟨b, 0, none⟩ = some u0 ∧ ((W.setCell ⟨b, 0, none⟩ u0).setCell ⟨b, 1, none⟩ u1).cell? ⟨b, 1, none⟩ = some u1 := by
  have e : (⟨b, 1, none⟩ : Addr) ≠ ⟨b, 0, none⟩ := by simp
  refine ⟨?_, set_cell_eq h1⟩
  rw [World.cell?_setCell_other _ _ _ _ e] at h0 ⊢
  exact set_cell_eq h0
theorem cell_far {W : World} {b o : Nat} {p : Addr} {u v : Value} (h : W.cell? ⟨b, o, none⟩ = some v) (hp : p.block ≠ b) : (W.setCell p u).cell? ⟨b, o, none⟩ = some v := by
  rw [World.cell?_setCell_other _ _ _ _ (fun e => hp (by rw [e]))]; exact h
theorem frozen_set {W : World} {b o : Nat} {p : Addr} {u : Value} (h : W.frozen? ⟨b, o, none⟩ = false) : (W.setCell p u).frozen? ⟨b, o, none⟩ = false := by
  rw [World.frozen?_setCell]; exact h

theorem below_drew_step {A w : World} (h : Below A.heap.size A w) : Below A.heap.size A w.drew := h.drew
theorem below_drewN {B : Nat} {a w : World} (h : Below B a w) (n : Nat) : Below B a (w.drewN n) := ⟨h.os, h.tape, h.output, h.size, h.block⟩
end Go.Proofs.Ytekgackednpdgaa
