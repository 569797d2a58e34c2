/- A region that draws its order, whose operations read old memory and whose calls make new memory alone and hand back plain values: one walk of the lexical order serves every order. -/
import Derived.Test.YtpnganfdccelmaaBase
import Derived.WalkSpells
import Derived.WalkLawsBesides
import Derived.BigQuiet
import Derived.Deep.QuietTactic
import Derived.Outline
import Derived.Lib.Hide
namespace Go.Proofs.Ytpnganfdccelmaa
open Go.RowKit

/-- u, if below B it is as w; else w. -/
noncomputable def ext (B : Nat) (w u : World) : World := by
  classical
  exact if Below B w u then u else w

theorem ext_below (B : Nat) (w u : World) : Below B w (ext B w u) := by
  unfold ext
  split
  · assumption
  · exact Below.refl _ _

theorem ext_of_below {B : Nat} {w w' : World} (h : Below B w w') : ∃ u, w' = ext B w u := ⟨w', by unfold ext; rw [if_pos h]⟩

theorem ext_cell {B : Nat} (w u : World) (b o : Nat) (h : b < B) : (ext B w u).cell? ⟨b, o, none⟩ = w.cell? ⟨b, o, none⟩ := (ext_below B w u).cell (p := ⟨b, o, none⟩) h
theorem ext_frozen {B : Nat} (w u : World) (b o : Nat) (h : b < B) : (ext B w u).frozen? ⟨b, o, none⟩ = w.frozen? ⟨b, o, none⟩ := (ext_below B w u).frozen (p := ⟨b, o, none⟩) h
theorem ext_size (B : Nat) (w u : World) : w.heap.size ≤ (ext B w u).heap.size := (ext_below B w u).size

theorem calls_ext {P : Program} {f : FuncId} {args : Array Value} {w n : World} {B : Nat} {v : Value} (hB : B ≤ w.heap.size)
    (h : Calls P f args (ext B w n) fun e w' => e = .returned v ∧ Below (ext B w n).heap.size (ext B w n) w') :
    Calls P f args (ext B w n) fun e w'' => e = .returned v ∧ ∃ m, w'' = ext B w m :=
  h.mono fun _ _ ⟨he, hb⟩ => ⟨he, ext_of_below ((ext_below B w n).trans (hb.mono (Nat.le_trans hB (ext_size B w n))))⟩

theorem calls_ext_same {P : Program} {f : FuncId} {args : Array Value} {w n : World} {B : Nat} {v : Value}
    (h : Calls P f args (ext B w n) fun e w' => e = .returned v ∧ ext B w n = w') :
    Calls P f args (ext B w n) fun e w'' => e = .returned v ∧ ∃ m, w'' = ext B w m :=
  h.mono fun _ _ ⟨he, hb⟩ => ⟨he, n, hb.symm⟩

theorem wp_region_ext {P : Program} {id : Nat} {Q : Exit → Act → World → Prop} {a : Act} {w : World} {l : List Oper} (hm : P.follows .mixedOrders = true) (hB : Region.lexB .any l.toArray = true) (B : Nat)
    (h : wpQuiet P l.toArray (fun w' => ∃ u, w' = ext B w u) (fun a' => ∀ w', Below B w w' → Q .normal a' w') l a) : (Code.region id l.toArray true).wp P Q a w :=
  wp_region_quiet (C := fun w' => ∃ u, w' = ext B w u) hm hB (ext_of_below (Below.refl B w).drew) (by
    refine cast ?_ h
    congr 1
    funext a'
    refine propext ⟨fun k w' hw => ?_, fun k w' hw => k w' (ext_of_below hw)⟩
    obtain ⟨u, rfl⟩ := hw
    exact k _ (ext_below _ _ _))

theorem bcell {B : Nat} {W w1 : World} (hb : Below B W w1) : (∀ b o, b < B → w1.cell? ⟨b, o, none⟩ = W.cell? ⟨b, o, none⟩) ∧ (∀ b o, b < B → w1.frozen? ⟨b, o, none⟩ = W.frozen? ⟨b, o, none⟩) :=
  ⟨fun b o h => hb.cell (p := ⟨b, o, none⟩) h, fun b o h => hb.frozen (p := ⟨b, o, none⟩) h⟩

theorem below_drewN {B : Nat} {a w : World} (h : Below B a w) (n : Nat) : Below B a (w.drewN n) := ⟨h.os, h.tape, h.output, h.size, h.block⟩
end Go.Proofs.Ytpnganfdccelmaa
