/- GoodCells, both. -/
import Derived.Test.YtogdbjalgledpaaGCell
import Derived.Test.YtogdbjalgledpaaKit
namespace Go.Proofs.Ytogdbjalgledpaa
open Go.RowKit

/-- Cell k's versions are good. -/
def VersAt (l : List CellD) (k : Nat) : Prop := ∀ h : k < l.length, GoodV l[k].Vers
/-- Whether the cells are good. -/
def GoodC (l : List CellD) : Prop := l.length ≤ 24 ∧ (∀ k, k < l.length → VersAt l k) ∧ Rising (l.map fun x => x.Key)
noncomputable def goodCB (l : List CellD) : Bool := pB (GoodC l)
/-- Cell k is good and behind the one ahead of it. -/
def CellAtK (l : List CellD) (k : Nat) : Prop := ∀ h : k < l.length, (GoodV l[k].Vers ∧ keyB l[k].Key = true) ∧ ∀ m (hm : m + 1 = k), ltB (l[m]'(by omega)).Key l[k].Key = true
def KeyAt (l : List CellD) (k : Nat) : Prop := ∀ h : k < l.length, ∀ m (hm : m + 1 = k), ltB (l[m]'(by omega)).Key l[k].Key = true

theorem goodC_iff (l : List CellD) : GoodC l ↔ l.length ≤ 24 ∧ ∀ k, k < l.length → CellAtK l k := by
  constructor
  · rintro ⟨h0, h1, h2⟩
    refine ⟨h0, fun k hk _ => ?_⟩
    have h3 := h2 k (by simpa using hk) (by simpa using hk)
    refine ⟨⟨h1 k hk hk, by simpa using h3.1⟩, fun m hm => ?_⟩
    simpa using h3.2 m hm
  · rintro ⟨h0, h1⟩
    refine ⟨h0, fun k hk _ => (h1 k hk hk).1.1, fun k hk hk2 => ?_⟩
    have hkl : k < l.length := by simpa using hk
    have h3 := h1 k hkl hkl
    refine ⟨by simpa using h3.1.2, fun m hm => ?_⟩
    simpa using h3.2 m hm

theorem vers_le {l : List CellD} (hl : costCellS l ≤ 1048576) {k : Nat} (hk : k < l.length) : l[k].Vers.length ≤ 1048576 := by
  have h2 := sumC_get costCell l k hk
  unfold costCellS at hl
  have h3 : l[k].Vers.length ≤ costCell l[k] := by unfold costCell costVerS; omega
  omega

end Go.Proofs.Ytogdbjalgledpaa
