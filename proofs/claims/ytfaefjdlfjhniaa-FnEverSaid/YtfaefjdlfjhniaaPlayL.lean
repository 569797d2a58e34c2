/- One act on a group: what it comes to. -/
import Derived.Test.YtfaefjdlfjhniaaRunb
import Derived.Test.YtfaefjdlfjhniaaGcopy
namespace Go.Proofs.Ytfaefjdlfjhniaa
open Go.RowKit

/-- Whether an act is done. -/
noncomputable def actQ (l : List ReplicaD) (t d : Int) (k : Nat) (r : Int) (y : RecD) : Bool := match k with
  | 1 => goodGB l t d && upIs l r true
  | 2 => goodGB l t d && upIs l r false
  | 3 => electB l t d r
  | 4 => goodGB l t d && putOk l d && goodRB y
  | 5 => copyB l t d r
  | 6 => advB l t d
  | _ => false
/-- The group behind it. -/
noncomputable def actG (l : List ReplicaD) (t d : Int) (k : Nat) (r : Int) (y : RecD) : GroupD := match k with
  | 1 => ⟨crashL l r, t, crashD d r⟩
  | 2 => ⟨startL l r, t, d⟩
  | 3 => ⟨l, t + 1, r⟩
  | 4 => ⟨putL l t d y, t, d⟩
  | 5 => ⟨copyL l d r, t, d⟩
  | _ => ⟨advL l t d, t, d⟩
/-- The group behind a play of one act. -/
noncomputable def playG (g : GroupD) (k : Nat) (r : Int) (y : RecD) : GroupD := bif actQ g.Reps g.Term g.Lead k r y then actG g.Reps g.Term g.Lead k r y else g

/-- An act's value. -/
def actV (k : Nat) (r : Int) (y : RecD) : Value := .agg #[.int .i64 (k : Int), .int .i64 r, .int .i64 y.Kind, .int .i64 y.Txn, .int .i64 y.Time, .int .i64 y.Lead, .slice none 0 0, .slice none 0 0, .bool y.Yes]

theorem Run.up {l : List ReplicaD} {t d r : Int} {C : List EntryD} (h : Run ⟨l, t, d⟩ C) (hb : upIs l r false = true) : Run ⟨startL l r, t, d⟩ C := by
  obtain ⟨m, rfl, hm, -⟩ := upIs_true hb
  rw [startL_nat hm]
  exact ⟨h.inv.turn (List.getElem?_eq_getElem hm) true _ (Or.inr ⟨rfl, fun _ => rfl⟩), light_set h.light (h.light l[m] (List.getElem_mem hm))⟩

theorem Run.act {l : List ReplicaD} {t d : Int} {C : List EntryD} {k : Nat} {r : Int} {y : RecD} (h : Run ⟨l, t, d⟩ C) (hy : y.Reads = [] ∧ y.Writes = []) (hq : actQ l t d k r y = true) :
    ∃ C', C <+: C' ∧ Run (actG l t d k r y) C' := by
  unfold actQ at hq
  split at hq
  · rw [Bool.and_eq_true] at hq
    exact ⟨C, List.prefix_refl _, h.crash hq.2⟩
  · rw [Bool.and_eq_true] at hq
    exact ⟨C, List.prefix_refl _, h.up hq.2⟩
  · exact ⟨C, List.prefix_refl _, h.elect hq⟩
  · rw [Bool.and_eq_true, Bool.and_eq_true] at hq
    exact ⟨C, List.prefix_refl _, h.put hq.1.2 hq.2 hy⟩
  · exact ⟨C, List.prefix_refl _, h.copy hq⟩
  · unfold advB at hq
    simp only [Bool.and_eq_true, Bool.not_eq_true', decide_eq_false_iff_not] at hq
    exact h.adv hq.2
  · cases hq
theorem Run.play {g : GroupD} {C : List EntryD} {k : Nat} {r : Int} {y : RecD} (h : Run g C) (hy : y.Reads = [] ∧ y.Writes = []) :
    ∃ C', C <+: C' ∧ Run (playG g k r y) C' := by
  unfold playG
  cases hq : actQ g.Reps g.Term g.Lead k r y
  · exact ⟨C, List.prefix_refl _, h⟩
  · exact Run.act (l := g.Reps) (t := g.Term) (d := g.Lead) h hy hq

/-- An act lies in nine cells. -/
def ActAt (w : World) (B : Nat) (k : Nat) (r : Int) (y : RecD) : Prop :=
  w.cell? ⟨B, 0, none⟩ = some (.int .i64 (k : Int)) ∧ w.cell? ⟨B, 1, none⟩ = some (.int .i64 r) ∧ w.cell? ⟨B, 2, none⟩ = some (.int .i64 y.Kind) ∧ w.cell? ⟨B, 3, none⟩ = some (.int .i64 y.Txn) ∧ w.cell? ⟨B, 4, none⟩ = some (.int .i64 y.Time) ∧ w.cell? ⟨B, 5, none⟩ = some (.int .i64 y.Lead) ∧ w.cell? ⟨B, 6, none⟩ = some (.slice none 0 0) ∧ w.cell? ⟨B, 7, none⟩ = some (.slice none 0 0) ∧ w.cell? ⟨B, 8, none⟩ = some (.bool y.Yes)

/-- A group that was returned, or none. -/
def RetQ (w : World) (q : Bool) (g : GroupD) (e : Ending) (w' : World) : Prop :=
  ∃ p c, e = .returned (.tuple #[.agg #[.slice p (pickG q g).Reps.length c, .int .i64 (pickG q g).Term, .int .i64 (pickG q g).Lead], .bool q]) ∧ Own Cod.replica w' w.heap.size (.slice p (pickG q g).Reps.length c) (pickG q g).Reps ∧ Below w.heap.size w w'
theorem retQ {P : Program} {f : Nat} {A : Array Value} {w : World} {q : Bool} {g : GroupD} (h : Calls P f A w fun e w' => ∃ v', e = .returned (.tuple #[.agg #[v', .int .i64 (pickG q g).Term, .int .i64 (pickG q g).Lead], .bool q]) ∧ Own Cod.replica w' w.heap.size v' (pickG q g).Reps ∧ Below w.heap.size w w') : Calls P f A w (RetQ w q g) := by
  refine h.mono ?_
  rintro e w' ⟨v', rfl, ho, hb⟩
  obtain ⟨p, c, rfl⟩ := ho.form
  exact ⟨p, c, rfl, ho, hb⟩

end Go.Proofs.Ytfaefjdlfjhniaa
