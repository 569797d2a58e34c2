/- Voters as Lean data. Printed by mkpoll.py. -/
import Derived.Test.YtbkhooklieangaaRowd
import Derived.Test.YtbkhooklieangaaInts
namespace Go.Proofs.Ytbkhooklieangaa
open Go.RowKit

def costIntS (l : List Int) : Nat := l.length
/-- Voter -/
structure VoterD where
  Up : Bool
  Term : Int
  For : Int
  Yes : List Int
  Leads : Bool

def Cod.voter : Cod VoterD := Cod.via (Cod.pair (Cod.bool) (Cod.pair (Cod.int) (Cod.pair (Cod.int) (Cod.pair (Cod.slice Cod.int) (Cod.bool))))) (fun x => (x.Up, x.Term, x.For, x.Yes, x.Leads))

theorem rd_voter {w : World} {g : Nat → Option Value} {x : VoterD} {fp : List Nat} (h : Cod.voter.rd w g x fp) : g 0 = some (.bool x.Up) ∧ g 1 = some (.int .i64 x.Term) ∧ g 2 = some (.int .i64 x.For) ∧ (∃ u, g 3 = some u ∧ Rd (Cod.int) w u x.Yes) ∧ g 4 = some (.bool x.Leads) ∧ I64 x.Term ∧ I64 x.For := by
  obtain ⟨_, _, _, ⟨h0, s0, _⟩, ⟨_, _, _, ⟨h1, s1, _⟩, ⟨_, _, _, ⟨h2, s2, _⟩, ⟨_, _, _, ⟨u3, h3, r3⟩, ⟨h4, s4, _⟩⟩⟩⟩⟩ := h
  exact ⟨h0, h1, h2, ⟨u3, h3, _, r3⟩, h4, s1, s2⟩

theorem mk_voter {w : World} {g : Nat → Option Value} {x : VoterD} (h0 : g 0 = some (.bool x.Up)) (h1 : g 1 = some (.int .i64 x.Term)) (s1 : I64 x.Term) (h2 : g 2 = some (.int .i64 x.For)) (s2 : I64 x.For) {uYes : Value} {fYes : List Nat} (h3 : g 3 = some uYes) (r3 : Cod.rdS (Cod.int) w uYes x.Yes fYes) (h4 : g 4 = some (.bool x.Leads)) : Cod.voter.rd w g x (fYes ++ []) :=
  ⟨[], (fYes ++ []), rfl, ⟨h0, trivial, rfl⟩, ⟨[], (fYes ++ []), rfl, ⟨h1, s1, rfl⟩, ⟨[], (fYes ++ []), rfl, ⟨h2, s2, rfl⟩, ⟨fYes, [], rfl, ⟨uYes, h3, r3⟩, ⟨h4, trivial, rfl⟩⟩⟩⟩⟩

theorem at_voter {w : World} {g o : Nat} {x : VoterD} (h : At Cod.voter w g o x) : w.cell? ⟨g, o, none⟩ = some (.bool x.Up) ∧ w.cell? ⟨g, o + 1, none⟩ = some (.int .i64 x.Term) ∧ w.cell? ⟨g, o + 2, none⟩ = some (.int .i64 x.For) ∧ (∃ u, w.cell? ⟨g, o + 3, none⟩ = some u ∧ Rd (Cod.int) w u x.Yes) ∧ w.cell? ⟨g, o + 4, none⟩ = some (.bool x.Leads) ∧ I64 x.Term ∧ I64 x.For := by
  obtain ⟨f, h⟩ := h
  exact rd_voter h

def costVoter (x : VoterD) : Nat := costIntS x.Yes
def costVoterS (l : List VoterD) : Nat := l.length + sumC costVoter l


end Go.Proofs.Ytbkhooklieangaa
