/- More of the program's data types as Lean data: entries, replicas, groups. Printed by mkdata2.py. -/
import Derived.Test.YtogdbjalgledpaaData
namespace Go.Proofs.Ytogdbjalgledpaa
open Go.RowKit Go.ChangeShapes Go.WideShapes

/-- Entry -/
structure EntryD where
  Term : Int
  Rec : RecD

def Cod.entry : Cod EntryD := Cod.via (Cod.pair Cod.int Cod.recd) (fun x => (x.Term, x.Rec))

theorem rd_entry {w : World} {g : Nat → Option Value} {x : EntryD} {fp : List Nat} (h : Cod.entry.rd w g x fp) : g 0 = some (.int .i64 x.Term) ∧ g 1 = some (.int .i64 x.Rec.Kind) ∧ g 2 = some (.int .i64 x.Rec.Txn) ∧ g 3 = some (.int .i64 x.Rec.Time) ∧ g 4 = some (.int .i64 x.Rec.Lead) ∧ (∃ u, g 5 = some u ∧ Rd (Cod.str) w u x.Rec.Reads) ∧ (∃ u, g 6 = some u ∧ Rd (Cod.write) w u x.Rec.Writes) ∧ g 7 = some (.bool x.Rec.Yes) ∧ I64 x.Term ∧ I64 x.Rec.Kind ∧ I64 x.Rec.Txn ∧ I64 x.Rec.Time ∧ I64 x.Rec.Lead := by
  obtain ⟨_, _, _, ⟨h0, s0, _⟩, ⟨_, _, _, ⟨h1, s1, _⟩, ⟨_, _, _, ⟨h2, s2, _⟩, ⟨_, _, _, ⟨h3, s3, _⟩, ⟨_, _, _, ⟨h4, s4, _⟩, ⟨_, _, _, ⟨u5, h5, r5⟩, ⟨_, _, _, ⟨u6, h6, r6⟩, ⟨h7, s7, _⟩⟩⟩⟩⟩⟩⟩⟩ := h
  exact ⟨h0, h1, h2, h3, h4, ⟨u5, h5, _, r5⟩, ⟨u6, h6, _, r6⟩, h7, s0, s1, s2, s3, s4⟩

theorem mk_entry {w : World} {g : Nat → Option Value} {x : EntryD} (h0 : g 0 = some (.int .i64 x.Term)) (s0 : I64 x.Term) (h1 : g 1 = some (.int .i64 x.Rec.Kind)) (s1 : I64 x.Rec.Kind) (h2 : g 2 = some (.int .i64 x.Rec.Txn)) (s2 : I64 x.Rec.Txn) (h3 : g 3 = some (.int .i64 x.Rec.Time)) (s3 : I64 x.Rec.Time) (h4 : g 4 = some (.int .i64 x.Rec.Lead)) (s4 : I64 x.Rec.Lead) {uRecReads : Value} {fRecReads : List Nat} (h5 : g 5 = some uRecReads) (r5 : Cod.rdS (Cod.str) w uRecReads x.Rec.Reads fRecReads) {uRecWrites : Value} {fRecWrites : List Nat} (h6 : g 6 = some uRecWrites) (r6 : Cod.rdS (Cod.write) w uRecWrites x.Rec.Writes fRecWrites) (h7 : g 7 = some (.bool x.Rec.Yes)) : Cod.entry.rd w g x (fRecReads ++ (fRecWrites ++ [])) :=
  ⟨[], (fRecReads ++ (fRecWrites ++ [])), rfl, ⟨h0, s0, rfl⟩, ⟨[], (fRecReads ++ (fRecWrites ++ [])), rfl, ⟨h1, s1, rfl⟩, ⟨[], (fRecReads ++ (fRecWrites ++ [])), rfl, ⟨h2, s2, rfl⟩, ⟨[], (fRecReads ++ (fRecWrites ++ [])), rfl, ⟨h3, s3, rfl⟩, ⟨[], (fRecReads ++ (fRecWrites ++ [])), rfl, ⟨h4, s4, rfl⟩, ⟨fRecReads, (fRecWrites ++ []), rfl, ⟨uRecReads, h5, r5⟩, ⟨fRecWrites, [], rfl, ⟨uRecWrites, h6, r6⟩, ⟨h7, trivial, rfl⟩⟩⟩⟩⟩⟩⟩⟩

theorem at_entry {w : World} {g o : Nat} {x : EntryD} (h : At Cod.entry w g o x) : w.cell? ⟨g, o, none⟩ = some (.int .i64 x.Term) ∧ w.cell? ⟨g, o + 1, none⟩ = some (.int .i64 x.Rec.Kind) ∧ w.cell? ⟨g, o + 2, none⟩ = some (.int .i64 x.Rec.Txn) ∧ w.cell? ⟨g, o + 3, none⟩ = some (.int .i64 x.Rec.Time) ∧ w.cell? ⟨g, o + 4, none⟩ = some (.int .i64 x.Rec.Lead) ∧ (∃ u, w.cell? ⟨g, o + 5, none⟩ = some u ∧ Rd (Cod.str) w u x.Rec.Reads) ∧ (∃ u, w.cell? ⟨g, o + 6, none⟩ = some u ∧ Rd (Cod.write) w u x.Rec.Writes) ∧ w.cell? ⟨g, o + 7, none⟩ = some (.bool x.Rec.Yes) ∧ I64 x.Term ∧ I64 x.Rec.Kind ∧ I64 x.Rec.Txn ∧ I64 x.Rec.Time ∧ I64 x.Rec.Lead := by
  obtain ⟨f, h⟩ := h
  exact rd_entry h

def costEntry (x : EntryD) : Nat := costStringS x.Rec.Reads + costWriteS x.Rec.Writes
def costEntryS (l : List EntryD) : Nat := l.length + sumC costEntry l

theorem opensEntry {H : Type} {enc : TypeId × Value → H} {w : World} : Opens enc Try.prog w Cod.entry 138 :=
  Opens.via (opens_struct Try.underlying138 (by kernel_rfl) (opensF_cons opensInt rfl (opensF_one opensRec rfl))) _ (fun (a0, a1) => ⟨a0, a1⟩) (fun _ => rfl)

theorem opensEntryS {H : Type} {enc : TypeId × Value → H} {w : World} : Opens enc Try.prog w (Cod.slice Cod.entry) 99 := opens_slice Try.underlying99 (by kernel_rfl) opensEntry (by decide)

/-- Replica -/
structure ReplicaD where
  Up : Bool
  Log : List EntryD
  Sure : Int

def Cod.replica : Cod ReplicaD := Cod.via (Cod.pair (Cod.bool) (Cod.pair (Cod.slice Cod.entry) (Cod.int))) (fun x => (x.Up, x.Log, x.Sure))

theorem rd_replica {w : World} {g : Nat → Option Value} {x : ReplicaD} {fp : List Nat} (h : Cod.replica.rd w g x fp) : g 0 = some (.bool x.Up) ∧ (∃ u, g 1 = some u ∧ Rd (Cod.entry) w u x.Log) ∧ g 2 = some (.int .i64 x.Sure) ∧ I64 x.Sure := by
  obtain ⟨_, _, _, ⟨h0, s0, _⟩, ⟨_, _, _, ⟨u1, h1, r1⟩, ⟨h2, s2, _⟩⟩⟩ := h
  exact ⟨h0, ⟨u1, h1, _, r1⟩, h2, s2⟩

theorem mk_replica {w : World} {g : Nat → Option Value} {x : ReplicaD} (h0 : g 0 = some (.bool x.Up)) {uLog : Value} {fLog : List Nat} (h1 : g 1 = some uLog) (r1 : Cod.rdS (Cod.entry) w uLog x.Log fLog) (h2 : g 2 = some (.int .i64 x.Sure)) (s2 : I64 x.Sure) : Cod.replica.rd w g x (fLog ++ []) :=
  ⟨[], (fLog ++ []), rfl, ⟨h0, trivial, rfl⟩, ⟨fLog, [], rfl, ⟨uLog, h1, r1⟩, ⟨h2, s2, rfl⟩⟩⟩

theorem at_replica {w : World} {g o : Nat} {x : ReplicaD} (h : At Cod.replica w g o x) : w.cell? ⟨g, o, none⟩ = some (.bool x.Up) ∧ (∃ u, w.cell? ⟨g, o + 1, none⟩ = some u ∧ Rd (Cod.entry) w u x.Log) ∧ w.cell? ⟨g, o + 2, none⟩ = some (.int .i64 x.Sure) ∧ I64 x.Sure := by
  obtain ⟨f, h⟩ := h
  exact rd_replica h

def costReplica (x : ReplicaD) : Nat := costEntryS x.Log
def costReplicaS (l : List ReplicaD) : Nat := l.length + sumC costReplica l

theorem opensReplica {H : Type} {enc : TypeId × Value → H} {w : World} : Opens enc Try.prog w Cod.replica 101 :=
  Opens.via (opens_struct Try.underlying101 (by kernel_rfl) (opensF_cons opensBool rfl (opensF_cons opensEntryS rfl (opensF_one opensInt rfl)))) _ (fun (a0, a1, a2) => ⟨a0, a1, a2⟩) (fun _ => rfl)

theorem opensReplicaS {H : Type} {enc : TypeId × Value → H} {w : World} : Opens enc Try.prog w (Cod.slice Cod.replica) 22 := opens_slice Try.underlying22 (by kernel_rfl) opensReplica (by decide)

/-- Group -/
structure GroupD where
  Reps : List ReplicaD
  Term : Int
  Lead : Int

def Cod.group : Cod GroupD := Cod.via (Cod.pair (Cod.slice Cod.replica) (Cod.pair (Cod.int) (Cod.int))) (fun x => (x.Reps, x.Term, x.Lead))

theorem rd_group {w : World} {g : Nat → Option Value} {x : GroupD} {fp : List Nat} (h : Cod.group.rd w g x fp) : (∃ u, g 0 = some u ∧ Rd (Cod.replica) w u x.Reps) ∧ g 1 = some (.int .i64 x.Term) ∧ g 2 = some (.int .i64 x.Lead) ∧ I64 x.Term ∧ I64 x.Lead := by
  obtain ⟨_, _, _, ⟨u0, h0, r0⟩, ⟨_, _, _, ⟨h1, s1, _⟩, ⟨h2, s2, _⟩⟩⟩ := h
  exact ⟨⟨u0, h0, _, r0⟩, h1, h2, s1, s2⟩

theorem mk_group {w : World} {g : Nat → Option Value} {x : GroupD} {uReps : Value} {fReps : List Nat} (h0 : g 0 = some uReps) (r0 : Cod.rdS (Cod.replica) w uReps x.Reps fReps) (h1 : g 1 = some (.int .i64 x.Term)) (s1 : I64 x.Term) (h2 : g 2 = some (.int .i64 x.Lead)) (s2 : I64 x.Lead) : Cod.group.rd w g x (fReps ++ []) :=
  ⟨fReps, [], rfl, ⟨uReps, h0, r0⟩, ⟨[], [], rfl, ⟨h1, s1, rfl⟩, ⟨h2, s2, rfl⟩⟩⟩

theorem at_group {w : World} {g o : Nat} {x : GroupD} (h : At Cod.group w g o x) : (∃ u, w.cell? ⟨g, o, none⟩ = some u ∧ Rd (Cod.replica) w u x.Reps) ∧ w.cell? ⟨g, o + 1, none⟩ = some (.int .i64 x.Term) ∧ w.cell? ⟨g, o + 2, none⟩ = some (.int .i64 x.Lead) ∧ I64 x.Term ∧ I64 x.Lead := by
  obtain ⟨f, h⟩ := h
  exact rd_group h

def costGroup (x : GroupD) : Nat := costReplicaS x.Reps
def costGroupS (l : List GroupD) : Nat := l.length + sumC costGroup l

theorem opensGroup {H : Type} {enc : TypeId × Value → H} {w : World} : Opens enc Try.prog w Cod.group 24 :=
  Opens.via (opens_struct Try.underlying24 (by kernel_rfl) (opensF_cons opensReplicaS rfl (opensF_cons opensInt rfl (opensF_one opensInt rfl)))) _ (fun (a0, a1, a2) => ⟨a0, a1, a2⟩) (fun _ => rfl)

/-- Letter -/
structure LetterD where
  From : Int
  To : Int
  Due : Int
  Body : ByteArray

def Cod.letter : Cod LetterD := Cod.via (Cod.pair (Cod.int) (Cod.pair (Cod.int) (Cod.pair (Cod.int) (Cod.str)))) (fun x => (x.From, x.To, x.Due, x.Body))

theorem rd_letter {w : World} {g : Nat → Option Value} {x : LetterD} {fp : List Nat} (h : Cod.letter.rd w g x fp) : g 0 = some (.int .i64 x.From) ∧ g 1 = some (.int .i64 x.To) ∧ g 2 = some (.int .i64 x.Due) ∧ g 3 = some (.string x.Body) ∧ I64 x.From ∧ I64 x.To ∧ I64 x.Due ∧ x.Body.size ≤ maxLen := by
  obtain ⟨_, _, _, ⟨h0, s0, _⟩, ⟨_, _, _, ⟨h1, s1, _⟩, ⟨_, _, _, ⟨h2, s2, _⟩, ⟨h3, s3, _⟩⟩⟩⟩ := h
  exact ⟨h0, h1, h2, h3, s0, s1, s2, s3⟩

theorem mk_letter {w : World} {g : Nat → Option Value} {x : LetterD} (h0 : g 0 = some (.int .i64 x.From)) (s0 : I64 x.From) (h1 : g 1 = some (.int .i64 x.To)) (s1 : I64 x.To) (h2 : g 2 = some (.int .i64 x.Due)) (s2 : I64 x.Due) (h3 : g 3 = some (.string x.Body)) (s3 : x.Body.size ≤ maxLen) : Cod.letter.rd w g x [] :=
  ⟨[], [], rfl, ⟨h0, s0, rfl⟩, ⟨[], [], rfl, ⟨h1, s1, rfl⟩, ⟨[], [], rfl, ⟨h2, s2, rfl⟩, ⟨h3, s3, rfl⟩⟩⟩⟩

theorem at_letter {w : World} {g o : Nat} {x : LetterD} (h : At Cod.letter w g o x) : w.cell? ⟨g, o, none⟩ = some (.int .i64 x.From) ∧ w.cell? ⟨g, o + 1, none⟩ = some (.int .i64 x.To) ∧ w.cell? ⟨g, o + 2, none⟩ = some (.int .i64 x.Due) ∧ w.cell? ⟨g, o + 3, none⟩ = some (.string x.Body) ∧ I64 x.From ∧ I64 x.To ∧ I64 x.Due ∧ x.Body.size ≤ maxLen := by
  obtain ⟨f, h⟩ := h
  exact rd_letter h

def costLetter (x : LetterD) : Nat := x.Body.size
def costLetterS (l : List LetterD) : Nat := l.length + sumC costLetter l


end Go.Proofs.Ytogdbjalgledpaa
