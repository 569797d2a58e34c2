/- Plain lemmas and contracts that all proofs of this seat lean on: bundle Tos. -/
import Derived.Test.YtpiheobpobclgaaGreatDoorRowd
import Derived.Test.YtpiheobpobclgaaGreatDoorGoodr
/- laws.toWrite, laws.toWriteS. Printed by mkdata.py. -/
namespace Go.Proofs.YtpiheobpobclgaaGreatDoor
open Go.RowKit

/-- What toWrite gives. -/
def ToWrite (x : WriteD) (base : Nat) (e : Ending) (w' : World) : Prop :=
  ∃ f, e = .returned (.agg #[.string x.Key, .string x.Val, .bool x.Gone]) ∧ Cod.write.rd w' (lst [.string x.Key, .string x.Val, .bool x.Gone]) x f ∧ Mine w' base f

theorem Tryz_info_write : (Tryz.prog.info? 45).map (fun i => (i.zero, i.size, i.bytes)) = some (some (.agg #[.string ⟨#[]⟩, .string ⟨#[]⟩, .bool false]), 3, 40) := by kernel_rfl

end Go.Proofs.YtpiheobpobclgaaGreatDoor


/- laws.toRec, laws.toRecS. Printed by mkdata.py. -/
namespace Go.Proofs.YtpiheobpobclgaaGreatDoor
open Go.RowKit

/-- What toRec gives. -/
def ToRec (x : RecD) (base : Nat) (e : Ending) (w' : World) : Prop :=
  ∃ pReads' cReads' pWrites' cWrites' f, e = .returned (.agg #[.int .i64 x.Kind, .int .i64 x.Txn, .int .i64 x.Time, .int .i64 x.Lead, .slice pReads' x.Reads.length cReads', .slice pWrites' x.Writes.length cWrites', .bool x.Yes]) ∧ Cod.recd.rd w' (lst [.int .i64 x.Kind, .int .i64 x.Txn, .int .i64 x.Time, .int .i64 x.Lead, .slice pReads' x.Reads.length cReads', .slice pWrites' x.Writes.length cWrites', .bool x.Yes]) x f ∧ Mine w' base f

theorem Tryz_info_recd : (Tryz.prog.info? 25).map (fun i => (i.zero, i.size, i.bytes)) = some (some (.agg #[.int .i64 0, .int .i64 0, .int .i64 0, .int .i64 0, .slice none 0 0, .slice none 0 0, .bool false]), 7, 88) := by kernel_rfl

end Go.Proofs.YtpiheobpobclgaaGreatDoor


/- laws.toEntry, laws.toEntryS. Printed by mkdata2.py. -/
namespace Go.Proofs.YtpiheobpobclgaaGreatDoor
open Go.RowKit

/-- What toEntry gives. -/
def ToEntry (x : EntryD) (base : Nat) (e : Ending) (w' : World) : Prop :=
  ∃ pRecReads' cRecReads' pRecWrites' cRecWrites' f, e = .returned (.agg #[.int .i64 x.Term, .int .i64 x.Rec.Kind, .int .i64 x.Rec.Txn, .int .i64 x.Rec.Time, .int .i64 x.Rec.Lead, .slice pRecReads' x.Rec.Reads.length cRecReads', .slice pRecWrites' x.Rec.Writes.length cRecWrites', .bool x.Rec.Yes]) ∧ Cod.entry.rd w' (lst [.int .i64 x.Term, .int .i64 x.Rec.Kind, .int .i64 x.Rec.Txn, .int .i64 x.Rec.Time, .int .i64 x.Rec.Lead, .slice pRecReads' x.Rec.Reads.length cRecReads', .slice pRecWrites' x.Rec.Writes.length cRecWrites', .bool x.Rec.Yes]) x f ∧ Mine w' base f

end Go.Proofs.YtpiheobpobclgaaGreatDoor


/- laws.toReplica, laws.toReplicaS. Printed by mkdata2.py. -/
namespace Go.Proofs.YtpiheobpobclgaaGreatDoor
open Go.RowKit

/-- What toReplica gives. -/
def ToReplica (x : ReplicaD) (base : Nat) (e : Ending) (w' : World) : Prop :=
  ∃ pLog' cLog' f, e = .returned (.agg #[.bool x.Up, .slice pLog' x.Log.length cLog', .int .i64 x.Sure]) ∧ Cod.replica.rd w' (lst [.bool x.Up, .slice pLog' x.Log.length cLog', .int .i64 x.Sure]) x f ∧ Mine w' base f

end Go.Proofs.YtpiheobpobclgaaGreatDoor


/- laws.toGroup, laws.toGroupS. Printed by mkdata2.py. -/
namespace Go.Proofs.YtpiheobpobclgaaGreatDoor
open Go.RowKit

/-- What toGroup gives. -/
def ToGroup (x : GroupD) (base : Nat) (e : Ending) (w' : World) : Prop :=
  ∃ pReps' cReps' f, e = .returned (.agg #[.slice pReps' x.Reps.length cReps', .int .i64 x.Term, .int .i64 x.Lead]) ∧ Cod.group.rd w' (lst [.slice pReps' x.Reps.length cReps', .int .i64 x.Term, .int .i64 x.Lead]) x f ∧ Mine w' base f

end Go.Proofs.YtpiheobpobclgaaGreatDoor

