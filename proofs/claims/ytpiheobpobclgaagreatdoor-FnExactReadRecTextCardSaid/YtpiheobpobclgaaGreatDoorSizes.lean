/- Plain lemmas and contracts that all proofs of this seat lean on: bundle Sizes. -/
import Derived.Test.YtpiheobpobclgaaGreatDoorRowd
import Derived.Test.YtpiheobpobclgaaGreatDoorGoodr
/- laws.szWrite, laws.szWriteS. Printed by mkdata.py. -/
namespace Go.Proofs.YtpiheobpobclgaaGreatDoor
open Go.RowKit

end Go.Proofs.YtpiheobpobclgaaGreatDoor


/- laws.szRec, laws.szRecS. Printed by mkdata.py. -/
namespace Go.Proofs.YtpiheobpobclgaaGreatDoor
open Go.RowKit

end Go.Proofs.YtpiheobpobclgaaGreatDoor


/- laws.szEntry, laws.szEntryS. Printed by mkdata2.py. -/
namespace Go.Proofs.YtpiheobpobclgaaGreatDoor
open Go.RowKit

end Go.Proofs.YtpiheobpobclgaaGreatDoor


/- laws.szReplica, laws.szReplicaS. Printed by mkdata2.py. -/
namespace Go.Proofs.YtpiheobpobclgaaGreatDoor
open Go.RowKit

end Go.Proofs.YtpiheobpobclgaaGreatDoor


/- laws.szGroup, laws.szGroupS. Printed by mkdata2.py. -/
namespace Go.Proofs.YtpiheobpobclgaaGreatDoor
open Go.RowKit

end Go.Proofs.YtpiheobpobclgaaGreatDoor

