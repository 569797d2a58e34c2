/- Plain lemmas and contracts that all proofs of this seat lean on: bundle Marks. -/
import Derived.Test.YtpiheobpobclgaaDoorPlanT
/- laws.markStringS, laws.heldStringS. Printed by mkmark.py. -/
namespace Go.Proofs.YtpiheobpobclgaaDoor
open Go.RowKit

end Go.Proofs.YtpiheobpobclgaaDoor


/- laws.markWriteS, laws.heldWriteS. Printed by mkmark.py. -/
namespace Go.Proofs.YtpiheobpobclgaaDoor
open Go.RowKit

end Go.Proofs.YtpiheobpobclgaaDoor


/- laws.markRecS, laws.heldRecS. Printed by mkmark.py. -/
namespace Go.Proofs.YtpiheobpobclgaaDoor
open Go.RowKit

end Go.Proofs.YtpiheobpobclgaaDoor


/- laws.markEntryS, laws.heldEntryS. Printed by mkmark.py. -/
namespace Go.Proofs.YtpiheobpobclgaaDoor
open Go.RowKit

end Go.Proofs.YtpiheobpobclgaaDoor


/- laws.markReplicaS, laws.heldReplicaS. Printed by mkmark.py. -/
namespace Go.Proofs.YtpiheobpobclgaaDoor
open Go.RowKit

end Go.Proofs.YtpiheobpobclgaaDoor

