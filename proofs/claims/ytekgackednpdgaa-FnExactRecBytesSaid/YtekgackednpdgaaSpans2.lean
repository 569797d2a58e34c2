/- IsPast, IsAhead, SurelyAfter: walked. -/
import Derived.Test.YtekgackednpdgaaSpans
namespace Go.Proofs.Ytekgackednpdgaa
open Go.RowKit

end Go.Proofs.Ytekgackednpdgaa
