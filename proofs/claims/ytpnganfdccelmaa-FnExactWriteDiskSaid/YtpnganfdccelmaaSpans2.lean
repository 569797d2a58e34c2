/- IsPast, IsAhead, SurelyAfter: walked. -/
import Derived.Test.YtpnganfdccelmaaSpans
namespace Go.Proofs.Ytpnganfdccelmaa
open Go.RowKit

end Go.Proofs.Ytpnganfdccelmaa
