/- IsPast, IsAhead, SurelyAfter: walked. -/
import Derived.Test.YtkgnogdbojefkaaSpans
namespace Go.Proofs.Ytkgnogdbojefkaa
open Go.RowKit

end Go.Proofs.Ytkgnogdbojefkaa
