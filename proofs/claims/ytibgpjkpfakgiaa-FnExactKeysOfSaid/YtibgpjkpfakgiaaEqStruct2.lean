/- slices.Equal at structs. -/
import Derived.Test.YtibgpjkpfakgiaaEqStruct
namespace Go.Proofs.Ytibgpjkpfakgiaa
open Go.RowKit

end Go.Proofs.Ytibgpjkpfakgiaa
