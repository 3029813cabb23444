/- Check of a collation: the reference. -/
import Derived.Test.YtileoimcnhcfcaaDoorEHeadR
set_option linter.unusedVariables false
set_option linter.unusedSimpArgs false
namespace Go.Proofs.YtileoimcnhcfcaaDoor
open Go.RowKit

end Go.Proofs.YtileoimcnhcfcaaDoor
