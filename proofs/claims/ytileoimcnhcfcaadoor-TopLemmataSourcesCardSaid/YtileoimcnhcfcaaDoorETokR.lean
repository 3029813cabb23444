/- Check of a token: the reference. -/
import Derived.Test.YtileoimcnhcfcaaDoorETok
import Derived.Test.YtileoimcnhcfcaaDoorHead
set_option linter.unusedVariables false
set_option linter.unusedSimpArgs false
namespace Go.Proofs.YtileoimcnhcfcaaDoor
open Go.RowKit

end Go.Proofs.YtileoimcnhcfcaaDoor
