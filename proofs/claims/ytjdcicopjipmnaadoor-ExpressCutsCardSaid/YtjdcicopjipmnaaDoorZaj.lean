/- operators of two operands. -/
import Derived.Test.YtjdcicopjipmnaaDoorZai
namespace Go.Proofs.YtjdcicopjipmnaaDoor
set_option maxRecDepth 100000
open Go.RowKit
set_option linter.unusedVariables false
set_option linter.unusedSimpArgs false
end Go.Proofs.YtjdcicopjipmnaaDoor
