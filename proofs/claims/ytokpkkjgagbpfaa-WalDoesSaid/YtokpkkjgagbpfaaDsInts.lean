import Derived.Test.YtokpkkjgagbpfaaDsDirty
namespace Go.Proofs.Ytokpkkjgagbpfaa
set_option maxRecDepth 100000
open Go.RowKit Bw Go.Maps
set_option linter.unusedVariables false

end Go.Proofs.Ytokpkkjgagbpfaa
