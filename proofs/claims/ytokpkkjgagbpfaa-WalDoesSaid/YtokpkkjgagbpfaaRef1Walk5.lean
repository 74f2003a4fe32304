import Derived.Test.YtokpkkjgagbpfaaRef1WalkA
namespace Go.Proofs.Ytokpkkjgagbpfaa
open Go.RowKit Bw
set_option linter.unusedVariables false


end Go.Proofs.Ytokpkkjgagbpfaa
