import Derived.Test.YtiekjjejoekdeaaRef1Walk4
namespace Go.Proofs.Ytiekjjejoekdeaa
open Go.RowKit Bw
set_option linter.unusedVariables false


end Go.Proofs.Ytiekjjejoekdeaa
