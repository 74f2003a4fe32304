import Derived.Test.YtijbfacfloljoaaRef1Walk4
namespace Go.Proofs.Ytijbfacfloljoaa
open Go.RowKit Bw
set_option linter.unusedVariables false


end Go.Proofs.Ytijbfacfloljoaa
