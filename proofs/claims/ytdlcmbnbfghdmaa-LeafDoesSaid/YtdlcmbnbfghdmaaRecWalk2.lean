import Derived.Test.YtdlcmbnbfghdmaaRecWalk1
namespace Go.Proofs.Ytdlcmbnbfghdmaa
open Go.RowKit Bw
set_option linter.unusedVariables false

def recV (r : RecD) (pv : Value) : Value := .agg #[.int .i64 r.k, .int .i64 r.t, .string r.key, .string r.val, .int .i64 r.p, .int .i64 r.u, .int .i64 r.n, pv]

end Go.Proofs.Ytdlcmbnbfghdmaa
