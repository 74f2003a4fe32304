import Derived.Test.YtdlcmbnbfghdmaaRecWalk3
namespace Go.Proofs.Ytdlcmbnbfghdmaa
open Go.RowKit Bw
set_option linter.unusedVariables false

theorem same_form (a b : RecD) : a.same b = (a.k == b.k && a.t == b.t && (a.key.toList == b.key.toList) && (a.val.toList == b.val.toList) && a.p == b.p && a.u == b.u && a.n == b.n && decide (a.l = b.l)) := by
  rw [RecD.same, str_eqB, str_eqB]


end Go.Proofs.Ytdlcmbnbfghdmaa
