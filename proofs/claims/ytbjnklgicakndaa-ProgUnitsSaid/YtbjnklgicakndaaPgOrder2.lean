import Derived.Test.YtbjnklgicakndaaPgOrder
import Derived.Test.YtbjnklgicakndaaPgUnits
import Derived.OpenShut
namespace Go.Proofs.Ytbjnklgicakndaa
open Go.RowKit Bw
set_option linter.unusedVariables false

theorem order_law (a b c : Int) (h1 : (Lit.int .i64 a).wf = true ∧ (Lit.int .i64 b).wf = true ∧ (Lit.int .i64 c).wf = true) (d e f : Int) (h2 : (Lit.int .i64 d).wf = true ∧ (Lit.int .i64 e).wf = true ∧ (Lit.int .i64 f).wf = true)
    (x y z : Int) (h3 : (Lit.int .i64 x).wf = true ∧ (Lit.int .i64 y).wf = true ∧ (Lit.int .i64 z).wf = true) (w : World) :
    Calls Try.prog 6 #[progV a b c, progV d e f, progV x y z] w fun e w' => e = .returned (.bool true) ∧ Below w.heap.size w w' := by
  have := bounds_i64 h1.2.1; have := bounds_i64 h2.2.1; have := bounds_i64 h3.2.1
  exact order_walk a b c d e f x y z w (by omega) (by omega) (by omega)

theorem units_law (a : Int) (h1 : (Lit.int .u8 a).wf = true) (b : Int) (h2 : (Lit.int .u8 b).wf = true) (w : World) :
    Calls Try.prog 7 #[.int .u8 a, .int .u8 b] w fun e w' => e = .returned (.bool true) ∧ Below w.heap.size w w' := by
  have := bounds_u8 h1; have := bounds_u8 h2
  exact units_walk a b w (by omega) (by omega) (by omega) (by omega)
end Go.Proofs.Ytbjnklgicakndaa
