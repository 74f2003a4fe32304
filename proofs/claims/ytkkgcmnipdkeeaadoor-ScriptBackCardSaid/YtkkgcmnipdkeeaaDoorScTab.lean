/- Layer 24: numerals by strconv.Itoa. -/
import Derived.Test.YtkkgcmnipdkeeaaDoorScShelf
import Derived.Test.YtkkgcmnipdkeeaaDoorUpA
import Derived.Test.YtkkgcmnipdkeeaaDoorFieldPure
import Derived.Lib.SmallJoins
import Derived.Lib.LaidTab
import Derived.Lib.AppendIntMem
namespace Go.Proofs.YtkkgcmnipdkeeaaDoor
open Go.RowKit Bw
set_option linter.unusedVariables false
/-- strconv's table of powers of ten lies as its text lays it. -/
def Tab (w : World) : Prop := Lib.TabIs Tryd.prog w "internal/strconv.uint64pow10" .u64 Lib.pow10Tab
theorem Tab.up {w w' : World} (h : Tab w) (hu : Up w w') : Tab w' := Go.Joins.tab_stays (g := 0) (by kernel_rfl) h hu (Nat.le_refl _)
theorem sc_Itoa (n : Int) (h0 : 0 ≤ n) (h1 : n ≤ 1099511627776) (w : World) (ht : Tab w) : Calls Tryd.prog 34 #[.int .i64 n] w fun e w' => e = .returned (.string (str (Lib.itoa n))) ∧ Below w.heap.size w w' :=
  (Tryd.strconv_Itoa n (by omega) (by omega) w ht).mono fun e w' ⟨he, k, os, hw⟩ => ⟨he, by rw [hw]; exact Lib.below_grow _ _ (Nat.le_refl _) _ _⟩
end Go.Proofs.YtkkgcmnipdkeeaaDoor
