/- Layer 24: Ref of the law. -/
import Derived.Test.YtkkgcmnipdkeeaaDoorScWalk1
import Derived.Test.YtkkgcmnipdkeeaaDoorScInts
namespace Go.Proofs.YtkkgcmnipdkeeaaDoor
open Go.RowKit Bw
set_option linter.unusedVariables false
theorem law24_Ref (a : ActD) (q : Option Addr) (c : Nat) (w : World) : Calls Tryd.prog 11 #[actV a q c] w fun e w' => e = .returned (actV a q c) ∧ Below w.heap.size w w' := by
  obtain ⟨k, t, key, val, n, f⟩ := a
  simp only [actV] at *
  have hu := ((Up.refl w).alloc (.cells #[.int .i64 k, .int .i64 t, .string key, .string val, .int .i64 n, .slice q f.length c] 24)).alloc (.cells #[.int .i64 k, .int .i64 t, .string key, .string val, .int .i64 n, .slice q f.length c] 28)
  go_enter Tryd.func11, Tryd.ntmps11
  go_wp2_with fail
  exact bodyPost_ret (v := .agg #[.int .i64 k, .int .i64 t, .string key, .string val, .int .i64 n, .slice q f.length c]) (by simp [results, Tryd.results11, go_sem, *]) rfl ⟨rfl, hu⟩
end Go.Proofs.YtkkgcmnipdkeeaaDoor
