import Derived.Test.YtbjnklgicakndaaPgFalls
import Derived.OpenShut
namespace Go.Proofs.Ytbjnklgicakndaa
open Go.RowKit Bw
set_option linter.unusedVariables false

theorem falls_law (pa : Option Addr) (n cap : Nat) (z : Nat → Int) (h1 : n ≤ cap) (h2 : cap ≤ maxLen) (w : World)
    (h : ∀ i, i < n → ∃ g o, pa = some ⟨g, o, none⟩ ∧ w.cell? ⟨g, o + i, none⟩ = some (.int .u8 (z i)) ∧ (Lit.int .u8 (z i)).wf = true) :
    Calls Try.prog 5 #[.slice pa n cap] w fun e w' => e = .returned (.bool true) ∧ Below w.heap.size w w' := by
  unfold maxLen at h2
  refine falls_walk pa n cap z w (fun i hi => ?_) (by omega)
  obtain ⟨g, o, hp, hc, hw⟩ := h i hi
  have := bounds_u8 hw
  exact ⟨g, o, hp, hc, by omega, by omega⟩
end Go.Proofs.Ytbjnklgicakndaa
