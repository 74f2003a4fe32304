import Derived.Test.YtbjnklgicakndaaPgRecs
import Derived.OpenShut
namespace Go.Proofs.Ytbjnklgicakndaa
open Go.RowKit Bw
set_option linter.unusedVariables false

theorem rec_type : RecType Try.prog 41 :=
  ⟨⟨_, _, _, _, _, _, _, _, _, _, _, _, _, rfl, Try.underlying41, by kernel_rfl, by kernel_rfl, Try.underlying3, Try.underlying3, Try.underlying9, Try.underlying9, Try.underlying3, Try.underlying3, Try.underlying3,
    Try.underlying39, Try.underlying69, by kernel_rfl, by kernel_rfl, rfl, rfl, Try.underlying9⟩⟩

theorem recs_law (p u o : Int) (h1 : (Lit.int .i64 p).wf = true ∧ (Lit.int .i64 u).wf = true ∧ (Lit.int .i64 o).wf = true) (pa : Option Addr) (n c : Nat) (f : Nat → RecD) (fp : Nat → Option Addr) (fc : Nat → Nat) (hn : n ≤ maxLen) (w : World)
    (hF : ∀ i, i < n → RecIn w (f i) (fp i) ∧ ArgR w pa i (f i) (fp i) (fc i)) :
    Calls Try.prog 4 #[progV p u o, .slice pa n c] w fun e w' => e = .returned (.bool true) ∧ Below w.heap.size w w' := by
  have := bounds_i64 h1.2.1
  exact recs_walk p u o (by omega) pa n c f fp fc hn w hF
end Go.Proofs.Ytbjnklgicakndaa
