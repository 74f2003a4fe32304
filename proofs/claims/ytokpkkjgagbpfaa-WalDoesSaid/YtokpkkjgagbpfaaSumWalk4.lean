import Derived.Test.YtokpkkjgagbpfaaSumWalk3
namespace Go.Proofs.Ytokpkkjgagbpfaa
open Go.RowKit Bw
set_option linter.unusedVariables false

set_option maxHeartbeats 2000000 in
set_option maxRecDepth 100000 in
theorem sum_Torn (a b : ByteArray) (w : World) (ha : a.size ≤ 1099511627776) (hb : b.size ≤ 1099511627776) :
    Calls Try.prog 76 #[.string a, .string b] w fun e w' => e = .returned (.string (tornS a b)) ∧ Below w.heap.size w w' := by
  have e1 : a.size < 128 → a.extract 0 (min 128 a.size) = a := fun h => by rw [Nat.min_eq_right (by omega)]; simp
  have e2 : b.size < 128 → b.extract (min 128 b.size) b.size = ByteArray.empty := fun h => by rw [Nat.min_eq_right (by omega)]; simp
  have g1 : (a.extract 0 128).size ≤ 128 := by simp; omega
  have g2 : (b.extract 128 b.size).size ≤ 1099511627776 := by simp; omega
  by_cases h1 : a.size < 128
  · by_cases h2 : b.size < 128
    · have hR : tornS a b = a ++ ByteArray.empty := by rw [tornS, e1 h1, e2 h2]
      rw [hR]; clear hR e1 e2
      go_enter Try.func76, Try.ntmps76
      go_wp2
      go_quiet (fail)
      go_wp2
      go_ret
      exact ⟨by simp, by exact (Up.refl w).drewN _⟩
    · have hR : tornS a b = a ++ b.extract 128 b.size := by rw [tornS, e1 h1, Nat.min_eq_left (by omega)]
      rw [hR]; clear hR e1 e2
      go_enter Try.func76, Try.ntmps76
      go_wp2
      go_quiet (fail)
      go_wp2
      go_ret
      exact ⟨rfl, by exact (Up.refl w).drewN _⟩
  · by_cases h2 : b.size < 128
    · have hR : tornS a b = a.extract 0 128 ++ ByteArray.empty := by rw [tornS, e2 h2, Nat.min_eq_left (by omega)]
      rw [hR]; clear hR e1 e2
      go_enter Try.func76, Try.ntmps76
      go_wp2
      go_quiet (fail)
      go_wp2
      go_ret
      exact ⟨by simp, by exact (Up.refl w).drewN _⟩
    · have hR : tornS a b = a.extract 0 128 ++ b.extract 128 b.size := by rw [tornS, Nat.min_eq_left (by omega), Nat.min_eq_left (by omega)]
      rw [hR]; clear hR e1 e2
      go_enter Try.func76, Try.ntmps76
      go_wp2
      go_quiet (fail)
      go_wp2
      go_ret
      exact ⟨rfl, by exact (Up.refl w).drewN _⟩
end Go.Proofs.Ytokpkkjgagbpfaa
