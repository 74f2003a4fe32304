import Derived.Test.YtibeeomeafakgaaEnKindsA
import Derived.Test.YtibeeomeafakgaaEnKindsB
import Derived.Test.YtibeeomeafakgaaEnKindsC
import Derived.Test.YtibeeomeafakgaaEnKindsD
import Derived.Test.YtibeeomeafakgaaEnKindsE
import Derived.Test.YtibeeomeafakgaaEnKindsF
import Derived.Test.YtibeeomeafakgaaEnKindsG
namespace Go.Proofs.Ytibeeomeafakgaa
open Go.RowKit Bw
set_option linter.unusedVariables false

theorem kinds_law (r0 : RecD) (p0 : Option Addr) (c0 : Nat) (w : World) (hA : RecIn w r0 p0) :
    Calls Try.prog 7 #[.agg #[.int .i64 r0.k, .int .i64 r0.t, .string r0.key, .string r0.val, .int .i64 r0.p, .int .i64 r0.u, .int .i64 r0.n, .slice p0 r0.l.length c0]] w fun e w' => e = .returned (.bool true) ∧ Below w.heap.size w w' := by
  have C0 := Lib.hid (fun w1 (h : Up w w1) => cut_call r0 p0 c0 w1 (recIn_up hA h))
  have hl := cutR_l r0
  generalize cutR r0 = F at *
  cases hR : F.rightR
  · obtain ⟨K, t, key, val, p, u, n, l⟩ := F
    exact kinds_no K t key val p u n l hl hR r0 p0 c0 w C0
  · have o := RecD.ok hR
    obtain ⟨K, t, key, val, p, u, n, l⟩ := F
    have h1 := o.k1; have h7 := o.k7
    simp only at h1 h7 hl
    clear o
    have : K = 1 ∨ K = 2 ∨ K = 3 ∨ K = 4 ∨ K = 5 ∨ K = 6 ∨ K = 7 := by omega
    rcases this with rfl | rfl | rfl | rfl | rfl | rfl | rfl
    · exact kinds1 t key val p u n l hl hR r0 p0 c0 w C0
    · by_cases hx : val = ByteArray.empty
      · exact kinds2e t key val p u n l hl hx hR r0 p0 c0 w C0
      · exact kinds2f t key val p u n l hl hx hR r0 p0 c0 w C0
    · exact kinds3 t key val p u n l hl hR r0 p0 c0 w C0
    · exact kinds4 t key val p u n l hl hR r0 p0 c0 w C0
    · exact kinds5 t key val p u n l hl hR r0 p0 c0 w C0
    · exact kinds6 t key val p u n l hl hR r0 p0 c0 w C0
    · by_cases hx : l = []
      · subst hx
        exact kinds7e t key val p u n hR r0 p0 c0 w C0
      · exact kinds7f t key val p u n l hl hx hR r0 p0 c0 w C0
end Go.Proofs.Ytibeeomeafakgaa
