/- Opening of arguments: structs of three integers. No program in sight. -/
import Derived.Test.YtbjnklgicakndaaOpenLaw
namespace Bw
open Go Go.ChangeShapes Go.WideShapes Go.ChangeAt Go.RowKit Go.Joins Go.Deep

section
variable {H : Type} {enc : TypeId × Value → H} {P : Program} {w : World} {base : Nat} {spare : Nat → Bool} {held : Bool}

theorem open_ints3 {r : Reach} {b0 : Nat} {t e : TypeId} {f0 f1 f2 : Field} {k : IntKind} {v : Value} {d : DataW H} {p : List MemPlace} (hs : P.underlying t = some (.struct #[f0, f1, f2])) (hone : oneCellFields P #[f0, f1, f2] = true) (hC : P.cellsOf t = 3)
    (e0 : f0.type = e) (e1 : f1.type = e) (e2 : f2.type = e) (he : P.underlying e = some (.int k)) (hv : Value.okWide P w r b0 t v) (h : DataW.Trod enc P w base spare held t v d p) :
    ∃ a b c, v = .agg #[.int k a, .int k b, .int k c] ∧ (Lit.int k a).wf = true ∧ (Lit.int k b).wf = true ∧ (Lit.int k c).wf = true := by
  obtain ⟨v0, v1, v2, y0, y1, y2, n, rfl, -, -, h0, h1, h2⟩ := Go.Joins.open_agg3 hs hone hC hv h
  rw [e0] at h0; rw [e1] at h1; rw [e2] at h2
  obtain ⟨a, q0, _, wa⟩ := DataW.trod_int he h0
  obtain ⟨b, q1, _, wb⟩ := DataW.trod_int he h1
  obtain ⟨c, q2, _, wc⟩ := DataW.trod_int he h2
  simp [Value.cells] at q0 q1 q2
  subst q0 q1 q2
  exact ⟨a, b, c, rfl, wa, wb, wc⟩
end
end Bw
