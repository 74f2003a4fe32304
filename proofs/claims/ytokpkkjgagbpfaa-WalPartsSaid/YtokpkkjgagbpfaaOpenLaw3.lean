/- Opening of arguments: slices of integers. No program in sight. -/
import Derived.Test.YtokpkkjgagbpfaaOpenLaw
import Derived.Test.YtokpkkjgagbpfaaBytesLaw
namespace Bw
open Go Go.ChangeShapes Go.WideShapes Go.ChangeAt Go.RowKit Go.Joins

section
variable {H : Type} {enc : TypeId × Value → H} {P : Program} {w : World} {base : Nat} {spare : Nat → Bool} {held : Bool}

/-- A slice of integers that came in. -/
theorem open_intsl {b0 : Nat} {r : Reach} {t e : TypeId} {k : IntKind} {v : Value} {d : DataW H} {p : List MemPlace} (ht : P.underlying t = some (.slice e)) (he : P.underlying e = some (.int k)) (hce : P.cellsOf e = 1)
    (hv : Value.okWide P w r b0 t v) (h : DataW.Trod enc P w base (fun _ => true) held t v d p) :
    ∃ (a : Option Addr) (n cap : Nat) (z : Nat → Int), v = .slice a n cap ∧ n ≤ cap ∧ cap ≤ maxLen ∧
      ∀ i, i < n → ∃ g o, a = some ⟨g, o, none⟩ ∧ w.cell? ⟨g, o + i, none⟩ = some (.int k (z i)) ∧ (Lit.int k (z i)).wf = true := by
  obtain ⟨a0, len, cap, rfl⟩ := okWide_slice ht hv
  obtain ⟨fuel, hf⟩ := h
  rcases Go.ChangeShapes.open_ints ht he hce hf with ⟨hcs, _⟩ | ⟨x, l, c, zs, hcs, _, hl, hm, hz, _, hcell, hws⟩
  · simp [Value.cells] at hcs
    obtain ⟨rfl, rfl, rfl⟩ := hcs
    exact ⟨_, _, _, fun _ => 0, rfl, Nat.le_refl _, by unfold maxLen; omega, fun i hi => absurd hi (by omega)⟩
  · simp [Value.cells] at hcs
    obtain ⟨rfl, rfl, rfl⟩ := hcs
    have hlen : zs.length = cap := by simpa using hz
    refine ⟨_, _, _, fun i => zs.getD i 0, rfl, hl, hm, fun i hi => ?_⟩
    obtain ⟨g, o, sp⟩ := x
    have h0 := hcell 0 (by omega)
    have hsp : sp = none := by simpa [Addr.add] using World.cell?_spot h0
    subst hsp
    have hc := hcell i (by omega)
    rw [Bw.add_none] at hc
    refine ⟨g, o, rfl, hc, ?_⟩
    have hi2 : i < zs.length := by omega
    apply hws
    show zs.getD i 0 ∈ zs
    rw [List.getD_eq_getElem?_getD, List.getElem?_eq_getElem hi2]
    exact List.getElem_mem hi2
end
end Bw
