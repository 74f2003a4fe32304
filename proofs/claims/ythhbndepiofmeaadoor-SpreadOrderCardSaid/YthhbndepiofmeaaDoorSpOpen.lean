/- Openers for layer 18: arrays of six and of four integers, floats, slices of pairs. No program in sight. -/
import Derived.Test.YthhbndepiofmeaaDoorOpenLaw
namespace Bw
open Go Go.ChangeShapes Go.WideShapes Go.ChangeAt Go.RowKit Go.Joins

section
variable {H : Type} {enc : TypeId × Value → H} {P : Program} {w : World} {base : Nat} {spare : Nat → Bool} {held : Bool}

theorem open_arrN {r : Reach} {b0 : Nat} {n : Nat} {t e : TypeId} {k : IntKind} {v : Value} {d : DataW H} {p : List MemPlace} (ht : P.underlying t = some (.array n e)) (he : P.underlying e = some (.int k)) (hce : P.cellsOf e = 1) (hct : P.cellsOf t = n)
    (hv : Value.okWide P w r b0 t v) (h : DataW.Trod enc P w base spare held t v d p) :
    ∃ x : Nat → Int, v = .agg ((List.range n).map fun j => Value.int k (x j)).toArray ∧ ∀ j, j < n → (Lit.int k (x j)).wf = true := by
  obtain ⟨cs, rfl, hsz⟩ := okWide_array ht hv
  obtain ⟨fuel, hf⟩ := h
  obtain ⟨xs, m, _, _, _, hl, hx⟩ := DataW.trod_array ht hf
  rw [hct] at hsz
  have key : ∀ j, j < n → ∃ a, cs[j]? = some (.int k a) ∧ (Lit.int k a).wf = true := by
    intro j hj
    have h0 := hx j (by omega)
    rw [hce, List.getElem?_eq_getElem (by omega)] at h0
    obtain ⟨a, e0, _, wa⟩ := DataW.trod_int he h0
    have hj' : j < cs.size := by omega
    refine ⟨a, ?_, wa⟩
    simp [Value.cells] at e0
    have hh : (cs.toList.drop j)[0]? = some (Value.int k a) := by
      cases hd : cs.toList.drop j with
      | nil => simp [hd] at e0
      | cons y ys => simp [hd] at e0; simp [e0]
    rw [List.getElem?_drop] at hh
    simpa using hh
  have key2 : ∀ j, ∃ a, j < n → cs[j]? = some (.int k a) ∧ (Lit.int k a).wf = true := by
    intro j
    by_cases hj : j < n
    · obtain ⟨a, ha⟩ := key j hj
      exact ⟨a, fun _ => ha⟩
    · exact ⟨0, fun h => absurd h hj⟩
  obtain ⟨x, hx'⟩ := Classical.skolem.1 key2
  refine ⟨x, ?_, fun j hj => (hx' j hj).2⟩
  congr 1
  apply Array.ext
  · simp [hsz]
  · intro j h1 h2
    have hj : j < n := by omega
    have := (hx' j hj).1
    rw [Array.getElem?_eq_getElem h1] at this
    simpa using this
end
end Bw
