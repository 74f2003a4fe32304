/- Openers for layer 18: arrays of six and of four integers, floats, slices of pairs. No program in sight. -/
import Derived.Test.YthhbndepiofmeaaDoorOpenLaw
import Derived.Test.YthhbndepiofmeaaDoorBytesLaw
import Derived.Deep.Slices
import Derived.Deep.Fields
namespace Bw
open Go Go.ChangeShapes Go.WideShapes Go.ChangeAt Go.RowKit Go.Joins Go.Deep
set_option linter.unusedVariables false

section
variable {H : Type} {enc : TypeId × Value → H} {P : Program} {w : World} {base : Nat} {spare : Nat → Bool} {held : Bool}

theorem open_arrN {r : Reach} {b0 : Nat} {n : Nat} {t e : TypeId} {k : IntKind} {v : Value} {d : DataW H} {p : List MemPlace} (ht : P.underlying t = some (.array n e)) (he : P.underlying e = some (.int k)) (hce : P.cellsOf e = 1) (hct : P.cellsOf t = n)
    (hv : Value.okWide P w r b0 t v) (h : DataW.Trod enc P w base spare held t v d p) :
    ∃ x : Nat → Int, v = .agg ((List.range n).map fun j => Value.int k (x j)).toArray ∧ ∀ j, j < n → (Lit.int k (x j)).wf = true := by
  obtain ⟨cs, rfl, hsz⟩ := okWide_array ht hv
  obtain ⟨fuel, hf⟩ := h
  obtain ⟨xs, m, _, _, _, hl, hx⟩ := DataW.trod_array ht hf
  rw [hct] at hsz
  have key : ∀ j, j < n → ∃ a, cs[j]? = some (.int k a) ∧ (Lit.int k a).wf = true := by
    intro j hj
    have h0 := hx j (by omega)
    rw [hce, List.getElem?_eq_getElem (by omega)] at h0
    obtain ⟨a, e0, _, wa⟩ := DataW.trod_int he h0
    have hj' : j < cs.size := by omega
    refine ⟨a, ?_, wa⟩
    simp [Value.cells] at e0
    have hh : (cs.toList.drop j)[0]? = some (Value.int k a) := by
      cases hd : cs.toList.drop j with
      | nil => simp [hd] at e0
      | cons y ys => simp [hd] at e0; simp [e0]
    rw [List.getElem?_drop] at hh
    simpa using hh
  have key2 : ∀ j, ∃ a, j < n → cs[j]? = some (.int k a) ∧ (Lit.int k a).wf = true := by
    intro j
    by_cases hj : j < n
    · obtain ⟨a, ha⟩ := key j hj
      exact ⟨a, fun _ => ha⟩
    · exact ⟨0, fun h => absurd h hj⟩
  obtain ⟨x, hx'⟩ := Classical.skolem.1 key2
  refine ⟨x, ?_, fun j hj => (hx' j hj).2⟩
  congr 1
  apply Array.ext
  · simp [hsz]
  · intro j h1 h2
    have hj : j < n := by omega
    have := (hx' j hj).1
    rw [Array.getElem?_eq_getElem h1] at this
    simpa using this

/-- Where numbers of some kind lie, and that each is one. -/
def NumsIn (k : IntKind) (w : World) (p : Option Addr) (l : List Int) : Prop := l.length ≤ maxLen ∧ (∀ x ∈ l, (Lit.int k x).wf = true) ∧ ∀ i (hi : i < l.length), ∃ g o, p = some ⟨g, o, none⟩ ∧ w.cell? ⟨g, o + i, none⟩ = some (.int k l[i])
theorem NumsIn.up {k : IntKind} {w w' : World} {p : Option Addr} {l : List Int} (h : NumsIn k w p l) (hu : Up w w') : NumsIn k w' p l := ⟨h.1, h.2.1, fun i hi => by
  obtain ⟨g, o, e, hc⟩ := h.2.2 i hi
  exact ⟨g, o, e, (Below.cell hu (World.block_lt_of_cell? w _ hc)).trans hc⟩⟩
theorem trod_nums {k : IntKind} {t e : TypeId} {fuel : Nat} {cs : List Value} {x : DataW H × List MemPlace} (ht : P.underlying t = some (.slice e)) (he : P.underlying e = some (.int k)) (hce : P.cellsOf e = 1)
    (h : DataW.trod enc P w base spare held fuel t cs = some x) : ∃ p l c, cs = [.slice p l.length c] ∧ l.length ≤ c ∧ NumsIn k w p l := by
  rcases Go.ChangeShapes.open_ints ht he hce h with ⟨rfl, _⟩ | ⟨x, l, c, zs, rfl, _, hl, hm, hz, _, hcell, hws⟩
  · exact ⟨none, [], 0, rfl, by simp, by simp, by simp, fun i hi => absurd hi (by simp)⟩
  · have hzl : l ≤ zs.length := by rw [hz]; split <;> omega
    have hlen : (zs.take l).length = l := by rw [List.length_take]; omega
    refine ⟨some x, zs.take l, c, by rw [hlen], by omega, by omega, fun k hk => hws k (List.mem_of_mem_take hk), fun k hk => ?_⟩
    rw [hlen] at hk
    obtain ⟨g, o, sp⟩ := x
    have h0 := hcell 0 (by omega)
    have hsp : sp = none := by simpa [Addr.add] using World.cell?_spot h0
    subst hsp
    have hc := hcell k (by omega)
    rw [Bw.add_none] at hc
    refine ⟨g, o, rfl, ?_⟩
    rw [List.getElem_take, hc, List.getD_eq_getElem?_getD, List.getElem?_eq_getElem (by omega)]
    rfl
theorem open_nums {k : IntKind} {b0 : Nat} {r : Reach} {t e : TypeId} (ht : P.underlying t = some (.slice e)) (he : P.underlying e = some (.int k)) (hce : P.cellsOf e = 1) {v : Value} {d : DataW H} {p : List MemPlace}
    (hv : Value.okWide P w r b0 t v) (h : DataW.Trod enc P w base (fun _ => true) held t v d p) : ∃ (a : Option Addr) (z : List Int) (c : Nat), v = .slice a z.length c ∧ (z.length ≤ c ∧ NumsIn k w a z) := by
  obtain ⟨a0, len0, cap0, rfl⟩ := okWide_slice ht hv
  obtain ⟨fuel, hf⟩ := h
  obtain ⟨p, l, c, h1, h2, h3⟩ := trod_nums ht he hce hf
  simp [Value.cells] at h1
  obtain ⟨rfl, rfl, rfl⟩ := h1
  exact ⟨_, l, _, rfl, h2, h3⟩
end
end Bw
