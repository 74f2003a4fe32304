/- Opener for layer 18: slices of leaves (structs of two numbers); a struct's fields of one cell. -/
import Derived.Test.YthhbndepiofmeaaDoorOpenLaw
import Derived.Test.YthhbndepiofmeaaDoorBytesLaw
import Derived.Test.YthhbndepiofmeaaDoorSpWalk4
import Derived.Deep.Slices
import Derived.Deep.Fields
namespace Bw
open Go Go.ChangeShapes Go.WideShapes Go.ChangeAt Go.RowKit Go.Joins Go.Deep
set_option linter.unusedVariables false
section
variable {H : Type} {enc : TypeId × Value → H} {P : Program} {w : World} {base : Nat} {spare : Nat → Bool} {held : Bool}

/-- The cells of a struct of one-cell fields, each as it is read. -/
theorem trod_fields' {e : TypeId} {fs : Array Field} {fuel : Nat} {cs : List Value} {x : DataW H × List MemPlace} (he : P.underlying e = some (.struct fs)) (hone : oneCellFields P fs = true) (hC : P.cellsOf e = fs.size)
    (h : DataW.trod enc P w base spare held fuel e cs = some x) : cs.length = fs.size ∧ ∀ (j : Nat) (f : Field), fs[j]? = some f → ∃ v n y, cs[j]? = some v ∧ DataW.trod enc P w base spare held n f.type [v] = some y := by
  obtain ⟨xs, n, _, _, hlen, hxl, hf⟩ := DataW.trod_struct he h
  rw [hC] at hlen
  refine ⟨hlen, fun j f hj => ?_⟩
  obtain ⟨ho, hk⟩ := hone_of hone j f hj
  have hjl : j < fs.size := (Array.getElem?_eq_some_iff.1 hj).1
  have h1 := hf j f hj
  rw [ho, hk, List.drop_eq_getElem_cons (by omega), List.getElem?_eq_getElem (by omega)] at h1
  exact ⟨_, n, _, List.getElem?_eq_getElem (by omega), h1⟩
theorem add_at' (a : Addr) (j : Nat) (hs : a.spot = none) : a.add j = ⟨a.block, a.off + j, none⟩ := by
  obtain ⟨g, o, sp⟩ := a
  simp only at hs
  subst hs
  rw [Bw.add_none]
/-- A type of two whole numbers. -/
structure PairType (P : Program) (t : TypeId) : Prop where
  all : ∃ (fs : Array Field) (f0 f1 : Field), fs = #[f0, f1] ∧ P.underlying t = some (.struct fs) ∧ oneCellFields P fs = true ∧ P.cellsOf t = 2 ∧
    P.underlying f0.type = some (.int .i64) ∧ P.underlying f1.type = some (.int .i64)
theorem trod_pair {t : TypeId} (hT : PairType P t) {fuel : Nat} {cs : List Value} {x : DataW H × List MemPlace} (h : DataW.trod enc P w base spare held fuel t cs = some x) :
    ∃ r : Int × Int, cs = [.int .i64 r.1, .int .i64 r.2] := by
  obtain ⟨fs, f0, f1, rfl, ht, hone, hC, t0, t1⟩ := hT.all
  obtain ⟨hl, hf⟩ := trod_fields' ht hone hC h
  match cs, hl with
  | [c0, c1], _ =>
    obtain ⟨v0, n0, y0, r0, h0⟩ := hf 0 f0 rfl
    obtain ⟨v1, n1, y1, r1, h1⟩ := hf 1 f1 rfl
    obtain ⟨a0, q0, _, z0⟩ := DataW.trod_int t0 h0
    obtain ⟨a1, q1, _, z1⟩ := DataW.trod_int t1 h1
    simp at r0 r1 q0 q1
    subst r0 r1 q0 q1
    exact ⟨(a0, a1), rfl⟩
/-- A slice of leaves that came in. -/
theorem open_pairs {b0 : Nat} {r : Reach} {t e : TypeId} (ht : P.underlying t = some (.slice e)) (hT : PairType P e) {v : Value} {d : DataW H} {p : List MemPlace} (hv : Value.okWide P w r b0 t v) (h : DataW.Trod enc P w base (fun _ => true) held t v d p) :
    ∃ (a : Option Addr) (z : List LeafZ) (c : Nat), v = .slice a z.length c ∧ (z.length ≤ maxLen ∧ z.length ≤ c ∧ (a = none → c = 0) ∧ LeavesAt w a z) := by
  obtain ⟨a0, len0, cap0, rfl⟩ := okWide_slice ht hv
  obtain ⟨fuel, hf⟩ := h
  rcases open_slice ht hf with ⟨hcs, _⟩ | ⟨a, len, cap, m, n, D, Pl, hcs, hb, hl, hm, hmm, hx, hi⟩
  · simp [Value.cells] at hcs
    obtain ⟨rfl, rfl, rfl⟩ := hcs
    exact ⟨none, [], 0, rfl, by simp, by simp, fun _ => rfl, fun i hi => absurd hi (by simp)⟩
  · simp [Value.cells] at hcs
    obtain ⟨rfl, rfl, rfl⟩ := hcs
    simp only [if_true] at hmm
    subst hmm
    have hC : P.cellsOf e = 2 := by obtain ⟨_, _, _, rfl, _, _, hC, _⟩ := hT.all; exact hC
    have hspot : 0 < len0 → a.spot = none := fun h0 => by
      obtain ⟨cs', hc, ht'⟩ := hi 0 (by omega)
      rw [hC] at hc
      obtain ⟨r, rfl⟩ := trod_pair hT ht'
      obtain ⟨_, _, hat⟩ := World.cells?_some hc
      simpa [Addr.add] using World.cell?_spot (hat 0 (by omega))
    have key : ∀ i, ∃ q : Int × Int, i < len0 → ∃ g o, some a = some (⟨g, o, none⟩ : Addr) ∧ w.cell? ⟨g, o + i * 2, none⟩ = some (.int .i64 q.1) ∧ w.cell? ⟨g, o + i * 2 + 1, none⟩ = some (.int .i64 q.2) := by
      intro i
      by_cases hin : i < len0
      · obtain ⟨cs', hc, ht'⟩ := hi i (by omega)
        rw [hC] at hc
        obtain ⟨r, rfl⟩ := trod_pair hT ht'
        obtain ⟨_, _, hat⟩ := World.cells?_some hc
        have hsp := hspot (by omega)
        rw [add_at' a _ hsp] at hat
        obtain ⟨g, o, sp⟩ := a
        simp only at hsp hat
        subst hsp
        have hat2 : ∀ j, j < 2 → w.cell? ⟨g, o + i * 2 + j, none⟩ = [Value.int .i64 r.1, .int .i64 r.2][j]? := fun j hj => by have := hat j hj; rw [Bw.add_none] at this; exact this
        exact ⟨r, fun _ => ⟨g, o, rfl, hat2 0 (by omega), hat2 1 (by omega)⟩⟩
      · exact ⟨(0, 0), fun h => absurd h hin⟩
    obtain ⟨f, hf⟩ := Classical.axiomOfChoice key
    refine ⟨some a, (List.range len0).map f, _, by rw [List.length_map, List.length_range], by rw [List.length_map, List.length_range]; omega, by rw [List.length_map, List.length_range]; omega, fun h => (by cases h), fun i hi => ?_⟩
    simp only [List.length_map, List.length_range] at hi
    obtain ⟨g, o, e1, e2, e3⟩ := hf i hi
    refine ⟨g, o, e1, ?_, ?_⟩ <;> rw [List.getElem_map, List.getElem_range] <;> assumption
end
end Bw
namespace Go.Proofs.YthhbndepiofmeaaDoor
open Go.RowKit Bw
theorem leaf_type : PairType Tryd.prog 56 :=
  ⟨⟨_, _, _, rfl, Tryd.underlying56, by kernel_rfl, by kernel_rfl, Tryd.underlying3, Tryd.underlying3⟩⟩
end Go.Proofs.YthhbndepiofmeaaDoor
