/- Opening of arguments: leaves (a struct of a slice of pairs, a text and an int) and pairs. -/
import Derived.Test.YtdlcmbnbfghdmaaOpenLaw4
import Derived.Test.YtdlcmbnbfghdmaaLfWalk1
namespace Bw
open Go Go.ChangeShapes Go.WideShapes Go.ChangeAt Go.RowKit Go.Joins Go.Deep
section
variable {H : Type} {enc : TypeId × Value → H} {P : Program} {w : World} {base : Nat} {spare : Nat → Bool} {held : Bool}
structure LeafType (P : Program) (t : TypeId) : Prop where
  all : ∃ (fs : Array Field) (s e : TypeId) (f0 f1 f2 g0 g1 : Field), fs = #[f0, f1, f2] ∧ P.underlying t = some (.struct fs) ∧ oneCellFields P fs = true ∧ P.cellsOf t = 3 ∧
    P.underlying f0.type = some (.slice e) ∧ P.underlying f1.type = some .string ∧ P.underlying f2.type = some (.int .i64) ∧ P.underlying e = some (.struct #[g0, g1]) ∧ oneCellFields P #[g0, g1] = true ∧ P.cellsOf e = 2 ∧ g0.type = s ∧ g1.type = s ∧ P.underlying s = some .string
theorem open_leaf {b0 : Nat} {r : Reach} {t : TypeId} (hT : LeafType P t) {v : Value} {d : DataW H} {p : List MemPlace} (hv : Value.okWide P w r b0 t v) (h : DataW.Trod enc P w base (fun _ => true) held t v d p) :
    ∃ (l : List PairD) (s : ByteArray) (n : Int) (p : Option Addr) (c : Nat), v = .agg #[.slice p l.length c, .string s, .int .i64 n] ∧ PairsIn w p l ∧ s.size ≤ maxLen ∧ (Lit.int .i64 n).wf = true := by
  obtain ⟨fs, s, e, f0, f1, f2, g0, g1, rfl, ht, hone, hC, t0, t1, t2, he, hone2, hC2, e0, e1, hs⟩ := hT.all
  obtain ⟨cs, rfl, hsz⟩ := okWide_struct ht hv
  obtain ⟨fuel, hf⟩ := h
  obtain ⟨hl, hf⟩ := trod_fields ht hone hC hf
  obtain ⟨v0, n0, y0, r0, h0⟩ := hf 0 f0 rfl
  obtain ⟨v1, n1, y1, r1, h1⟩ := hf 1 f1 rfl
  obtain ⟨v2, n2, y2, r2, h2⟩ := hf 2 f2 rfl
  obtain ⟨p, l, c, q0, z0⟩ := trod_pairs t0 he hone2 hC2 e0 e1 hs h0
  obtain ⟨a1, q1, _, z1⟩ := DataW.trod_string t1 h1
  obtain ⟨a2, q2, _, z2⟩ := DataW.trod_int t2 h2
  simp only [Value.cells] at hl r0 r1 r2
  simp at r0 r1 r2 q0 q1 q2
  subst q0 q1 q2
  obtain ⟨cl⟩ := cs
  refine ⟨l, a1, a2, p, c, ?_, z0, z1, z2⟩
  simp at hl r0 r1 r2
  match cl, hl with
  | [c0, c1, c2], _ =>
    simp at r0 r1 r2
    subst r0 r1 r2
    rfl
structure PairType (P : Program) (e : TypeId) : Prop where
  all : ∃ (s : TypeId) (g0 g1 : Field), P.underlying e = some (.struct #[g0, g1]) ∧ oneCellFields P #[g0, g1] = true ∧ P.cellsOf e = 2 ∧ g0.type = s ∧ g1.type = s ∧ P.underlying s = some .string
theorem open_pair {b0 : Nat} {r : Reach} {t : TypeId} (hT : PairType P t) {v : Value} {d : DataW H} {p : List MemPlace} (hv : Value.okWide P w r b0 t v) (h : DataW.Trod enc P w base (fun _ => true) held t v d p) :
    ∃ (a b : ByteArray), v = .agg #[.string a, .string b] ∧ a.size ≤ maxLen ∧ b.size ≤ maxLen := by
  obtain ⟨s, g0, g1, ht, hone, hC, e0, e1, hs⟩ := hT.all
  obtain ⟨cs, rfl, hsz⟩ := okWide_struct ht hv
  obtain ⟨fuel, hf⟩ := h
  obtain ⟨hl, hf⟩ := trod_fields ht hone hC hf
  obtain ⟨v0, n0, y0, r0, h0⟩ := hf 0 g0 rfl
  obtain ⟨v1, n1, y1, r1, h1⟩ := hf 1 g1 rfl
  rw [e0] at h0
  rw [e1] at h1
  obtain ⟨a0, q0, _, z0⟩ := DataW.trod_string hs h0
  obtain ⟨a1, q1, _, z1⟩ := DataW.trod_string hs h1
  simp only [Value.cells] at hl r0 r1
  simp at r0 r1 q0 q1
  subst q0 q1
  obtain ⟨cl⟩ := cs
  refine ⟨a0, a1, ?_, z0, z1⟩
  simp at hl r0 r1
  match cl, hl with
  | [c0, c1], _ =>
    simp at r0 r1
    subst r0 r1
    rfl
/-- A slice of pairs that came in. -/
theorem open_pairsl {b0 : Nat} {r : Reach} {t e : TypeId} (ht : P.underlying t = some (.slice e)) (hT : PairType P e) {v : Value} {d : DataW H} {p : List MemPlace} (hv : Value.okWide P w r b0 t v) (h : DataW.Trod enc P w base (fun _ => true) held t v d p) :
    ∃ (l : List PairD) (p : Option Addr) (c : Nat), v = .slice p l.length c ∧ PairsIn w p l := by
  obtain ⟨s, g0, g1, he, hone, hC, e0, e1, hs⟩ := hT.all
  obtain ⟨a0, len0, cap0, rfl⟩ := okWide_slice ht hv
  obtain ⟨fuel, hf⟩ := h
  obtain ⟨p, l, c, q0, z0⟩ := trod_pairs ht he hone hC e0 e1 hs hf
  refine ⟨l, p, c, ?_, z0⟩
  simpa [Value.cells] using q0
end
end Bw
namespace Go.Proofs.Ytdlcmbnbfghdmaa
open Go.RowKit Bw
theorem leaf_type : LeafType Try.prog 24 := ⟨⟨_, _, _, _, _, _, _, _, rfl, Try.underlying24, by kernel_rfl, by kernel_rfl, by kernel_rfl, by kernel_rfl, by kernel_rfl, Try.underlying44, by kernel_rfl, by kernel_rfl, rfl, rfl, Try.underlying9⟩⟩
theorem pair_type : PairType Try.prog 44 := ⟨⟨_, _, _, Try.underlying44, by kernel_rfl, by kernel_rfl, rfl, rfl, Try.underlying9⟩⟩
end Go.Proofs.Ytdlcmbnbfghdmaa
