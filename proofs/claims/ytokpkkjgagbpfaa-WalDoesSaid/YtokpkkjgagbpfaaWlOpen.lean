/- Opening of arguments: slices of the log's calls (a struct of a number, a text and a slice of numbers), slices of numbers. -/
import Derived.Test.YtokpkkjgagbpfaaOpenLaw
import Derived.Test.YtokpkkjgagbpfaaBytesLaw
import Derived.Test.YtokpkkjgagbpfaaDsWalkM
import Derived.Deep.Slices
import Derived.Deep.Fields
namespace Bw
open Go Go.ChangeShapes Go.WideShapes Go.ChangeAt Go.RowKit Go.Joins Go.Deep

/-- A call of a script. -/
structure OpD where
  k : Int
  s : ByteArray
  f : List Int
/-- Where numbers lie, and that each is one. -/
def IntsIn (w : World) (p : Option Addr) (l : List Int) : Prop := l.length ≤ maxLen ∧ (∀ k ∈ l, (Lit.int .i64 k).wf = true) ∧ IntsAt w p l
def OpIn (w : World) (r : OpD) (p : Option Addr) (c : Nat) : Prop := (Lit.int .i64 r.k).wf = true ∧ r.s.size ≤ maxLen ∧ r.f.length ≤ c ∧ IntsIn w p r.f

section
variable {H : Type} {enc : TypeId × Value → H} {P : Program} {w : World} {base : Nat} {spare : Nat → Bool} {held : Bool}

/-- The cells of a struct of one-cell fields, each as it is read. -/
theorem trod_fields {e : TypeId} {fs : Array Field} {fuel : Nat} {cs : List Value} {x : DataW H × List MemPlace} (he : P.underlying e = some (.struct fs)) (hone : oneCellFields P fs = true) (hC : P.cellsOf e = fs.size)
    (h : DataW.trod enc P w base spare held fuel e cs = some x) : cs.length = fs.size ∧ ∀ (j : Nat) (f : Field), fs[j]? = some f → ∃ v n y, cs[j]? = some v ∧ DataW.trod enc P w base spare held n f.type [v] = some y := by
  obtain ⟨xs, n, _, _, hlen, hxl, hf⟩ := DataW.trod_struct he h
  rw [hC] at hlen
  refine ⟨hlen, fun j f hj => ?_⟩
  obtain ⟨ho, hk⟩ := hone_of hone j f hj
  have hjl : j < fs.size := (Array.getElem?_eq_some_iff.1 hj).1
  have h1 := hf j f hj
  rw [ho, hk, List.drop_eq_getElem_cons (by omega), List.getElem?_eq_getElem (by omega)] at h1
  exact ⟨_, n, _, List.getElem?_eq_getElem (by omega), h1⟩

theorem add_at (a : Addr) (j : Nat) (hs : a.spot = none) : a.add j = ⟨a.block, a.off + j, none⟩ := by
  obtain ⟨g, o, sp⟩ := a
  simp only at hs
  subst hs
  rw [Bw.add_none]


/-- A slice of numbers. -/
theorem trod_ints {t e : TypeId} {fuel : Nat} {cs : List Value} {x : DataW H × List MemPlace} (ht : P.underlying t = some (.slice e)) (he : P.underlying e = some (.int .i64)) (hce : P.cellsOf e = 1)
    (h : DataW.trod enc P w base spare held fuel t cs = some x) : ∃ p l c, cs = [.slice p l.length c] ∧ l.length ≤ c ∧ IntsIn w p l := by
  rcases Go.ChangeShapes.open_ints ht he hce h with ⟨rfl, _⟩ | ⟨x, l, c, zs, rfl, _, hl, hm, hz, _, hcell, hws⟩
  · exact ⟨none, [], 0, rfl, by simp, by simp, by simp, IntsAt.nil _ _⟩
  · have hzl : l ≤ zs.length := by rw [hz]; split <;> omega
    have hlen : (zs.take l).length = l := by rw [List.length_take]; omega
    refine ⟨some x, zs.take l, c, by rw [hlen], by omega, by omega, fun k hk => hws k (List.mem_of_mem_take hk), fun k hk => ?_⟩
    rw [hlen] at hk
    obtain ⟨g, o, sp⟩ := x
    have h0 := hcell 0 (by omega)
    have hsp : sp = none := by simpa [Addr.add] using World.cell?_spot h0
    subst hsp
    have hc := hcell k (by omega)
    rw [Bw.add_none] at hc
    refine ⟨g, o, rfl, ?_⟩
    rw [List.getElem_take, hc, List.getD_eq_getElem?_getD, List.getElem?_eq_getElem (by omega)]
    rfl

/-- A call's type. -/
structure OpType (P : Program) (t : TypeId) : Prop where
  all : ∃ (fs : Array Field) (e : TypeId) (f0 f2 f3 : Field), fs = #[f0, f2, f3] ∧ P.underlying t = some (.struct fs) ∧ oneCellFields P fs = true ∧ P.cellsOf t = 3 ∧
    P.underlying f0.type = some (.int .i64) ∧ P.underlying f2.type = some .string ∧ P.underlying f3.type = some (.slice e) ∧ P.underlying e = some (.int .i64) ∧ P.cellsOf e = 1

theorem trod_op {t : TypeId} (hT : OpType P t) {fuel : Nat} {cs : List Value} {x : DataW H × List MemPlace} (h : DataW.trod enc P w base spare held fuel t cs = some x) :
    ∃ r p c, cs = [.int .i64 r.k, .string r.s, .slice p r.f.length c] ∧ OpIn w r p c := by
  obtain ⟨fs, e, f0, f2, f3, rfl, ht, hone, hC, t0, t2, t3, he, hce⟩ := hT.all
  obtain ⟨hl, hf⟩ := trod_fields ht hone hC h
  match cs, hl with
  | [c0, c2, c3], _ =>
    obtain ⟨v0, n0, y0, r0, h0⟩ := hf 0 f0 rfl
    obtain ⟨v2, n2, y2, r2, h2⟩ := hf 1 f2 rfl
    obtain ⟨v3, n3, y3, r3, h3⟩ := hf 2 f3 rfl
    obtain ⟨a0, q0, _, z0⟩ := DataW.trod_int t0 h0
    obtain ⟨a2, q2, _, z2⟩ := DataW.trod_string t2 h2
    obtain ⟨p, l, c, q3, z3⟩ := trod_ints t3 he hce h3
    simp at r0 r2 r3 q0 q2 q3
    subst r0 r2 r3 q0 q2 q3
    exact ⟨⟨a0, a2, l⟩, p, c, rfl, z0, z2, z3⟩

/-- Where calls lie. -/
def OpsAt (w : World) (a : Option Addr) (n : Nat) (f : Nat → OpD) (pa : Nat → Option Addr) (ca : Nat → Nat) : Prop :=
  ∀ i, i < n → OpIn w (f i) (pa i) (ca i) ∧ ∃ g o, a = some ⟨g, o, none⟩ ∧ w.cell? ⟨g, o + i * 3, none⟩ = some (.int .i64 (f i).k) ∧
      w.cell? ⟨g, o + i * 3 + 1, none⟩ = some (.string (f i).s) ∧ w.cell? ⟨g, o + i * 3 + 2, none⟩ = some (.slice (pa i) (f i).f.length (ca i))
/-- A slice of calls that came in. -/
theorem open_ops {b0 : Nat} {r : Reach} {t e : TypeId} (ht : P.underlying t = some (.slice e)) (hT : OpType P e) {v : Value} {d : DataW H} {p : List MemPlace} (hv : Value.okWide P w r b0 t v) (h : DataW.Trod enc P w base (fun _ => true) held t v d p) :
    ∃ (a : Option Addr) (n c : Nat) (f : Nat → OpD) (pa : Nat → Option Addr) (ca : Nat → Nat), v = .slice a n c ∧ n ≤ maxLen ∧ OpsAt w a n f pa ca := by
  obtain ⟨a0, len0, cap0, rfl⟩ := okWide_slice ht hv
  obtain ⟨fuel, hf⟩ := h
  rcases open_slice ht hf with ⟨hcs, _⟩ | ⟨a, len, cap, m, n, D, Pl, hcs, hb, hl, hm, hmm, hx, hi⟩
  · simp [Value.cells] at hcs
    obtain ⟨rfl, rfl, rfl⟩ := hcs
    exact ⟨none, 0, 0, fun _ => ⟨0, ByteArray.empty, []⟩, fun _ => none, fun _ => 0, rfl, by simp, fun i hi => absurd hi (by omega)⟩
  · simp [Value.cells] at hcs
    obtain ⟨rfl, rfl, rfl⟩ := hcs
    simp only [if_true] at hmm
    subst hmm
    have hC : P.cellsOf e = 3 := by obtain ⟨_, _, _, _, _, rfl, _, _, hC, _⟩ := hT.all; exact hC
    have hspot : 0 < len0 → a.spot = none := fun h0 => by
      obtain ⟨cs', hc, ht'⟩ := hi 0 (by omega)
      rw [hC] at hc
      obtain ⟨r, p, c, rfl, hr⟩ := trod_op hT ht'
      obtain ⟨_, _, hat⟩ := World.cells?_some hc
      simpa [Addr.add] using World.cell?_spot (hat 0 (by omega))
    have key : ∀ i, ∃ q : OpD × Option Addr × Nat, i < len0 → OpIn w q.1 q.2.1 q.2.2 ∧ ∃ g o, some a = some (⟨g, o, none⟩ : Addr) ∧ w.cell? ⟨g, o + i * 3, none⟩ = some (.int .i64 q.1.k) ∧
      w.cell? ⟨g, o + i * 3 + 1, none⟩ = some (.string q.1.s) ∧ w.cell? ⟨g, o + i * 3 + 2, none⟩ = some (.slice q.2.1 q.1.f.length q.2.2) := by
      intro i
      by_cases hin : i < len0
      · obtain ⟨cs', hc, ht'⟩ := hi i (by omega)
        rw [hC] at hc
        obtain ⟨r, p, c, rfl, hr⟩ := trod_op hT ht'
        obtain ⟨_, _, hat⟩ := World.cells?_some hc
        have hsp := hspot (by omega)
        rw [add_at a _ hsp] at hat
        obtain ⟨g, o, sp⟩ := a
        simp only at hsp hat
        subst hsp
        have hat2 : ∀ j, j < 3 → w.cell? ⟨g, o + i * 3 + j, none⟩ = [Value.int .i64 r.k, .string r.s, .slice p r.f.length c][j]? := fun j hj => by have := hat j hj; rw [Bw.add_none] at this; exact this
        exact ⟨(r, p, c), fun _ => ⟨hr, g, o, rfl, hat2 0 (by omega), hat2 1 (by omega), hat2 2 (by omega)⟩⟩
      · exact ⟨(⟨0, ByteArray.empty, []⟩, none, 0), fun h => absurd h hin⟩
    obtain ⟨f, hf⟩ := Classical.axiomOfChoice key
    exact ⟨some a, len0, _, fun i => (f i).1, fun i => (f i).2.1, fun i => (f i).2.2, rfl, by omega, hf⟩
theorem OpsAt.up {w w' : World} {a : Option Addr} {n : Nat} {f : Nat → OpD} {pa : Nat → Option Addr} {ca : Nat → Nat} (h : OpsAt w a n f pa ca) (hu : Up w w') : OpsAt w' a n f pa ca := fun i hi => by
  obtain ⟨⟨h1, h3, h3', h4, h5, h6⟩, g, o, rfl, c0, c2, c3⟩ := h i hi
  have hc : ∀ {p : Addr} {v : Value}, w.cell? p = some v → w'.cell? p = some v := fun {p v} h => (AllS.of_up (S := fun _ => False) hu).cell h id
  exact ⟨⟨h1, h3, h3', h4, h5, h6.up hu⟩, g, o, rfl, hc c0, hc c2, hc c3⟩
end
end Bw
namespace Go.Proofs.Ytokpkkjgagbpfaa
open Go.RowKit Bw
theorem op_type : OpType Try.prog 39 :=
  ⟨⟨_, _, _, _, _, rfl, Try.underlying39, by kernel_rfl, by kernel_rfl, Try.underlying3, Try.underlying9, Try.underlying37, Try.underlying3, by kernel_rfl⟩⟩
end Go.Proofs.Ytokpkkjgagbpfaa
namespace Bw
open Go Go.ChangeShapes Go.WideShapes Go.ChangeAt Go.RowKit Go.Joins Go.Deep
section
variable {H : Type} {enc : TypeId × Value → H} {P : Program} {w : World} {base : Nat} {spare : Nat → Bool} {held : Bool}
/-- A slice of numbers that came in. -/
theorem open_intsv {b0 : Nat} {r : Reach} {t e : TypeId} (ht : P.underlying t = some (.slice e)) (he : P.underlying e = some (.int .i64)) (hce : P.cellsOf e = 1) {v : Value} {d : DataW H} {p : List MemPlace}
    (hv : Value.okWide P w r b0 t v) (h : DataW.Trod enc P w base (fun _ => true) held t v d p) : ∃ (a : Option Addr) (z : List Int) (c : Nat), v = .slice a z.length c ∧ (z.length ≤ c ∧ IntsIn w a z) := by
  obtain ⟨a0, len0, cap0, rfl⟩ := okWide_slice ht hv
  obtain ⟨fuel, hf⟩ := h
  obtain ⟨p, l, c, h1, h2, h3⟩ := trod_ints ht he hce hf
  simp [Value.cells] at h1
  obtain ⟨rfl, rfl, rfl⟩ := h1
  exact ⟨_, l, _, rfl, h2, h3⟩
end
end Bw
