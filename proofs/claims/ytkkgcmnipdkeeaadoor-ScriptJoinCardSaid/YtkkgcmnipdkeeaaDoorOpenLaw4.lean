/- Opening of arguments: records (a struct of eight fields, the last one a slice of pairs of texts) and slices of records. No program in sight. -/
import Derived.Test.YtkkgcmnipdkeeaaDoorOpenLaw
import Derived.Test.YtkkgcmnipdkeeaaDoorBytesLaw
import Derived.Test.YtkkgcmnipdkeeaaDoorRecPure
import Derived.Deep.Slices
import Derived.Deep.Fields
namespace Bw
open Go Go.ChangeShapes Go.WideShapes Go.ChangeAt Go.RowKit Go.Joins Go.Deep

/-- Where pairs lie, and that their texts are no longer than texts may be. -/
def PairsIn (w : World) (p : Option Addr) (l : List PairD) : Prop :=
  l.length ≤ maxLen ∧ (∀ q ∈ l, q.1.size ≤ maxLen ∧ q.2.size ≤ maxLen) ∧
  ∀ (i : Nat) (hi : i < l.length), ∃ g o, p = some ⟨g, o, none⟩ ∧ w.cell? ⟨g, o + i * 2, none⟩ = some (.string l[i].1) ∧ w.cell? ⟨g, o + i * 2 + 1, none⟩ = some (.string l[i].2)

section
variable {H : Type} {enc : TypeId × Value → H} {P : Program} {w : World} {base : Nat} {spare : Nat → Bool} {held : Bool}

/-- The cells of a struct of one-cell fields, each as it is read. -/
theorem trod_fields {e : TypeId} {fs : Array Field} {fuel : Nat} {cs : List Value} {x : DataW H × List MemPlace} (he : P.underlying e = some (.struct fs)) (hone : oneCellFields P fs = true) (hC : P.cellsOf e = fs.size)
    (h : DataW.trod enc P w base spare held fuel e cs = some x) : cs.length = fs.size ∧ ∀ (j : Nat) (f : Field), fs[j]? = some f → ∃ v n y, cs[j]? = some v ∧ DataW.trod enc P w base spare held n f.type [v] = some y := by
  obtain ⟨xs, n, _, _, hlen, hxl, hf⟩ := DataW.trod_struct he h
  rw [hC] at hlen
  refine ⟨hlen, fun j f hj => ?_⟩
  obtain ⟨ho, hk⟩ := hone_of hone j f hj
  have hjl : j < fs.size := (Array.getElem?_eq_some_iff.1 hj).1
  have h1 := hf j f hj
  rw [ho, hk, List.drop_eq_getElem_cons (by omega), List.getElem?_eq_getElem (by omega)] at h1
  exact ⟨_, n, _, List.getElem?_eq_getElem (by omega), h1⟩

theorem add_at (a : Addr) (j : Nat) (hs : a.spot = none) : a.add j = ⟨a.block, a.off + j, none⟩ := by
  obtain ⟨g, o, sp⟩ := a
  simp only at hs
  subst hs
  rw [Bw.add_none]

/-- A slice of pairs of texts. -/
theorem trod_pairs {t e s : TypeId} {f0 f1 : Field} {fuel : Nat} {cs : List Value} {x : DataW H × List MemPlace} (ht : P.underlying t = some (.slice e)) (he : P.underlying e = some (.struct #[f0, f1])) (hone : oneCellFields P #[f0, f1] = true) (hC : P.cellsOf e = 2)
    (h0 : f0.type = s) (h1 : f1.type = s) (hs : P.underlying s = some .string) (h : DataW.trod enc P w base spare held fuel t cs = some x) : ∃ p l c, cs = [.slice p l.length c] ∧ PairsIn w p l := by
  subst h0
  rcases open_slice ht h with ⟨rfl, _⟩ | ⟨a, len, cap, m, n, D, Pl, rfl, hb, hl, hm, hmm, hx, hi⟩
  · exact ⟨none, [], 0, rfl, by simp, by simp, fun i hi => absurd hi (by simp)⟩
  · have hlm : len ≤ m := by rw [hmm]; split <;> omega
    have hspot : 0 < m → a.spot = none := fun h0 => by
      obtain ⟨cs', hc, ht'⟩ := hi 0 h0
      rw [hC] at hc
      obtain ⟨hcl, hf⟩ := trod_fields he hone hC ht'
      obtain ⟨v0, n0, y0, e0, g0⟩ := hf 0 f0 rfl
      obtain ⟨_, _, hat⟩ := World.cells?_some hc
      simpa [Addr.add] using World.cell?_spot ((hat 0 (by omega)).trans e0)
    have key : ∀ i, ∃ q : PairD, i < m → q.1.size ≤ maxLen ∧ q.2.size ≤ maxLen ∧ ∃ g o, some a = some (⟨g, o, none⟩ : Addr) ∧ w.cell? ⟨g, o + i * 2, none⟩ = some (.string q.1) ∧ w.cell? ⟨g, o + i * 2 + 1, none⟩ = some (.string q.2) := by
      intro i
      by_cases him : i < m
      · obtain ⟨cs', hc, ht'⟩ := hi i him
        rw [hC] at hc
        obtain ⟨hcl, hf⟩ := trod_fields he hone hC ht'
        obtain ⟨v0, n0, y0, e0, g0⟩ := hf 0 f0 rfl
        obtain ⟨v1, n1, y1, e1, g1⟩ := hf 1 f1 rfl
        obtain ⟨s0, r0, _, z0⟩ := DataW.trod_string hs g0
        rw [h1] at g1
        obtain ⟨s1, r1, _, z1⟩ := DataW.trod_string hs g1
        simp only [List.cons.injEq, and_true] at r0 r1
        subst r0 r1
        obtain ⟨_, _, hat⟩ := World.cells?_some hc
        have c0 := (hat 0 (by omega)).trans e0
        have c1 := (hat 1 (by omega)).trans e1
        have hsp := hspot (by omega)
        rw [add_at a _ hsp, Bw.add_none] at c0 c1
        obtain ⟨g, o, sp⟩ := a
        simp only at hsp
        subst hsp
        exact ⟨(s0, s1), fun _ => ⟨z0, z1, g, o, rfl, c0, c1⟩⟩
      · exact ⟨(ByteArray.empty, ByteArray.empty), fun h => absurd h him⟩
    obtain ⟨f, hf⟩ := Classical.axiomOfChoice key
    refine ⟨some a, (List.range len).map f, cap, by simp, by simp; omega, ?_, fun i hi => ?_⟩
    · intro q hq
      obtain ⟨i, hi, rfl⟩ := List.mem_map.1 hq
      have := hf i (by have := List.mem_range.1 hi; omega)
      exact ⟨this.1, this.2.1⟩
    · simp only [List.length_map, List.length_range] at hi
      simp only [List.getElem_map, List.getElem_range]
      exact (hf i (by omega)).2.2

/-- A record's type. -/
structure RecType (P : Program) (t : TypeId) : Prop where
  all : ∃ (fs : Array Field) (s e : TypeId) (f0 f1 f2 f3 f4 f5 f6 f7 g0 g1 : Field) , fs = #[f0, f1, f2, f3, f4, f5, f6, f7] ∧ P.underlying t = some (.struct fs) ∧ oneCellFields P fs = true ∧ P.cellsOf t = 8 ∧
    P.underlying f0.type = some (.int .i64) ∧ P.underlying f1.type = some (.int .i64) ∧ P.underlying f2.type = some .string ∧ P.underlying f3.type = some .string ∧ P.underlying f4.type = some (.int .i64) ∧ P.underlying f5.type = some (.int .i64) ∧ P.underlying f6.type = some (.int .i64) ∧
    P.underlying f7.type = some (.slice e) ∧ P.underlying e = some (.struct #[g0, g1]) ∧ oneCellFields P #[g0, g1] = true ∧ P.cellsOf e = 2 ∧ g0.type = s ∧ g1.type = s ∧ P.underlying s = some .string

/-- What is known of a record that came in. -/
def RecIn (w : World) (r : RecD) (p : Option Addr) : Prop :=
  PairsIn w p r.l ∧ r.key.size ≤ maxLen ∧ r.val.size ≤ maxLen ∧ (Lit.int .i64 r.k).wf = true ∧ (Lit.int .i64 r.t).wf = true ∧ (Lit.int .i64 r.p).wf = true ∧ (Lit.int .i64 r.u).wf = true ∧ (Lit.int .i64 r.n).wf = true

theorem trod_rec {t : TypeId} (hT : RecType P t) {fuel : Nat} {cs : List Value} {x : DataW H × List MemPlace} (h : DataW.trod enc P w base spare held fuel t cs = some x) :
    ∃ r p c, cs = [.int .i64 r.k, .int .i64 r.t, .string r.key, .string r.val, .int .i64 r.p, .int .i64 r.u, .int .i64 r.n, .slice p r.l.length c] ∧ RecIn w r p := by
  obtain ⟨fs, s, e, f0, f1, f2, f3, f4, f5, f6, f7, g0, g1, rfl, ht, hone, hC, t0, t1, t2, t3, t4, t5, t6, t7, he, hone2, hC2, e0, e1, hs⟩ := hT.all
  obtain ⟨hl, hf⟩ := trod_fields ht hone hC h
  match cs, hl with
  | [c0, c1, c2, c3, c4, c5, c6, c7], _ =>
    obtain ⟨v0, n0, y0, r0, h0⟩ := hf 0 f0 rfl
    obtain ⟨v1, n1, y1, r1, h1⟩ := hf 1 f1 rfl
    obtain ⟨v2, n2, y2, r2, h2⟩ := hf 2 f2 rfl
    obtain ⟨v3, n3, y3, r3, h3⟩ := hf 3 f3 rfl
    obtain ⟨v4, n4, y4, r4, h4⟩ := hf 4 f4 rfl
    obtain ⟨v5, n5, y5, r5, h5⟩ := hf 5 f5 rfl
    obtain ⟨v6, n6, y6, r6, h6⟩ := hf 6 f6 rfl
    obtain ⟨v7, n7, y7, r7, h7⟩ := hf 7 f7 rfl
    obtain ⟨a0, q0, _, z0⟩ := DataW.trod_int t0 h0
    obtain ⟨a1, q1, _, z1⟩ := DataW.trod_int t1 h1
    obtain ⟨a2, q2, _, z2⟩ := DataW.trod_string t2 h2
    obtain ⟨a3, q3, _, z3⟩ := DataW.trod_string t3 h3
    obtain ⟨a4, q4, _, z4⟩ := DataW.trod_int t4 h4
    obtain ⟨a5, q5, _, z5⟩ := DataW.trod_int t5 h5
    obtain ⟨a6, q6, _, z6⟩ := DataW.trod_int t6 h6
    obtain ⟨p, l, c, q7, z7⟩ := trod_pairs t7 he hone2 hC2 e0 e1 hs h7
    simp at r0 r1 r2 r3 r4 r5 r6 r7 q0 q1 q2 q3 q4 q5 q6 q7
    subst r0 r1 r2 r3 r4 r5 r6 r7 q0 q1 q2 q3 q4 q5 q6 q7
    exact ⟨⟨a0, a1, a2, a3, a4, a5, a6, l⟩, p, c, rfl, z7, z2, z3, z0, z1, z4, z5, z6⟩

/-- A record that came in by value. -/
theorem open_rec {b0 : Nat} {r : Reach} {t : TypeId} (hT : RecType P t) {v : Value} {d : DataW H} {p : List MemPlace} (hv : Value.okWide P w r b0 t v) (h : DataW.Trod enc P w base (fun _ => true) held t v d p) :
    ∃ r p c, v = .agg #[.int .i64 r.k, .int .i64 r.t, .string r.key, .string r.val, .int .i64 r.p, .int .i64 r.u, .int .i64 r.n, .slice p r.l.length c] ∧ RecIn w r p := by
  obtain ⟨fs, s, e, f0, f1, f2, f3, f4, f5, f6, f7, g0, g1, rfl, ht, _⟩ := hT.all
  obtain ⟨cs, rfl, hsz⟩ := okWide_struct ht hv
  obtain ⟨fuel, hf⟩ := h
  obtain ⟨r, p, c, h1, h2⟩ := trod_rec hT hf
  refine ⟨r, p, c, ?_, h2⟩
  simp only [Value.cells] at h1
  congr 1
  exact Array.ext' (by simpa using h1)

/-- A slice of records that came in. -/
theorem open_recs {b0 : Nat} {r : Reach} {t e : TypeId} (ht : P.underlying t = some (.slice e)) (hT : RecType P e) {v : Value} {d : DataW H} {p : List MemPlace} (hv : Value.okWide P w r b0 t v) (h : DataW.Trod enc P w base (fun _ => true) held t v d p) :
    ∃ (a : Option Addr) (n c : Nat) (f : Nat → RecD) (pa : Nat → Option Addr) (ca : Nat → Nat), v = .slice a n c ∧ n ≤ maxLen ∧ ∀ i, i < n → RecIn w (f i) (pa i) ∧ ∃ g o, a = some ⟨g, o, none⟩ ∧ w.cell? ⟨g, o + i * 8, none⟩ = some (.int .i64 (f i).k) ∧ w.cell? ⟨g, o + i * 8 + 1, none⟩ = some (.int .i64 (f i).t) ∧
      w.cell? ⟨g, o + i * 8 + 2, none⟩ = some (.string (f i).key) ∧ w.cell? ⟨g, o + i * 8 + 3, none⟩ = some (.string (f i).val) ∧ w.cell? ⟨g, o + i * 8 + 4, none⟩ = some (.int .i64 (f i).p) ∧ w.cell? ⟨g, o + i * 8 + 5, none⟩ = some (.int .i64 (f i).u) ∧
      w.cell? ⟨g, o + i * 8 + 6, none⟩ = some (.int .i64 (f i).n) ∧ w.cell? ⟨g, o + i * 8 + 7, none⟩ = some (.slice (pa i) (f i).l.length (ca i)) := by
  obtain ⟨a0, len0, cap0, rfl⟩ := okWide_slice ht hv
  obtain ⟨fuel, hf⟩ := h
  rcases open_slice ht hf with ⟨hcs, _⟩ | ⟨a, len, cap, m, n, D, Pl, hcs, hb, hl, hm, hmm, hx, hi⟩
  · simp [Value.cells] at hcs
    obtain ⟨rfl, rfl, rfl⟩ := hcs
    exact ⟨none, 0, 0, fun _ => ⟨0, 0, ByteArray.empty, ByteArray.empty, 0, 0, 0, []⟩, fun _ => none, fun _ => 0, rfl, by simp, fun i hi => absurd hi (by omega)⟩
  · simp [Value.cells] at hcs
    obtain ⟨rfl, rfl, rfl⟩ := hcs
    simp only [if_true] at hmm
    subst hmm
    have hC : P.cellsOf e = 8 := by obtain ⟨_, _, _, _, _, _, _, _, _, _, _, _, _, rfl, _, _, hC, _⟩ := hT.all; exact hC
    have hspot : 0 < len0 → a.spot = none := fun h0 => by
      obtain ⟨cs', hc, ht'⟩ := hi 0 (by omega)
      rw [hC] at hc
      obtain ⟨r, p, c, rfl, hr⟩ := trod_rec hT ht'
      obtain ⟨_, _, hat⟩ := World.cells?_some hc
      simpa [Addr.add] using World.cell?_spot (hat 0 (by omega))
    have key : ∀ i, ∃ q : RecD × Option Addr × Nat, i < len0 → RecIn w q.1 q.2.1 ∧ ∃ g o, some a = some (⟨g, o, none⟩ : Addr) ∧ w.cell? ⟨g, o + i * 8, none⟩ = some (.int .i64 q.1.k) ∧ w.cell? ⟨g, o + i * 8 + 1, none⟩ = some (.int .i64 q.1.t) ∧
      w.cell? ⟨g, o + i * 8 + 2, none⟩ = some (.string q.1.key) ∧ w.cell? ⟨g, o + i * 8 + 3, none⟩ = some (.string q.1.val) ∧ w.cell? ⟨g, o + i * 8 + 4, none⟩ = some (.int .i64 q.1.p) ∧ w.cell? ⟨g, o + i * 8 + 5, none⟩ = some (.int .i64 q.1.u) ∧
      w.cell? ⟨g, o + i * 8 + 6, none⟩ = some (.int .i64 q.1.n) ∧ w.cell? ⟨g, o + i * 8 + 7, none⟩ = some (.slice q.2.1 q.1.l.length q.2.2) := by
      intro i
      by_cases hin : i < len0
      · obtain ⟨cs', hc, ht'⟩ := hi i (by omega)
        rw [hC] at hc
        obtain ⟨r, p, c, rfl, hr⟩ := trod_rec hT ht'
        obtain ⟨_, _, hat⟩ := World.cells?_some hc
        have hsp := hspot (by omega)
        rw [add_at a _ hsp] at hat
        obtain ⟨g, o, sp⟩ := a
        simp only at hsp hat
        subst hsp
        have hat2 : ∀ j, j < 8 → w.cell? ⟨g, o + i * 8 + j, none⟩ = [Value.int .i64 r.k, .int .i64 r.t, .string r.key, .string r.val, .int .i64 r.p, .int .i64 r.u, .int .i64 r.n, .slice p r.l.length c][j]? := fun j hj => by have := hat j hj; rw [Bw.add_none] at this; exact this
        exact ⟨(r, p, c), fun _ => ⟨hr, g, o, rfl, hat2 0 (by omega), hat2 1 (by omega), hat2 2 (by omega), hat2 3 (by omega), hat2 4 (by omega), hat2 5 (by omega), hat2 6 (by omega), hat2 7 (by omega)⟩⟩
      · exact ⟨(⟨0, 0, ByteArray.empty, ByteArray.empty, 0, 0, 0, []⟩, none, 0), fun h => absurd h hin⟩
    obtain ⟨f, hf⟩ := Classical.axiomOfChoice key
    exact ⟨some a, len0, _, fun i => (f i).1, fun i => (f i).2.1, fun i => (f i).2.2, rfl, by omega, hf⟩
end
end Bw
