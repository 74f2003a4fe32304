/- Opening of arguments: acts (a struct of two ints, two texts, an int and a slice of ints), and slices of them. -/
import Derived.Test.YtkkgcmnipdkeeaaDoorOpenLaw4
import Derived.Test.YtkkgcmnipdkeeaaDoorScInts
import Derived.Test.YtkkgcmnipdkeeaaDoorScPure
import Derived.Test.YtkkgcmnipdkeeaaDoorRecWalk1
namespace Bw
open Go Go.ChangeShapes Go.WideShapes Go.ChangeAt Go.RowKit Go.Joins Go.Deep
set_option linter.unusedVariables false
/-- Where an act's numbers lie, and that it is one. -/
def ActIn (w : World) (a : ActD) (p : Option Addr) (c : Nat) : Prop := (Lit.int .i64 a.k).wf = true ∧ (Lit.int .i64 a.t).wf = true ∧ a.key.size ≤ maxLen ∧ a.val.size ≤ maxLen ∧ (Lit.int .i64 a.n).wf = true ∧ a.f.length ≤ c ∧ c ≤ maxLen ∧ (p = none → c = 0) ∧ (∀ x ∈ a.f, (Lit.int .i64 x).wf = true) ∧ IntsAt w p a.f
section
variable {H : Type} {enc : TypeId × Value → H} {P : Program} {w : World} {base : Nat} {spare : Nat → Bool} {held : Bool}
/-- A slice of numbers, its capacity told. -/
theorem trod_ints' {t e : TypeId} {fuel : Nat} {cs : List Value} {x : DataW H × List MemPlace} (ht : P.underlying t = some (.slice e)) (he : P.underlying e = some (.int .i64)) (hce : P.cellsOf e = 1)
    (h : DataW.trod enc P w base spare held fuel t cs = some x) : ∃ p l c, cs = [.slice p l.length c] ∧ l.length ≤ c ∧ c ≤ maxLen ∧ (p = none → c = 0) ∧ (∀ k ∈ l, (Lit.int .i64 k).wf = true) ∧ IntsAt w p l := by
  rcases Go.ChangeShapes.open_ints ht he hce h with ⟨rfl, _⟩ | ⟨x, l, c, zs, rfl, _, hl, hm, hz, _, hcell, hws⟩
  · exact ⟨none, [], 0, rfl, by simp, by simp, fun _ => rfl, by simp, IntsAt.nil _ _⟩
  · have hzl : l ≤ zs.length := by rw [hz]; split <;> omega
    have hlen : (zs.take l).length = l := by rw [List.length_take]; omega
    refine ⟨some x, zs.take l, c, by rw [hlen], by omega, by omega, fun h => (by cases h), fun k hk => hws k (List.mem_of_mem_take hk), fun k hk => ?_⟩
    rw [hlen] at hk
    obtain ⟨g, o, sp⟩ := x
    have h0 := hcell 0 (by omega)
    have hsp : sp = none := by simpa [Addr.add] using World.cell?_spot h0
    subst hsp
    have hc := hcell k (by omega)
    rw [Bw.add_none] at hc
    refine ⟨g, o, rfl, ?_⟩
    rw [List.getElem_take, hc, List.getD_eq_getElem?_getD, List.getElem?_eq_getElem (by omega)]
    rfl
structure ActType (P : Program) (t : TypeId) : Prop where
  all : ∃ (fs : Array Field) (e : TypeId) (f0 f1 f2 f3 f4 f5 : Field), fs = #[f0, f1, f2, f3, f4, f5] ∧ P.underlying t = some (.struct fs) ∧ oneCellFields P fs = true ∧ P.cellsOf t = 6 ∧
    P.underlying f0.type = some (.int .i64) ∧ P.underlying f1.type = some (.int .i64) ∧ P.underlying f2.type = some .string ∧ P.underlying f3.type = some .string ∧ P.underlying f4.type = some (.int .i64) ∧ P.underlying f5.type = some (.slice e) ∧ P.underlying e = some (.int .i64) ∧ P.cellsOf e = 1
def actC (a : ActD) (p : Option Addr) (c : Nat) : List Value := [.int .i64 a.k, .int .i64 a.t, .string a.key, .string a.val, .int .i64 a.n, .slice p a.f.length c]
theorem trod_act {t : TypeId} (hT : ActType P t) {fuel : Nat} {cs : List Value} {x : DataW H × List MemPlace} (h : DataW.trod enc P w base spare held fuel t cs = some x) :
    ∃ a p c, cs = actC a p c ∧ ActIn w a p c := by
  obtain ⟨fs, e, f0, f1, f2, f3, f4, f5, rfl, ht, hone, hC, t0, t1, t2, t3, t4, t5, he, hce⟩ := hT.all
  obtain ⟨hl, hf⟩ := trod_fields ht hone hC h
  match cs, hl with
  | [c0, c1, c2, c3, c4, c5], _ =>
    obtain ⟨v0, n0, y0, r0, h0⟩ := hf 0 f0 rfl
    obtain ⟨v1, n1, y1, r1, h1⟩ := hf 1 f1 rfl
    obtain ⟨v2, n2, y2, r2, h2⟩ := hf 2 f2 rfl
    obtain ⟨v3, n3, y3, r3, h3⟩ := hf 3 f3 rfl
    obtain ⟨v4, n4, y4, r4, h4⟩ := hf 4 f4 rfl
    obtain ⟨v5, n5, y5, r5, h5⟩ := hf 5 f5 rfl
    obtain ⟨a0, q0, _, z0⟩ := DataW.trod_int t0 h0
    obtain ⟨a1, q1, _, z1⟩ := DataW.trod_int t1 h1
    obtain ⟨a2, q2, _, z2⟩ := DataW.trod_string t2 h2
    obtain ⟨a3, q3, _, z3⟩ := DataW.trod_string t3 h3
    obtain ⟨a4, q4, _, z4⟩ := DataW.trod_int t4 h4
    obtain ⟨p, l, c, q5, z5⟩ := trod_ints' t5 he hce h5
    simp at r0 r1 r2 r3 r4 r5 q0 q1 q2 q3 q4 q5
    subst r0 r1 r2 r3 r4 r5 q0 q1 q2 q3 q4 q5
    exact ⟨⟨a0, a1, a2, a3, a4, l⟩, p, c, rfl, z0, z1, z2, z3, z4, z5⟩
/-- An act that came in. -/
theorem open_act {b0 : Nat} {r : Reach} {t : TypeId} (hT : ActType P t) {v : Value} {d : DataW H} {p : List MemPlace} (hv : Value.okWide P w r b0 t v) (h : DataW.Trod enc P w base (fun _ => true) held t v d p) :
    ∃ (a : ActD) (q : Option Addr) (c : Nat), v = .agg #[.int .i64 a.k, .int .i64 a.t, .string a.key, .string a.val, .int .i64 a.n, .slice q a.f.length c] ∧ ActIn w a q c := by
  obtain ⟨fs, e, f0, f1, f2, f3, f4, f5, rfl, ht, _⟩ := hT.all
  obtain ⟨cs, rfl, hsz⟩ := okWide_struct ht hv
  obtain ⟨fuel, hf⟩ := h
  obtain ⟨a, q, c, hc, ha⟩ := trod_act hT hf
  refine ⟨a, q, c, ?_, ha⟩
  obtain ⟨cl⟩ := cs
  simp only [Value.cells] at hc
  subst hc
  rfl
/-- Where acts lie. -/
def ActsAt (w : World) (a : Option Addr) (n : Nat) (f : Nat → ActD) (pa : Nat → Option Addr) (ca : Nat → Nat) : Prop :=
  ∀ i, i < n → ActIn w (f i) (pa i) (ca i) ∧ ∃ g o, a = some ⟨g, o, none⟩ ∧ ∀ j, j < 6 → w.cell? ⟨g, o + i * 6 + j, none⟩ = (actC (f i) (pa i) (ca i))[j]?
/-- A slice of acts that came in. -/
theorem open_acts {b0 : Nat} {r : Reach} {t e : TypeId} (ht : P.underlying t = some (.slice e)) (hT : ActType P e) {v : Value} {d : DataW H} {p : List MemPlace} (hv : Value.okWide P w r b0 t v) (h : DataW.Trod enc P w base (fun _ => true) held t v d p) :
    ∃ (a : Option Addr) (n c : Nat) (f : Nat → ActD) (pa : Nat → Option Addr) (ca : Nat → Nat), v = .slice a n c ∧ n ≤ maxLen ∧ ActsAt w a n f pa ca := by
  obtain ⟨a0, len0, cap0, rfl⟩ := okWide_slice ht hv
  obtain ⟨fuel, hf⟩ := h
  rcases open_slice ht hf with ⟨hcs, _⟩ | ⟨a, len, cap, m, n, D, Pl, hcs, hb, hl, hm, hmm, hx, hi⟩
  · simp [Value.cells] at hcs
    obtain ⟨rfl, rfl, rfl⟩ := hcs
    exact ⟨none, 0, 0, fun _ => ⟨0, 0, ByteArray.empty, ByteArray.empty, 0, []⟩, fun _ => none, fun _ => 0, rfl, by simp, fun i hi => absurd hi (by omega)⟩
  · simp [Value.cells] at hcs
    obtain ⟨rfl, rfl, rfl⟩ := hcs
    simp only [if_true] at hmm
    subst hmm
    have hC : P.cellsOf e = 6 := by obtain ⟨_, _, _, _, _, _, _, _, rfl, _, _, hC, _⟩ := hT.all; exact hC
    have hspot : 0 < len0 → a.spot = none := fun h0 => by
      obtain ⟨cs', hc, ht'⟩ := hi 0 (by omega)
      rw [hC] at hc
      obtain ⟨r, p, c, rfl, hr⟩ := trod_act hT ht'
      obtain ⟨_, _, hat⟩ := World.cells?_some hc
      simpa [Addr.add] using World.cell?_spot (hat 0 (by omega))
    have key : ∀ i, ∃ q : ActD × Option Addr × Nat, i < len0 → ActIn w q.1 q.2.1 q.2.2 ∧ ∃ g o, some a = some (⟨g, o, none⟩ : Addr) ∧ ∀ j, j < 6 → w.cell? ⟨g, o + i * 6 + j, none⟩ = (actC q.1 q.2.1 q.2.2)[j]? := by
      intro i
      by_cases hin : i < len0
      · obtain ⟨cs', hc, ht'⟩ := hi i (by omega)
        rw [hC] at hc
        obtain ⟨r, p, c, rfl, hr⟩ := trod_act hT ht'
        obtain ⟨_, _, hat⟩ := World.cells?_some hc
        have hsp := hspot (by omega)
        rw [add_at a _ hsp] at hat
        obtain ⟨g, o, sp⟩ := a
        simp only at hsp hat
        subst hsp
        exact ⟨(r, p, c), fun _ => ⟨hr, g, o, rfl, fun j hj => by have := hat j hj; rw [Bw.add_none] at this; exact this⟩⟩
      · exact ⟨(⟨0, 0, ByteArray.empty, ByteArray.empty, 0, []⟩, none, 0), fun h => absurd h hin⟩
    obtain ⟨f, hf⟩ := Classical.axiomOfChoice key
    exact ⟨some a, len0, _, fun i => (f i).1, fun i => (f i).2.1, fun i => (f i).2.2, rfl, by omega, hf⟩
theorem ActIn.up {w w' : World} {a : ActD} {p : Option Addr} {c : Nat} (h : ActIn w a p c) (hu : Up w w') : ActIn w' a p c := by
  obtain ⟨h1, h2, h3, h4, h5, h6, h7, h8, h9, h10⟩ := h
  exact ⟨h1, h2, h3, h4, h5, h6, h7, h8, h9, h10.up hu⟩
theorem ActsAt.up {w w' : World} {a : Option Addr} {n : Nat} {f : Nat → ActD} {pa : Nat → Option Addr} {ca : Nat → Nat} (h : ActsAt w a n f pa ca) (hu : Up w w') : ActsAt w' a n f pa ca := fun i hi => by
  obtain ⟨h1, g, o, hq, hc⟩ := h i hi
  refine ⟨h1.up hu, g, o, hq, fun j hj => ?_⟩
  have h2 := hc j hj
  obtain ⟨v, hv⟩ : ∃ v, (actC (f i) (pa i) (ca i))[j]? = some v := ⟨_, List.getElem?_eq_getElem (by simp only [actC, List.length_cons, List.length_nil]; omega)⟩
  rw [hv] at h2 ⊢
  exact (AllS.of_up (S := fun _ => False) hu).cell h2 id
end
end Bw
namespace Go.Proofs.YtkkgcmnipdkeeaaDoor
open Go.RowKit Bw
theorem act_type : ActType Tryd.prog 24 :=
  ⟨⟨_, _, _, _, _, _, _, _, rfl, Tryd.underlying24, by kernel_rfl, by kernel_rfl, Tryd.underlying3, Tryd.underlying3, Tryd.underlying9, Tryd.underlying9, Tryd.underlying3, Tryd.underlying22, Tryd.underlying3, by kernel_rfl⟩⟩
end Go.Proofs.YtkkgcmnipdkeeaaDoor
