/- Small laws on worlds that have grown. No program in sight. -/
import Derived.Test.YthhbndepiofmeaaDoorRegionTail
namespace Bw
open Go Go.RowKit

/-- All old cells and marks read as before. -/
theorem ucell {W w1 : World} (hb : Below W.heap.size W w1) : (∀ b o, b < W.heap.size → w1.cell? ⟨b, o, none⟩ = W.cell? ⟨b, o, none⟩) ∧ (∀ b o, b < W.heap.size → w1.frozen? ⟨b, o, none⟩ = W.frozen? ⟨b, o, none⟩) :=
  ⟨fun b o h => hb.cell (p := ⟨b, o, none⟩) h, fun b o h => hb.frozen (p := ⟨b, o, none⟩) h⟩
theorem Up.setCell {W w : World} (h : Up W w) (b o : Nat) (v : Value) (hb : W.heap.size ≤ b) : Up W (w.setCell ⟨b, o, none⟩ v) := Below.setCell h hb v

/-- Block g begins with the cells l, and they may be written. -/
structure RowAt (w : World) (g : Nat) (l : List Value) : Prop where
  cell : ∀ j (h : j < l.length), w.cell? ⟨g, j, none⟩ = some l[j]
  free : ∀ j, j < l.length → w.frozen? ⟨g, j, none⟩ = false

theorem RowAt.lt {w : World} {g : Nat} {v : Value} {l : List Value} (h : RowAt w g (v :: l)) : g < w.heap.size :=
  World.block_lt_of_cell? w ⟨g, 0, none⟩ (h.cell 0 (by simp))
theorem RowAt.up {w w' : World} {g : Nat} {v : Value} {l : List Value} (h : RowAt w g (v :: l)) (hu : Below w.heap.size w w') : RowAt w' g (v :: l) :=
  ⟨fun j hj => (Below.cell (p := ⟨g, j, none⟩) hu h.lt).trans (h.cell j hj), fun j hj => (Below.frozen (p := ⟨g, j, none⟩) hu h.lt).trans (h.free j hj)⟩
theorem RowAt.drew {w : World} {g : Nat} {l : List Value} (h : RowAt w g l) : RowAt w.drew g l := ⟨h.cell, h.free⟩
theorem RowAt.alloc {w : World} {g : Nat} {v : Value} {l : List Value} (h : RowAt w g (v :: l)) (o : Obj) : RowAt (w.alloc o) g (v :: l) := h.up ((Below.refl _ w).alloc (Nat.le_refl _) o)
theorem RowAt.made (w : World) (e : TypeId) (l : List Value) : RowAt (w.alloc (.cells l.toArray e)) w.heap.size l :=
  ⟨fun j hj => (World.cell?_alloc_mark w _ e (0, 0) j).trans (by simp [hj]), fun j hj => (World.frozen?_alloc_mark w _ e 0 0 j).trans (by simp)⟩
theorem RowAt.set {w : World} {g : Nat} {l : List Value} (h : RowAt w g l) (i : Nat) (v : Value) (hi : i < l.length) : RowAt (w.setCell ⟨g, i, none⟩ v) g (l.set i v) := by
  refine ⟨fun j hj => ?_, fun j hj => ?_⟩
  · by_cases e : i = j
    · subst e
      rw [World.cell?_setCell_same _ _ _ (h.cell i hi)]
      simp
    · rw [World.cell?_setCell_other _ _ _ _ (show (⟨g, i, none⟩ : Addr) ≠ ⟨g, j, none⟩ from fun h' => e (by have := congrArg Addr.off h'; simpa using this))]
      rw [List.getElem_set_ne e]
      exact h.cell j (by simpa using hj)
  · rw [World.frozen?_setCell]
    exact h.free j (by simpa using hj)
theorem RowAt.other {w : World} {g : Nat} {l : List Value} (h : RowAt w g l) (g' i : Nat) (v : Value) (hg : g' ≠ g) : RowAt (w.setCell ⟨g', i, none⟩ v) g l := by
  refine ⟨fun j hj => ?_, fun j hj => ?_⟩
  · rw [World.cell?_setCell_other _ _ _ _ (show (⟨g', i, none⟩ : Addr) ≠ ⟨g, j, none⟩ from fun h' => hg (by have := congrArg Addr.block h'; simpa using this))]
    exact h.cell j hj
  · rw [World.frozen?_setCell]
    exact h.free j hj
theorem RowAt.c2 {w : World} {g : Nat} {a b : Value} (h : RowAt w g [a, b]) : w.cell? ⟨g, 0, none⟩ = some a ∧ w.cell? ⟨g, 1, none⟩ = some b ∧ w.frozen? ⟨g, 0, none⟩ = false ∧ w.frozen? ⟨g, 1, none⟩ = false :=
  ⟨h.cell 0 (by simp), h.cell 1 (by simp), h.free 0 (by simp), h.free 1 (by simp)⟩
theorem RowAt.c3 {w : World} {g : Nat} {a b c : Value} (h : RowAt w g [a, b, c]) : w.cell? ⟨g, 0, none⟩ = some a ∧ w.cell? ⟨g, 1, none⟩ = some b ∧ w.cell? ⟨g, 2, none⟩ = some c ∧ w.frozen? ⟨g, 0, none⟩ = false ∧ w.frozen? ⟨g, 1, none⟩ = false ∧ w.frozen? ⟨g, 2, none⟩ = false :=
  ⟨h.cell 0 (by simp), h.cell 1 (by simp), h.cell 2 (by simp), h.free 0 (by simp), h.free 1 (by simp), h.free 2 (by simp)⟩
theorem RowAt.c5 {w : World} {g : Nat} {a b c d e : Value} (h : RowAt w g [a, b, c, d, e]) : w.cell? ⟨g, 0, none⟩ = some a ∧ w.cell? ⟨g, 1, none⟩ = some b ∧ w.cell? ⟨g, 2, none⟩ = some c ∧ w.cell? ⟨g, 3, none⟩ = some d ∧ w.cell? ⟨g, 4, none⟩ = some e ∧ w.frozen? ⟨g, 0, none⟩ = false ∧ w.frozen? ⟨g, 1, none⟩ = false ∧ w.frozen? ⟨g, 2, none⟩ = false ∧ w.frozen? ⟨g, 3, none⟩ = false ∧ w.frozen? ⟨g, 4, none⟩ = false :=
  ⟨h.cell 0 (by simp), h.cell 1 (by simp), h.cell 2 (by simp), h.cell 3 (by simp), h.cell 4 (by simp), h.free 0 (by simp), h.free 1 (by simp), h.free 2 (by simp), h.free 3 (by simp), h.free 4 (by simp)⟩
theorem RowAt.c8 {w : World} {g : Nat} {a0 a1 a2 a3 a4 a5 a6 a7 : Value} (h : RowAt w g [a0, a1, a2, a3, a4, a5, a6, a7]) : w.cell? ⟨g, 0, none⟩ = some a0 ∧ w.cell? ⟨g, 1, none⟩ = some a1 ∧ w.cell? ⟨g, 2, none⟩ = some a2 ∧ w.cell? ⟨g, 3, none⟩ = some a3 ∧ w.cell? ⟨g, 4, none⟩ = some a4 ∧ w.cell? ⟨g, 5, none⟩ = some a5 ∧ w.cell? ⟨g, 6, none⟩ = some a6 ∧ w.cell? ⟨g, 7, none⟩ = some a7 ∧ w.frozen? ⟨g, 0, none⟩ = false ∧ w.frozen? ⟨g, 1, none⟩ = false ∧ w.frozen? ⟨g, 2, none⟩ = false ∧ w.frozen? ⟨g, 3, none⟩ = false ∧ w.frozen? ⟨g, 4, none⟩ = false ∧ w.frozen? ⟨g, 5, none⟩ = false ∧ w.frozen? ⟨g, 6, none⟩ = false ∧ w.frozen? ⟨g, 7, none⟩ = false :=
  ⟨h.cell 0 (by simp), h.cell 1 (by simp), h.cell 2 (by simp), h.cell 3 (by simp), h.cell 4 (by simp), h.cell 5 (by simp), h.cell 6 (by simp), h.cell 7 (by simp), h.free 0 (by simp), h.free 1 (by simp), h.free 2 (by simp), h.free 3 (by simp), h.free 4 (by simp), h.free 5 (by simp), h.free 6 (by simp), h.free 7 (by simp)⟩
end Bw
