/- Slices of numbers in memory (for any seat). No program in sight. -/
import Derived.Test.YtkkgcmnipdkeeaaDoorHold
import Derived.Test.YtkkgcmnipdkeeaaDoorOpenLaw
namespace Bw
open Go Go.ChangeShapes Go.WideShapes Go.ChangeAt Go.RowKit Go.Joins Go.Deep
set_option linter.unusedVariables false
/-- A slice of ints reads as l. -/
def IntsAt (w : World) (v : Option Addr) (l : List Int) : Prop := ∀ k (h : k < l.length), ∃ g o, v = some ⟨g, o, none⟩ ∧ w.cell? ⟨g, o + k, none⟩ = some (.int .i64 l[k])
theorem IntsAt.allS {S : Nat → Prop} {w w' : World} {v : Option Addr} {l : List Int} (h : IntsAt w v l) (ha : AllS S w w') (hv : l ≠ [] → ∀ a, v = some a → ¬ S a.block) : IntsAt w' v l := fun k hk => by
  obtain ⟨g, o, e, hc⟩ := h k hk
  exact ⟨g, o, e, ha.cell hc (hv (fun e => by subst e; simp at hk) ⟨g, o, none⟩ e)⟩
theorem IntsAt.up {w w' : World} {v : Option Addr} {l : List Int} (h : IntsAt w v l) (hu : Up w w') : IntsAt w' v l := h.allS (S := fun _ => False) (.of_up hu) fun _ _ _ => id
theorem IntsAt.nil (w : World) (v : Option Addr) : IntsAt w v [] := fun k hk => absurd hk (by simp)
theorem IntsAt.take {w : World} {v : Option Addr} {l : List Int} (h : IntsAt w v l) (n : Nat) : IntsAt w v (l.take n) := fun k hk => by
  have hk' : k < l.length := by rw [List.length_take] at hk; omega
  obtain ⟨g, o, e, hc⟩ := h k hk'
  exact ⟨g, o, e, by rw [List.getElem_take]; exact hc⟩
/-- Numbers in blocks of their own, as a thing in memory. -/
def intsR (v : Option Addr) (l : List Int) : Res := ⟨fun k => ∃ x, v = some x ∧ x.block = k, fun w => IntsAt w v l ∧ ∀ x, v = some x → x.block < w.heap.size,
  fun hA hk h => ⟨h.1.allS hA fun _ x hx => hk _ ⟨x, hx, rfl⟩, fun x hx => Nat.lt_of_lt_of_le (h.2 x hx) hA.size⟩, fun h hk => by obtain ⟨x, hx, rfl⟩ := hk; exact h.2 x hx⟩
def intC (l : List Int) : List Value := l.map (Value.int .i64)
/-- A slice of the law's own of one-cell numbers reads as these. -/
theorem own_ints {w : World} {e : TypeId} {q : Option Addr} {n c : Nat} {l : List Int} (h : (ownZ e 1 (.slice q n c) n (intC l)).holds w) (hn : n = l.length) : IntsAt w q l ∧ n ≤ c ∧ (q = none → c = 0) ∧ ∀ x, q = some x → x.block < w.heap.size := by
  have h' : w.ownsRow 0 e 1 (.slice q n c) n (intC l) := h
  have hlt := fun k hk => (World.ownsRow.lt h' k hk).2
  rcases h'.2 with ⟨h1, h2⟩ | ⟨g, cap, cur, h1, h3, h4, h5, -⟩
  · injection h1 with e1 e2 e3
    subst e1 e3
    have : l = [] := List.eq_nil_of_length_eq_zero (by omega)
    subst this
    exact ⟨IntsAt.nil _ _, by omega, fun _ => rfl, fun x hx => by cases hx⟩
  · injection h1 with e1 e2 e3
    subst e1 e3
    refine ⟨fun k hk => ⟨g, 0, rfl, ?_⟩, h5, fun h => (by cases h), fun x hx => ?_⟩
    · have := World.ownsRow.cellAt h' k (by omega)
      rw [Nat.zero_add, this]
      unfold intC
      rw [List.getElem?_map, List.getElem?_eq_getElem hk]
      rfl
    · injection hx with hx
      subst hx
      exact hlt g rfl
theorem intC_append (a b : List Int) : intC (a ++ b) = intC a ++ intC b := by simp [intC]
theorem intC_length (a : List Int) : (intC a).length = a.length := by simp [intC]
theorem intC_one (l : List Int) : ∀ u ∈ intC l, u.oneCell' = true := by
  intro u hu
  obtain ⟨x, -, rfl⟩ := List.mem_map.1 hu
  rfl
theorem RowAt.c6 {w : World} {g : Nat} {a b c d e f : Value} (h : RowAt w g [a, b, c, d, e, f]) :
    (w.cell? ⟨g, 0, none⟩ = some a ∧ w.cell? ⟨g, 1, none⟩ = some b ∧ w.cell? ⟨g, 2, none⟩ = some c ∧ w.cell? ⟨g, 3, none⟩ = some d ∧ w.cell? ⟨g, 4, none⟩ = some e ∧ w.cell? ⟨g, 5, none⟩ = some f) ∧
    (w.frozen? ⟨g, 0, none⟩ = false ∧ w.frozen? ⟨g, 1, none⟩ = false ∧ w.frozen? ⟨g, 2, none⟩ = false ∧ w.frozen? ⟨g, 3, none⟩ = false ∧ w.frozen? ⟨g, 4, none⟩ = false ∧ w.frozen? ⟨g, 5, none⟩ = false) :=
  ⟨⟨h.cell 0 (by simp), h.cell 1 (by simp), h.cell 2 (by simp), h.cell 3 (by simp), h.cell 4 (by simp), h.cell 5 (by simp)⟩, h.free 0 (by simp), h.free 1 (by simp), h.free 2 (by simp), h.free 3 (by simp), h.free 4 (by simp), h.free 5 (by simp)⟩
/-- All six cells of a row are written. -/
theorem Hold.put6 {W w : World} {l : List Res} (h : Hold W w l) (i : Nat) {g : Nat} {a b c d e f : Value} (hi : l[i]? = some (rowR g a [b, c, d, e, f])) (a' b' c' d' e' f' : Value) :
    Hold W ((((((w.setCell ⟨g, 0, none⟩ a').setCell ⟨g, 1, none⟩ b').setCell ⟨g, 2, none⟩ c').setCell ⟨g, 3, none⟩ d').setCell ⟨g, 4, none⟩ e').setCell ⟨g, 5, none⟩ f') (l.set i (rowR g a' [b', c', d', e', f'])) := by
  have hlt := (List.getElem?_eq_some_iff.1 hi).1
  have key : ∀ {x : List Res}, x.length = l.length → ∀ R : Res, (x.set i R)[i]? = some R := fun {x} hx R => List.getElem?_set_self (by omega)
  have h1 := h.putRow i (g := g) hi 0 a' a' [b, c, d, e, f] (by simp) rfl
  have h2 := h1.putRow i (g := g) (key rfl _) 1 b' a' [b', c, d, e, f] (by simp) rfl
  have h3 := h2.putRow i (g := g) (key (by simp) _) 2 c' a' [b', c', d, e, f] (by simp) rfl
  have h4 := h3.putRow i (g := g) (key (by simp) _) 3 d' a' [b', c', d', e, f] (by simp) rfl
  have h5 := h4.putRow i (g := g) (key (by simp) _) 4 e' a' [b', c', d', e', f] (by simp) rfl
  have h6 := h5.putRow i (g := g) (key (by simp) _) 5 f' a' [b', c', d', e', f'] (by simp) rfl
  simpa only [List.set_set] using h6
end Bw
