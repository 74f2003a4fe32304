/- A row of eight values of the law's own. -/
import Derived.Test.YtiekjjejoekdeaaRes
namespace Bw
open Go Go.RowKit
set_option linter.unusedVariables false
def row8 (h : Nat → Value) : List Value := [h 0, h 1, h 2, h 3, h 4, h 5, h 6, h 7]
theorem row8_length (h : Nat → Value) : (row8 h).length = 8 := rfl
theorem row8_get (h : Nat → Value) : ∀ (k : Nat) (hk : k < (row8 h).length), (row8 h)[k] = h k
  | 0, _ => rfl | 1, _ => rfl | 2, _ => rfl | 3, _ => rfl | 4, _ => rfl | 5, _ => rfl | 6, _ => rfl | 7, _ => rfl
  | k + 8, hk => by rw [row8_length] at hk; omega
theorem row8_set (h : Nat → Value) (m : Nat) (v : Value) (hm : m < 8) : (row8 h).set m v = row8 (fun j => if j = m then v else h j) := by
  apply List.ext_getElem (by simp [row8_length])
  intro i h1 h2
  rw [row8_get, List.getElem_set]
  split
  · rw [if_pos (by omega)]
  · rw [if_neg (by omega), row8_get]
def row8R (g : Nat) (h : Nat → Value) : Res := ⟨fun k => k = g, fun w => RowAt w g (row8 h), fun hA hk hr => RowAt.allS hr hA (hk g rfl), fun {w k} hr hk => by have hk' : k = g := hk; rw [hk']; exact RowAt.lt hr⟩
variable {W w : World} {l : List Res}
theorem Hold.cell8 (h : Hold W w l) (i : Nat) {g : Nat} {f : Nat → Value} (hi : l[i]? = some (row8R g f)) (k : Nat) (hk : k < 8) : w.cell? ⟨g, k, none⟩ = some (f k) ∧ w.frozen? ⟨g, k, none⟩ = false := by
  have hr : RowAt w g (row8 f) := h.get i hi
  have hk' : k < (row8 f).length := hk
  exact ⟨(hr.cell k hk').trans (congrArg some (row8_get f k hk')), hr.free k hk'⟩
theorem Hold.set8 (h : Hold W w l) (i : Nat) {g : Nat} {f : Nat → Value} (hi : l[i]? = some (row8R g f)) (m : Nat) (hm : m < 8) (v : Value) : Hold W (w.setCell ⟨g, m, none⟩ v) (l.set i (row8R g (fun j => if j = m then v else f j))) := by
  have hr : RowAt w g (row8 f) := h.get i hi
  refine h.step i hi (row8R g _) ?_ (fun k hk => .inl hk) ((AllS.refl _ w).setCell g m v (.inl rfl))
  show RowAt _ g (row8 _)
  rw [← row8_set f m v hm]
  exact hr.set m v hm
theorem Hold.made8 (h : Hold W w l) (f : Nat → Value) (e : TypeId) : Hold W (w.alloc (.cells (row8 f).toArray e)) (l ++ [row8R w.heap.size f]) :=
  h.add ((Below.refl _ w).alloc (Nat.le_refl _) _) (row8R _ f) (RowAt.made w e (row8 f)) fun k hk => by have hk' : k = w.heap.size := hk; omega
end Bw
