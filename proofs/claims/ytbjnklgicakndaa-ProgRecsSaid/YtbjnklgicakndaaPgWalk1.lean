import Derived.Test.YtbjnklgicakndaaPgAll
import Derived.Test.YtbjnklgicakndaaRegionTail
import Derived.Lib.Hide
namespace Go.Proofs.Ytbjnklgicakndaa
open Go.RowKit Bw
set_option linter.unusedVariables false

def worksB (p : Int) : Bool := p != 0 && p != 4
def rightB (p u o : Int) : Bool := decide (0 ≤ p) && decide (p ≤ 4) && (decide (0 ≤ u) && decide (u < 1099511627776)) && (o == 0 || o == u + 1 && decide (o < 1099511627776)) && (worksB p || u == 0 && o == 0)
def progV (p u o : Int) : Value := .agg #[.int .i64 p, .int .i64 u, .int .i64 o]

set_option maxHeartbeats 2000000 in
set_option maxRecDepth 100000 in
theorem prog_works (p u o : Int) (w : World) :
    Calls Try.prog 29 #[progV p u o] w fun e w' => e = .returned (.bool (worksB p)) ∧ Below w.heap.size w w' := by
  unfold progV
  have hu := Up.refl w
  go_enter Try.func29, Try.ntmps29
  go_wp2_with fail
  all_goals go_ret
  · rename_i h
    subst h
    exact ⟨rfl, (Below.refl _ w).alloc (Nat.le_refl _) _⟩
  · exact ⟨rfl, (Below.refl _ w).alloc (Nat.le_refl _) _⟩

theorem bools_alloc (w : World) (e : TypeId) (l : List Bool) : BoolsAt (w.alloc (.cells (boolsA l) e)) (some ⟨w.heap.size, 0, none⟩) l := fun i hi =>
  ⟨_, _, rfl, by
    rw [Nat.zero_add]
    refine (World.cell?_alloc_mark w _ e (0, 0) i).trans ?_
    simp [boolsA, hi]⟩

theorem all_four (a b c d : Bool) (w : World) (e : TypeId) :
    Calls Try.prog 32 #[.slice (some ⟨w.heap.size, 0, none⟩) 4 4] (w.alloc (.cells #[.bool a, .bool b, .bool c, .bool d] e)) fun e' w' => e' = .returned (.bool (a && b && c && d)) ∧ Below w.heap.size w w' :=
  (prog_all _ 4 [a, b, c, d] (by simp) _ (bools_alloc w e [a, b, c, d])).mono fun e' w' ⟨h1, h2⟩ => ⟨by rw [h1]; simp [Bool.and_assoc], ((Below.refl _ w).alloc (Nat.le_refl _) _).trans (h2.mono (by simp))⟩
theorem all_three (a b c : Bool) (w : World) (e : TypeId) :
    Calls Try.prog 32 #[.slice (some ⟨w.heap.size, 0, none⟩) 3 3] (w.alloc (.cells #[.bool a, .bool b, .bool c] e)) fun e' w' => e' = .returned (.bool (a && b && c)) ∧ Below w.heap.size w w' :=
  (prog_all _ 3 [a, b, c] (by simp) _ (bools_alloc w e [a, b, c])).mono fun e' w' ⟨h1, h2⟩ => ⟨by rw [h1]; simp [Bool.and_assoc], ((Below.refl _ w).alloc (Nat.le_refl _) _).trans (h2.mono (by simp))⟩
theorem all_two (a b : Bool) (w : World) (e : TypeId) :
    Calls Try.prog 32 #[.slice (some ⟨w.heap.size, 0, none⟩) 2 2] (w.alloc (.cells #[.bool a, .bool b] e)) fun e' w' => e' = .returned (.bool (a && b)) ∧ Below w.heap.size w w' :=
  (prog_all _ 2 [a, b] (by simp) _ (bools_alloc w e [a, b])).mono fun e' w' ⟨h1, h2⟩ => ⟨by rw [h1]; simp, ((Below.refl _ w).alloc (Nat.le_refl _) _).trans (h2.mono (by simp))⟩
end Go.Proofs.Ytbjnklgicakndaa
