/- Layer 24, the document's side: what a kind has. -/
import Derived.Test.YtkkgcmnipdkeeaaDoorScWalk1
import Derived.Test.YtkkgcmnipdkeeaaDoorScInts
namespace Bw
/-- The letters of what a kind has. -/
def hasL (k : Int) : List UInt8 := (if bT k then [116] else []) ++ ((if bK k then [107] else []) ++ ((if bV k then [118] else []) ++ ((if bN k then [110] else []) ++ (if bF k then [102] else []))))
def inL (k : Int) (c : UInt8) : Bool := (hasL k).any fun b => b == c
theorem hasL_len (k : Int) : (hasL k).length ≤ 5 := by
  unfold hasL
  simp only [List.length_append]
  have h : ∀ (b : Bool) (c : UInt8), (if b then [c] else ([] : List UInt8)).length ≤ 1 := fun b c => by cases b <;> simp
  have := h (bT k) 116; have := h (bK k) 107; have := h (bV k) 118; have := h (bN k) 110; have := h (bF k) 102
  omega
theorem inL_t (k : Int) : inL k 116 = bT k := by unfold inL hasL; cases bT k <;> cases bK k <;> cases bV k <;> cases bN k <;> cases bF k <;> decide
theorem inL_k (k : Int) : inL k 107 = bK k := by unfold inL hasL; cases bT k <;> cases bK k <;> cases bV k <;> cases bN k <;> cases bF k <;> decide
theorem inL_v (k : Int) : inL k 118 = bV k := by unfold inL hasL; cases bT k <;> cases bK k <;> cases bV k <;> cases bN k <;> cases bF k <;> decide
theorem inL_n (k : Int) : inL k 110 = bN k := by unfold inL hasL; cases bT k <;> cases bK k <;> cases bV k <;> cases bN k <;> cases bF k <;> decide
theorem inL_f (k : Int) : inL k 102 = bF k := by unfold inL hasL; cases bT k <;> cases bK k <;> cases bV k <;> cases bN k <;> cases bF k <;> decide
end Bw
namespace Go.Proofs.YtkkgcmnipdkeeaaDoor
open Go.RowKit Bw
set_option linter.unusedVariables false
def hasRow : List Value := (List.range 12).map fun k => Value.string (str (hasL ((k : Nat) : Int)))
set_option maxHeartbeats 1000000 in
theorem ref24_Has (k : Int) (w : World) : Calls Tryd.prog 33 #[.int .i64 k] w fun e w' => e = .returned (.string (str (hasL k))) ∧ Below w.heap.size w w' := by
  by_cases h0 : k < 0
  · have e : str (hasL k) = ⟨#[]⟩ := by
      have h1 : bT k = false := by simp only [bT, Bool.and_eq_false_iff, decide_eq_false_iff_not]; omega
      have h2 : bK k = false := by simp only [bK, Bool.and_eq_false_iff, decide_eq_false_iff_not]; omega
      have h3 : bV k = false := by simp only [bV, decide_eq_false_iff_not]; omega
      have h4 : bN k = false := by simp only [bN, decide_eq_false_iff_not]; omega
      have h5 : bF k = false := by simp only [bF, decide_eq_false_iff_not]; omega
      rw [hasL, h1, h2, h3, h4, h5]; rfl
    rw [e]
    clear e
    go_enter Tryd.func33, Tryd.ntmps33
    go_wp2_with fail
    go_ret
    exact ⟨rfl, Below.refl _ _⟩
  · by_cases h1 : 11 < k
    · have e : str (hasL k) = ⟨#[]⟩ := by
        have h1 : bT k = false := by simp only [bT, Bool.and_eq_false_iff, decide_eq_false_iff_not]; omega
        have h2 : bK k = false := by simp only [bK, Bool.and_eq_false_iff, decide_eq_false_iff_not]; omega
        have h3 : bV k = false := by simp only [bV, decide_eq_false_iff_not]; omega
        have h4 : bN k = false := by simp only [bN, decide_eq_false_iff_not]; omega
        have h5 : bF k = false := by simp only [bF, decide_eq_false_iff_not]; omega
        rw [hasL, h1, h2, h3, h4, h5]; rfl
      rw [e]
      clear e
      go_enter Tryd.func33, Tryd.ntmps33
      go_wp2_with fail
      go_ret
      exact ⟨rfl, Below.refl _ _⟩
    · have hk : k = 0 ∨ k = 1 ∨ k = 2 ∨ k = 3 ∨ k = 4 ∨ k = 5 ∨ k = 6 ∨ k = 7 ∨ k = 8 ∨ k = 9 ∨ k = 10 ∨ k = 11 := by omega
      clear h0 h1
      rcases hk with rfl | rfl | rfl | rfl | rfl | rfl | rfl | rfl | rfl | rfl | rfl | rfl
      all_goals
        go_enter Tryd.func33, Tryd.ntmps33
        go_wp2_with fail
        go_ret
        exact ⟨rfl, (Up.refl w).alloc _⟩
end Go.Proofs.YtkkgcmnipdkeeaaDoor
