import Derived.Test.YtbjnklgicakndaaPgRightA
import Derived.Test.YtbjnklgicakndaaPgRightB
import Derived.Test.YtbjnklgicakndaaPgRightC
namespace Go.Proofs.Ytbjnklgicakndaa
open Go.RowKit Bw
set_option linter.unusedVariables false

theorem worksB_neg (p : Int) (h : ¬ 0 ≤ p) : worksB p = true := by
  simp only [worksB, Bool.and_eq_true, bne_iff_ne]; omega

theorem prog_Right (p u o : Int) (w : World) (hu1 : -9223372036854775808 ≤ u) :
    Calls Try.prog 16 #[progV p u o] w fun e w' => e = .returned (.bool (rightB p u o)) ∧ Below w.heap.size w w' := by
  obtain ⟨v, hv⟩ : ∃ v, IntKind.i64.wrap (u + 1) = v := ⟨_, rfl⟩
  by_cases h3 : o = 0
  · subst h3
    by_cases h1 : 0 ≤ p
    · cases hw : worksB p
      · by_cases h6 : u = 0
        · subst h6; exact right_rest_zero_zero p h1 hw w
        · by_cases h2 : 0 ≤ u
          · exact right_rest_pos_zero p h1 hw u v hu1 hv h2 h6 w
          · exact right_rest_neg_zero p h1 hw u v hu1 hv h2 h6 w
      · by_cases h2 : 0 ≤ u
        · exact right_works_pos_zero p h1 hw u v hu1 hv h2 w
        · exact right_works_neg_zero p h1 hw u v hu1 hv h2 w
    · by_cases h2 : 0 ≤ u
      · exact right_neg_pos_zero p h1 (worksB_neg p h1) u v hu1 hv h2 w
      · exact right_neg_neg_zero p h1 (worksB_neg p h1) u v hu1 hv h2 w
  · by_cases h4 : o = v
    · subst h4
      by_cases h1 : 0 ≤ p
      · cases hw : worksB p
        · by_cases h6 : u = 0
          · subst h6
            obtain rfl : o = 1 := by rw [← hv]; decide
            exact right_rest_zero_next p h1 hw w
          · by_cases h2 : 0 ≤ u
            · exact right_rest_pos_next p h1 hw u o hu1 hv h2 h6 h3 w
            · exact right_rest_neg_next p h1 hw u o hu1 hv h2 h6 h3 w
        · by_cases h2 : 0 ≤ u
          · exact right_works_pos_next p h1 hw u o hu1 hv h2 h3 w
          · exact right_works_neg_next p h1 hw u o hu1 hv h2 h3 w
      · by_cases h2 : 0 ≤ u
        · exact right_neg_pos_next p h1 (worksB_neg p h1) u o hu1 hv h2 h3 w
        · exact right_neg_neg_next p h1 (worksB_neg p h1) u o hu1 hv h2 h3 w
    · by_cases h1 : 0 ≤ p
      · cases hw : worksB p
        · by_cases h6 : u = 0
          · subst h6
            obtain rfl : v = 1 := by rw [← hv]; decide
            exact right_rest_zero_other p h1 hw o h3 h4 w
          · by_cases h2 : 0 ≤ u
            · exact right_rest_pos_other p h1 hw u v hu1 hv h2 h6 o h3 h4 w
            · exact right_rest_neg_other p h1 hw u v hu1 hv h2 h6 o h3 h4 w
        · by_cases h2 : 0 ≤ u
          · exact right_works_pos_other p h1 hw u v hu1 hv h2 o h3 h4 w
          · exact right_works_neg_other p h1 hw u v hu1 hv h2 o h3 h4 w
      · by_cases h2 : 0 ≤ u
        · exact right_neg_pos_other p h1 (worksB_neg p h1) u v hu1 hv h2 o h3 h4 w
        · exact right_neg_neg_other p h1 (worksB_neg p h1) u v hu1 hv h2 o h3 h4 w
#print axioms prog_Right
end Go.Proofs.Ytbjnklgicakndaa
