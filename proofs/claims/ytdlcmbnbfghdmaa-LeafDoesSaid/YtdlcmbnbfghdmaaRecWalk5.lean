import Derived.Test.YtdlcmbnbfghdmaaRecWalk4
namespace Go.Proofs.Ytdlcmbnbfghdmaa
open Go.RowKit Bw
set_option linter.unusedVariables false

theorem lt_asymm_total : ∀ (a b : List UInt8), (decide (a < b) || a == b) = !decide (b < a)
  | [], [] => by simp
  | [], y :: b => by simp
  | x :: a, [] => by simp
  | x :: a, y :: b => by
    have ih := lt_asymm_total a b
    have e1 : (x :: a < y :: b) ↔ (x < y ∨ x = y ∧ a < b) := List.cons_lt_cons_iff
    have e2 : (y :: b < x :: a) ↔ (y < x ∨ y = x ∧ b < a) := List.cons_lt_cons_iff
    rw [Bool.eq_iff_iff] at ih ⊢
    simp only [Bool.or_eq_true, decide_eq_true_eq, beq_iff_eq, Bool.not_eq_true', decide_eq_false_iff_not, List.cons.injEq, e1, e2] at ih ⊢
    rcases (show x < y ∨ x = y ∨ y < x by simp only [UInt8.lt_iff_toNat_lt, ← UInt8.toNat_inj]; omega) with h | h | h
    · have h2 : ¬ y < x := UInt8.lt_asymm h
      have h3 : ¬ y = x := fun e => by rw [e] at h; exact UInt8.lt_irrefl _ h
      simp [h, h2, h3]
    · subst h
      simp [UInt8.lt_irrefl, ih]
    · have h2 : ¬ x < y := UInt8.lt_asymm h
      have h3 : ¬ x = y := fun e => by rw [e] at h; exact UInt8.lt_irrefl _ h
      simp [h, h2, h3]

theorem str_leB (a b : ByteArray) : (Op.bytesLess a.toList b.toList || a.toList == b.toList) = !ltS b a := by
  rw [Go.Proofs.bytesLess_eq, Lib.toList_data, Lib.toList_data]
  exact lt_asymm_total a.data.toList b.data.toList

end Go.Proofs.Ytdlcmbnbfghdmaa
