import Derived.Test.YtibeeomeafakgaaEnLaws
import Derived.Test.YtibeeomeafakgaaEnKinds0
namespace Go.Proofs.Ytibeeomeafakgaa
open Go.RowKit Bw

theorem pairsAt_out {w : World} {q : Option Addr} {l : List PairD} {b i : Nat} {v : Value} (h : PairsAt w q l) (hq : ∀ a, q = some a → a.block ≠ b) : PairsAt (w.setCell ⟨b, i, none⟩ v) q l := fun k hk => by
  obtain ⟨g, p, hp, hc, hd⟩ := h k hk
  have hne := hq _ hp
  have co : ∀ j, (⟨b, i, none⟩ : Addr) ≠ ⟨g, j, none⟩ := fun j e => hne (by have := congrArg Addr.block e; simpa using this.symm)
  exact ⟨g, p, hp, (World.cell?_setCell_other _ _ _ _ (co _)).trans hc, (World.cell?_setCell_other _ _ _ _ (co _)).trans hd⟩
theorem str_isEmpty2 (s : ByteArray) : s.toList.isEmpty = decide (s = ByteArray.empty) := by
  by_cases h : s.size = 0
  · rw [str_empty h]
    have : s = ByteArray.empty := by
      apply lst_inj
      have : (lst s).length = 0 := by rw [lst_length]; exact h
      rw [List.length_eq_zero_iff.1 this]
      rfl
    simp [this]
  · rw [str_nonempty h]
    have : ¬ s = ByteArray.empty := fun e => h (by rw [e]; rfl)
    simp [this]
end Go.Proofs.Ytibeeomeafakgaa
