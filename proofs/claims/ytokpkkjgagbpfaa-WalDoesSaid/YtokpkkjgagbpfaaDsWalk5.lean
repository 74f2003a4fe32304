import Derived.Test.YtokpkkjgagbpfaaDsWalkM
namespace Go.Proofs.Ytokpkkjgagbpfaa
set_option maxRecDepth 100000
open Go.RowKit Bw Go.Maps
set_option linter.unusedVariables false

theorem WritesAt.adds {w : World} {e : TypeId} {b cap : Nat} {l : List WriteD} (h : WritesAt w e (.slice (some ⟨b, 0, none⟩) l.length cap) l) : ∀ j u, (cellsW l)[j]? = some u → w.cell? ((⟨b, 0, none⟩ : Addr).add j) = some u := World.ownsRow.cells h rfl
theorem cellsW_one (l : List WriteD) : ∀ u ∈ cellsW l, u.oneCell' = true := by
  intro u hu
  simp only [cellsW, List.mem_flatMap] at hu
  obtain ⟨x, _, hx⟩ := hu
  simp at hx
  rcases hx with rfl | rfl <;> rfl
theorem WritesAt.up {w w' : World} {e : TypeId} {v : Value} {l : List WriteD} (h : WritesAt w e v l) (hu : Up w w') : WritesAt w' e v l := ownsRow_allS h (AllS.of_up (S := fun _ => False) hu) (fun _ _ => id)
/-- A clone of a slice of writes lies in memory of its own. -/
def CloneW (w : World) (e : TypeId) (l : List WriteD) (en : Ending) (w' : World) : Prop := ∃ v, en = .returned v ∧ WritesAt w' e v l ∧ (∀ k, v.ownBlock = some k → w.heap.size ≤ k) ∧ Below w.heap.size w w'
/-- A disk's copy: another one in the same state, in memory of its own. -/
def CopyPost (w : World) (c : Nat) (d : DiskD) (en : Ending) (w' : World) : Prop := ∃ F', en = .returned (.pointer (some ⟨F'.g, 0, none⟩)) ∧ DiskAt w' F' c d ∧ F'.from w.heap.size ∧ Below w.heap.size w w'
end Go.Proofs.Ytokpkkjgagbpfaa
