import Derived.Test.YtiekjjejoekdeaaDsInts
import Derived.Test.YtiekjjejoekdeaaDsWalk5
import Derived.Test.YtiekjjejoekdeaaDsRaw
namespace Bw
open Go
/-- A disk's blocks have stayed, or its writes lie in a new one. -/
def QTurn (q q' : Option Nat) (n : Nat) : Prop := ∀ k, q' = some k → q = some k ∨ n ≤ k
theorem Fp.from_turn {g a : Nat} {q q' : Option Nat} {b n : Nat} (h : Fp.from ⟨g, a, q⟩ b) (ht : QTurn q q' n) (hb : b ≤ n) : Fp.from ⟨g, a, q'⟩ b :=
  Fp.turns.from (F := ⟨g, a, q⟩) (F' := ⟨g, a, q'⟩) ⟨rfl, rfl, ht⟩ h hb
theorem Fp.apart_turn {g a : Nat} {q q' : Option Nat} {G : Fp} {n : Nat} (h : Fp.apart ⟨g, a, q⟩ G) (ht : QTurn q q' n) (hG : ∀ k, G.has k → k < n) : Fp.apart ⟨g, a, q'⟩ G := fun k hk hGk =>
  (Fp.turns.has (F := ⟨g, a, q⟩) (F' := ⟨g, a, q'⟩) (n := n) ⟨rfl, rfl, ht⟩ hk).elim (fun h' => h k h' hGk) (fun h' => by have := hG k hGk; omega)
theorem Fp.apart_new {F G : Fp} {n : Nat} (hF : ∀ k, F.has k → k < n) (hG : G.from n) : F.apart G := fun k hk hGk => by
  have h1 := hF k hk; have h2 := hG k hGk; omega
theorem QTurn.none (q : Option Nat) (n : Nat) : QTurn q none n := fun k h => by cases h
theorem QTurn.refl (q : Option Nat) (n : Nat) : QTurn q q n := fun k h => .inl h
end Bw
namespace Go.Proofs.Ytiekjjejoekdeaa
open Go.RowKit Bw Go.Maps
set_option linter.unusedVariables false
variable {w : World} {g a c : Nat} {q : Option Nat} {d : DiskD}

def WritePost (w : World) (g a : Nat) (q : Option Nat) (c : Nat) (d : DiskD) (E : Int) (e : Ending) (w' : World) : Prop := e = .returned (.int .i64 E) ∧ ∃ q', DiskAt w' ⟨g, a, q'⟩ c d ∧ QTurn q q' w.heap.size ∧ AllS (Fp.has ⟨g, a, q⟩) w w'
def TurnPost (w : World) (g a : Nat) (q : Option Nat) (c : Nat) (d : DiskD) (e : Ending) (w' : World) : Prop := e = .returned (.tuple #[]) ∧ DiskAt w' ⟨g, a, none⟩ c d ∧ AllS (Fp.has ⟨g, a, q⟩) w w'
theorem opWrite (h : DiskAt w ⟨g, a, q⟩ c d) (hc : c ≤ 1099511627776) (p : Int) (s : ByteArray) (hs : s.size ≤ 1099511627776) :
    Calls Try.prog 13 #[.pointer (some ⟨g, 0, none⟩), .int .i64 p, .string s] w (WritePost w g a q (c + 1) (d.writeD p s) (d.writeE p s)) :=
  (disk_Write (F := ⟨g, a, q⟩) h hc p s hs).mono fun e w' ⟨he, F', hD, ht, hA⟩ => by
    obtain ⟨g', a', q'⟩ := F'
    obtain ⟨rfl, rfl, hq⟩ := ht
    exact ⟨he, q', hD, hq, hA⟩
theorem opSync (h : DiskAt w ⟨g, a, q⟩ c d) (hc : c ≤ 1099511627776) : Calls Try.prog 14 #[.pointer (some ⟨g, 0, none⟩)] w (TurnPost w g a q c d.syncD) := by exact disk_Sync (F := ⟨g, a, q⟩) h hc
theorem opCrash (h : DiskAt w ⟨g, a, q⟩ c d) (hc : c + d.W.length ≤ 1099511627776) (L : List Int) (fa : Option Addr) (fc : Nat) (hI : IntsAt w fa L) (hL : L.length ≤ 1099511627776) (hout : L ≠ [] → ∀ x, fa = some x → ¬ Fp.has ⟨g, a, q⟩ x.block) :
    Calls Try.prog 26 #[.pointer (some ⟨g, 0, none⟩), .slice fa L.length fc] w (TurnPost w g a q c (d.crashD L)) := by exact disk_Crash (F := ⟨g, a, q⟩) h hc L fa fc hI hL hout
theorem opRead (h : DiskAt w ⟨g, a, q⟩ c d) (hc : c ≤ 1099511627776) (p : Int) :
    Calls Try.prog 20 #[.pointer (some ⟨g, 0, none⟩), .int .i64 p] w fun e w' => e = .returned (.tuple #[.string (d.readS p), .int .i64 (d.readE p)]) ∧ Below w.heap.size w w' := by exact disk_Read (F := ⟨g, a, q⟩) h hc p
theorem opRaw (h : DiskAt w ⟨g, a, q⟩ c d) (hc : c ≤ 1099511627776) (p : Int) :
    Calls Try.prog 22 #[.pointer (some ⟨g, 0, none⟩), .int .i64 p] w fun e w' => e = .returned (.string (d.rawD p)) ∧ Below w.heap.size w w' := by exact disk_Raw (F := ⟨g, a, q⟩) h hc p
theorem opDirty (h : DiskAt w ⟨g, a, q⟩ c d) (hc : c ≤ 1099511627776) : Calls Try.prog 17 #[.pointer (some ⟨g, 0, none⟩)] w fun e w' => ∃ v cap, e = .returned (.slice v d.dirtyD.length cap) ∧ IntsAt w' v d.dirtyD ∧ (∀ x, v = some x → w.heap.size ≤ x.block ∧ x.block < w'.heap.size) ∧ Below w.heap.size w w' :=
by
  refine (disk_Dirty (F := ⟨g, a, q⟩) h hc).mono fun e w' hp => ?_
  unfold DirtyPost at hp
  obtain ⟨v, he, hI, hB⟩ := hp
  obtain ⟨q', cap, rfl, h1, h2⟩ := hI.form
  exact ⟨q', cap, he, h1, h2, hB⟩
theorem opLen (h : DiskAt w ⟨g, a, q⟩ c d) : Calls Try.prog 19 #[.pointer (some ⟨g, 0, none⟩)] w fun e w' => e = .returned (.int .i64 d.n) ∧ w = w' := by exact disk_Len (F := ⟨g, a, q⟩) h
theorem opCopy (h : DiskAt w ⟨g, a, q⟩ c d) (hc : c ≤ 1099511627776) : Calls Try.prog 11 #[.pointer (some ⟨g, 0, none⟩)] w fun e w' => ∃ g' a' q', e = .returned (.pointer (some ⟨g', 0, none⟩)) ∧ DiskAt w' ⟨g', a', q'⟩ c d ∧ Fp.from ⟨g', a', q'⟩ w.heap.size ∧ Below w.heap.size w w' :=
by
  refine (disk_Copy (F := ⟨g, a, q⟩) h hc).mono fun e w' hp => ?_
  unfold CopyPost at hp
  obtain ⟨F', he, hD, hF, hB⟩ := hp
  exact ⟨F'.g, F'.a, F'.q, he, hD, hF, hB⟩
end Go.Proofs.Ytiekjjejoekdeaa
