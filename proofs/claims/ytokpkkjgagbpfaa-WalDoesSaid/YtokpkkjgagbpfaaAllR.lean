/- Regions that draw their order, all of whose operations leave all blocks as they were but those of a set. No program in sight. -/
import Derived.Test.YtokpkkjgagbpfaaHold
import Derived.Test.YtokpkkjgagbpfaaRelA
namespace Bw
open Go Go.RowKit
theorem eqOK : ROk (Eq : World → World → Prop) := ⟨fun _ => rfl, Eq.trans⟩
theorem allS_ok (S : Nat → Prop) : TRok Eq (AllS S) := eq_ok ⟨AllS.refl S, fun h k => h.trans k⟩
theorem laterS {S : Nat → Prop} {w w1 : World} {p : Addr} {v : Value} (h : w.cell? p = some v) (hS : ¬ S p.block) (h1 : AllS S w w1) : ∀ u : LaterR Eq w1, u.world.cell? p = some v := fun u => by
  obtain ⟨_, rfl⟩ := u; exact h1.cell h hS
/-- No block. -/
abbrev NoS : Nat → Prop := fun _ => False
end Bw
