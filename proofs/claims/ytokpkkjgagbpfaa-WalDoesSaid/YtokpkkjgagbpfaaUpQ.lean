/- Drawn regions with quiet calls beside allocations and stores into new blocks. No program in sight. -/
import Derived.Test.YtokpkkjgagbpfaaAllR
namespace Bw
set_option linter.unusedVariables false
open Go Go.RowKit
/-- All blocks below B stay, from a world that has them. -/
def RQ (B : Nat) (a b : World) : Prop := B ≤ a.heap.size → Below B a b
theorem rok_upQ : ROk Up := ⟨Up.refl, Up.trans⟩
theorem rok_rq (B : Nat) : ROk (RQ B) := ⟨fun w _ => Below.refl B w, fun {a b c} h1 h2 hB => (h1 hB).trans (h2 (Nat.le_trans hB (h1 hB).size))⟩
theorem up_rq (B : Nat) : TRok Up (RQ B) := ⟨rok_upQ, rok_rq B, fun {a b} h hB => Below.mono h hB⟩
theorem laterQ {B : Nat} {w w1 : World} {p : Addr} {v : Value} (h : w.cell? p = some v) (hp : p.block < B) (hB : B ≤ w.heap.size) (h1 : RQ B w w1) : ∀ u : LaterR Up w1, u.world.cell? p = some v := fun u => by
  have h2 : w1.cell? p = some v := (Below.cell (h1 hB) hp).trans h
  exact (Below.cell (p := p) u.up (World.block_lt_of_cell? w1 _ h2)).trans h2
theorem Calls.laterQ {P : Program} {f : FuncId} {args : Array Value} {W : World} {u : LaterR Up W} {v : Value} (h : Calls P f args u.world fun e w' => e = .returned v ∧ Below u.world.heap.size u.world w') :
    Calls P f args u.world fun e w' => e = .returned v ∧ ∃ u' : LaterR Up W, w' = u'.world :=
  h.mono fun _ w' ⟨he, hb⟩ => ⟨he, ⟨w', u.up.trans hb⟩, rfl⟩
end Bw
