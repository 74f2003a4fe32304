/- A region that draws its order, whose operations yield the same in whatever world has grown out of the present one: one walk in the order of the text. No program in sight. -/
import Derived.Test.YthhbndepiofmeaaDoorBytesLaw
import Derived.Deep.QuietTactic
import Derived.BigQuiet
import Derived.Deep.DeepCutAuto
import Derived.Deep.RegionWith
namespace Bw
open Go Go.RowKit

/-- A world that has grown out of w. -/
structure Later (w : World) where
  world : World
  up : Up w world

theorem later_ne (w : World) : Nonempty (Later w) := ⟨⟨w, Up.refl w⟩⟩
theorem Later.cell {w : World} (u : Later w) {p : Addr} (h : p.block < w.heap.size) : u.world.cell? p = w.cell? p := Below.cell u.up h
theorem Later.cell_of {w : World} {p : Addr} {v : Value} (h : w.cell? p = some v) : ∀ u : Later w, u.world.cell? p = some v := fun u => (u.cell (World.block_lt_of_cell? w p h)).trans h

/-- One walk in the order of the text serves every order. -/
theorem wp_region_later {P : Program} {id : Nat} {Q : Exit → Act → World → Prop} {a : Act} {w : World} {l : List Oper} (hm : P.follows .mixedOrders = true) (hB : Region.lexB .any l.toArray = true)
    (h : wpQuiet P l.toArray (fun w' => ∃ u : Later w, w' = u.world) (fun a' => ∀ w', (∃ u : Later w, w' = u.world) → Q .normal a' w') l a) : (Code.region id l.toArray true).wp P Q a w :=
  wp_region_quiet (C := fun w' => ∃ u : Later w, w' = u.world) hm hB ⟨⟨_, (Up.refl w).drew⟩, rfl⟩ (by simpa using h)

theorem Calls.later {P : Program} {f : FuncId} {args : Array Value} {W : World} {u : Later W} {v : Value} (h : Calls P f args u.world fun e w' => e = .returned v ∧ Below u.world.heap.size u.world w') :
    Calls P f args u.world fun e w' => e = .returned v ∧ ∃ u' : Later W, w' = u'.world := h.mono fun _ w' ⟨he, hb⟩ => ⟨he, ⟨w', u.up.next hb⟩, rfl⟩
theorem Calls.later_same {P : Program} {f : FuncId} {args : Array Value} {W : World} {u : Later W} {v : Value} (h : Calls P f args u.world fun e w' => e = .returned v ∧ u.world = w') :
    Calls P f args u.world fun e w' => e = .returned v ∧ ∃ u' : Later W, w' = u'.world := h.mono fun _ w' ⟨he, hb⟩ => ⟨he, u, hb.symm⟩
theorem Up.trans {W w w' : World} (h : Up W w) (h' : Up w w') : Up W w' := h.next h'
end Bw
