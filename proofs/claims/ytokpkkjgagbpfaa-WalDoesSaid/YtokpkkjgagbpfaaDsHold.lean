import Derived.Test.YtokpkkjgagbpfaaDsInts
import Derived.Test.YtokpkkjgagbpfaaDsWalk5
import Derived.Test.YtokpkkjgagbpfaaDsRaw
import Derived.Test.YtokpkkjgagbpfaaHold
namespace Bw
open Go
/-- A disk's blocks have stayed, or its writes lie in a new one. -/
def QTurn (q q' : Option Nat) (n : Nat) : Prop := ∀ k, q' = some k → q = some k ∨ n ≤ k
theorem Fp.from_turn {g a : Nat} {q q' : Option Nat} {b n : Nat} (h : Fp.from ⟨g, a, q⟩ b) (ht : QTurn q q' n) (hb : b ≤ n) : Fp.from ⟨g, a, q'⟩ b :=
  Fp.turns.from (F := ⟨g, a, q⟩) (F' := ⟨g, a, q'⟩) ⟨rfl, rfl, ht⟩ h hb
theorem Fp.apart_turn {g a : Nat} {q q' : Option Nat} {G : Fp} {n : Nat} (h : Fp.apart ⟨g, a, q⟩ G) (ht : QTurn q q' n) (hG : ∀ k, G.has k → k < n) : Fp.apart ⟨g, a, q'⟩ G := fun k hk hGk =>
  (Fp.turns.has (F := ⟨g, a, q⟩) (F' := ⟨g, a, q'⟩) (n := n) ⟨rfl, rfl, ht⟩ hk).elim (fun h' => h k h' hGk) (fun h' => by have := hG k hGk; omega)
theorem Fp.apart_new {F G : Fp} {n : Nat} (hF : ∀ k, F.has k → k < n) (hG : G.from n) : F.apart G := fun k hk hGk => by
  have h1 := hF k hk; have h2 := hG k hGk; omega
theorem QTurn.none (q : Option Nat) (n : Nat) : QTurn q none n := fun k h => by cases h
theorem QTurn.refl (q : Option Nat) (n : Nat) : QTurn q q n := fun k h => .inl h
end Bw
namespace Go.Proofs.Ytokpkkjgagbpfaa
set_option maxRecDepth 100000
open Go.RowKit Bw Go.Maps
set_option linter.unusedVariables false
variable {w : World} {g a c : Nat} {q : Option Nat} {d : DiskD}

def WritePost (w : World) (g a : Nat) (q : Option Nat) (c : Nat) (d : DiskD) (E : Int) (e : Ending) (w' : World) : Prop := e = .returned (.int .i64 E) ∧ ∃ q', DiskAt w' ⟨g, a, q'⟩ c d ∧ QTurn q q' w.heap.size ∧ AllS (Fp.has ⟨g, a, q⟩) w w'
def TurnPost (w : World) (g a : Nat) (q : Option Nat) (c : Nat) (d : DiskD) (e : Ending) (w' : World) : Prop := e = .returned (.tuple #[]) ∧ DiskAt w' ⟨g, a, none⟩ c d ∧ AllS (Fp.has ⟨g, a, q⟩) w w'
theorem opWrite (h : DiskAt w ⟨g, a, q⟩ c d) (hc : c ≤ 1099511627776) (p : Int) (s : ByteArray) (hs : s.size ≤ 1099511627776) :
    Calls Try.prog 72 #[.pointer (some ⟨g, 0, none⟩), .int .i64 p, .string s] w (WritePost w g a q (c + 1) (d.writeD p s) (d.writeE p s)) :=
  (disk_Write (F := ⟨g, a, q⟩) h hc p s hs).mono fun e w' ⟨he, F', hD, ht, hA⟩ => by
    obtain ⟨g', a', q'⟩ := F'
    obtain ⟨rfl, rfl, hq⟩ := ht
    exact ⟨he, q', hD, hq, hA⟩
theorem opSync (h : DiskAt w ⟨g, a, q⟩ c d) (hc : c ≤ 1099511627776) : Calls Try.prog 51 #[.pointer (some ⟨g, 0, none⟩)] w (TurnPost w g a q c d.syncD) := by exact disk_Sync (F := ⟨g, a, q⟩) h hc
theorem opCrash (h : DiskAt w ⟨g, a, q⟩ c d) (hc : c + d.W.length ≤ 1099511627776) (L : List Int) (fa : Option Addr) (fc : Nat) (hI : IntsAt w fa L) (hL : L.length ≤ 1099511627776) (hout : L ≠ [] → ∀ x, fa = some x → ¬ Fp.has ⟨g, a, q⟩ x.block) :
    Calls Try.prog 22 #[.pointer (some ⟨g, 0, none⟩), .slice fa L.length fc] w (TurnPost w g a q c (d.crashD L)) := by exact disk_Crash (F := ⟨g, a, q⟩) h hc L fa fc hI hL hout
theorem opRead (h : DiskAt w ⟨g, a, q⟩ c d) (hc : c ≤ 1099511627776) (p : Int) :
    Calls Try.prog 81 #[.pointer (some ⟨g, 0, none⟩), .int .i64 p] w fun e w' => e = .returned (.tuple #[.string (d.readS p), .int .i64 (d.readE p)]) ∧ Below w.heap.size w w' := by exact disk_Read (F := ⟨g, a, q⟩) h hc p
theorem opRaw (h : DiskAt w ⟨g, a, q⟩ c d) (hc : c ≤ 1099511627776) (p : Int) :
    Calls Try.prog 25 #[.pointer (some ⟨g, 0, none⟩), .int .i64 p] w fun e w' => e = .returned (.string (d.rawD p)) ∧ Below w.heap.size w w' := by exact disk_Raw (F := ⟨g, a, q⟩) h hc p
theorem opDirty (h : DiskAt w ⟨g, a, q⟩ c d) (hc : c ≤ 1099511627776) : Calls Try.prog 35 #[.pointer (some ⟨g, 0, none⟩)] w fun e w' => ∃ v cap, e = .returned (.slice v d.dirtyD.length cap) ∧ IntsAt w' v d.dirtyD ∧ (∀ x, v = some x → w.heap.size ≤ x.block ∧ x.block < w'.heap.size) ∧ Below w.heap.size w w' :=
by
  refine (disk_Dirty (F := ⟨g, a, q⟩) h hc).mono fun e w' hp => ?_
  unfold DirtyPost at hp
  obtain ⟨v, he, hI, hB⟩ := hp
  obtain ⟨q', cap, rfl, h1, h2⟩ := hI.form
  exact ⟨q', cap, he, h1, h2, hB⟩
theorem opLen (h : DiskAt w ⟨g, a, q⟩ c d) : Calls Try.prog 37 #[.pointer (some ⟨g, 0, none⟩)] w fun e w' => e = .returned (.int .i64 d.n) ∧ w = w' := by exact disk_Len (F := ⟨g, a, q⟩) h
end Go.Proofs.Ytokpkkjgagbpfaa
namespace Go.Proofs.Ytokpkkjgagbpfaa
set_option maxRecDepth 100000
open Go.RowKit Bw Go.Maps
set_option linter.unusedVariables false
variable {W w : World} {l : List Res} {g a c : Nat} {q : Option Nat} {d : DiskD}

/-- A disk, as a thing in memory. -/
def diskR (g a : Nat) (q : Option Nat) (c : Nat) (d : DiskD) : Res := ⟨Fp.has ⟨g, a, q⟩, fun w => DiskAt w ⟨g, a, q⟩ c d, fun hA hk h => h.allS hA hk, fun h hk => h.lt _ hk⟩

theorem turn_has {q q' : Option Nat} {n : Nat} (h : QTurn q q' n) : ∀ k, Fp.has ⟨g, a, q'⟩ k → Fp.has ⟨g, a, q⟩ k ∨ n ≤ k := fun k hk =>
  Fp.turns.has (F := ⟨g, a, q⟩) (F' := ⟨g, a, q'⟩) ⟨rfl, rfl, h⟩ hk
theorem hNew (n : Nat) (h1 : 1 ≤ n) (h2 : n ≤ 1024) (h : Hold W w l) :
    Calls Try.prog 10 #[.int .i64 n] w fun e w' => ∃ g a, e = .returned (.tuple #[.pointer (some ⟨g, 0, none⟩), .int .i64 0]) ∧ Hold W w' (l ++ [diskR g a none 0 (initD n)]) :=
  (disk_New n h1 h2 w).mono fun e w' ⟨he, hD, hB⟩ => ⟨_, _, he, h.add hB (diskR _ _ _ _ _) hD fun k hk => by
    have hk' : Fp.has ⟨w.heap.size + 1, w.heap.size, none⟩ k := hk
    rcases hk' with h | h | h
    · have : k = w.heap.size + 1 := h
      omega
    · have : k = w.heap.size := h
      omega
    · cases h⟩
theorem hWrite (h : Hold W w l) (i : Nat) (hi : l[i]? = some (diskR g a q c d)) (hc : c ≤ 1099511627776) (p : Int) (s : ByteArray) (hs : s.size ≤ 1099511627776) :
    Calls Try.prog 72 #[.pointer (some ⟨g, 0, none⟩), .int .i64 p, .string s] w fun e w' => e = .returned (.int .i64 (d.writeE p s)) ∧ ∃ q', Hold W w' (l.set i (diskR g a q' (c + 1) (d.writeD p s))) :=
  (opWrite (h.get i hi) hc p s hs).mono fun e w' ⟨he, q', hD, hq, hA⟩ => ⟨he, q', h.step i hi (diskR _ _ _ _ _) hD (turn_has hq) hA⟩
theorem hSync (h : Hold W w l) (i : Nat) (hi : l[i]? = some (diskR g a q c d)) (hc : c ≤ 1099511627776) :
    Calls Try.prog 51 #[.pointer (some ⟨g, 0, none⟩)] w fun e w' => e = .returned (.tuple #[]) ∧ Hold W w' (l.set i (diskR g a none c d.syncD)) :=
  (opSync (h.get i hi) hc).mono fun e w' ⟨he, hD, hA⟩ => ⟨he, h.step i hi (diskR _ _ _ _ _) hD (turn_has (QTurn.none q _)) hA⟩
theorem hCrash (h : Hold W w l) (i : Nat) (hi : l[i]? = some (diskR g a q c d)) (hc : c + d.W.length ≤ 1099511627776) (L : List Int) (fa : Option Addr) (fc : Nat) (hI : IntsAt w fa L) (hL : L.length ≤ 1099511627776) (hout : L ≠ [] → ∀ x, fa = some x → ¬ (diskR g a q c d).has x.block) :
    Calls Try.prog 22 #[.pointer (some ⟨g, 0, none⟩), .slice fa L.length fc] w fun e w' => e = .returned (.tuple #[]) ∧ Hold W w' (l.set i (diskR g a none c (d.crashD L))) :=
  (opCrash (h.get i hi) hc L fa fc hI hL hout).mono fun e w' ⟨he, hD, hA⟩ => ⟨he, h.step i hi (diskR _ _ _ _ _) hD (turn_has (QTurn.none q _)) hA⟩
theorem hRead (h : Hold W w l) (i : Nat) (hi : l[i]? = some (diskR g a q c d)) (hc : c ≤ 1099511627776) (p : Int) :
    Calls Try.prog 81 #[.pointer (some ⟨g, 0, none⟩), .int .i64 p] w fun e w' => e = .returned (.tuple #[.string (d.readS p), .int .i64 (d.readE p)]) ∧ Below w.heap.size w w' ∧ Hold W w' l :=
  (opRead (h.get i hi) hc p).mono fun e w' ⟨he, hB⟩ => ⟨he, hB, h.next hB⟩
theorem hRaw (h : Hold W w l) (i : Nat) (hi : l[i]? = some (diskR g a q c d)) (hc : c ≤ 1099511627776) (p : Int) :
    Calls Try.prog 25 #[.pointer (some ⟨g, 0, none⟩), .int .i64 p] w fun e w' => e = .returned (.string (d.rawD p)) ∧ Below w.heap.size w w' ∧ Hold W w' l :=
  (opRaw (h.get i hi) hc p).mono fun e w' ⟨he, hB⟩ => ⟨he, hB, h.next hB⟩
/-- A slice of ints, as a thing in memory. -/
def intsR (v : Option Addr) (l : List Int) : Res := ⟨fun k => ∃ x, v = some x ∧ x.block = k, fun w => IntsAt w v l ∧ ∀ x, v = some x → x.block < w.heap.size,
  fun hA hk h => ⟨h.1.allS hA fun _ x hx => hk _ ⟨x, hx, rfl⟩, fun x hx => Nat.lt_of_lt_of_le (h.2 x hx) hA.size⟩, fun h hk => by obtain ⟨x, hx, rfl⟩ := hk; exact h.2 x hx⟩
theorem hDirty (h : Hold W w l) (i : Nat) (hi : l[i]? = some (diskR g a q c d)) (hc : c ≤ 1099511627776) :
    Calls Try.prog 35 #[.pointer (some ⟨g, 0, none⟩)] w fun e w' => ∃ v cap, e = .returned (.slice v d.dirtyD.length cap) ∧ Below w.heap.size w w' ∧ Hold W w' (l ++ [intsR v d.dirtyD]) :=
  (opDirty (h.get i hi) hc).mono fun e w' ⟨v, cap, he, hI, hv, hB⟩ => ⟨v, cap, he, hB, h.add hB (intsR v _) ⟨hI, fun x hx => (hv x hx).2⟩ fun k hk => by obtain ⟨x, hx, rfl⟩ := hk; exact (hv x hx).1⟩
theorem hLen (h : Hold W w l) (i : Nat) (hi : l[i]? = some (diskR g a q c d)) :
    Calls Try.prog 37 #[.pointer (some ⟨g, 0, none⟩)] w fun e w' => e = .returned (.int .i64 d.n) ∧ w' = w :=
  (opLen (h.get i hi)).mono fun e w' ⟨he, hB⟩ => ⟨he, hB.symm⟩
end Go.Proofs.Ytokpkkjgagbpfaa
