/- All blocks stay but those of a set; maps from numbers to bytes; disks in memory. -/
import Derived.Maps.OwnSet
import Derived.Maps.AppendAt
import Derived.Laws.OwnMore
import Derived.Test.YtokpkkjgagbpfaaRelA
import Derived.Test.YtokpkkjgagbpfaaHold
import Derived.Test.YtokpkkjgagbpfaaDsPure
import Derived.Test.YtokpkkjgagbpfaaFieldWalkA
namespace Bw
open Go Go.RowKit
set_option linter.unusedVariables false

variable {S T : Nat → Prop} {a b c w w' W : World}
/-- The blocks of a disk. -/
structure Fp where
  g : Nat
  a : Nat
  q : Option Nat
def Fp.has (F : Fp) (k : Nat) : Prop := k = F.g ∨ k = F.a ∨ F.q = some k
/-- All of a disk's blocks are at b, or behind it. -/
def Fp.from (F : Fp) (b : Nat) : Prop := ∀ k, F.has k → b ≤ k
def Fp.apart (F G : Fp) : Prop := ∀ k, F.has k → ¬ G.has k
/-- What a call may make of a disk's blocks: the writes may lie in a new one. -/
def Fp.turns (F F' : Fp) (n : Nat) : Prop := F'.g = F.g ∧ F'.a = F.a ∧ ∀ k, F'.q = some k → F.q = some k ∨ n ≤ k
theorem Fp.turns.refl (F : Fp) (n : Nat) : F.turns F n := ⟨rfl, rfl, fun k h => .inl h⟩
theorem Fp.turns.has {F F' : Fp} {n : Nat} (h : F.turns F' n) {k : Nat} (hk : F'.has k) : F.has k ∨ n ≤ k := by
  rcases hk with rfl | rfl | hk
  · exact .inl (.inl h.1)
  · exact .inl (.inr (.inl h.2.1))
  · exact (h.2.2 k hk).imp (fun h => .inr (.inr h)) id
theorem Fp.turns.from {F F' : Fp} {n b : Nat} (h : F.turns F' n) (hF : F.from b) (hb : b ≤ n) : F'.from b := fun k hk => (h.has hk).elim (hF k) (fun h' => Nat.le_trans hb h')
theorem Fp.turns.trans {F F' F'' : Fp} {n m : Nat} (h : F.turns F' n) (k : F'.turns F'' m) (hnm : n ≤ m) : F.turns F'' n :=
  ⟨k.1.trans h.1, k.2.1.trans h.2.1, fun i hi => (k.2.2 i hi).elim (h.2.2 i) (fun h' => .inr (Nat.le_trans hnm h'))⟩
theorem Fp.apart.symm {F G : Fp} (h : F.apart G) : G.apart F := fun k hk hg => h k hg hk
end Bw
namespace Go.Proofs.Ytokpkkjgagbpfaa
open Go.RowKit Bw Go.Maps
set_option linter.unusedVariables false

def MapAt (w : World) (b n : Nat) (K : Int → ByteArray) : Prop :=
  ∃ D : DataW Unit, w.ownsMap Try.prog 3 (plainElem Try.prog 9) b n D ∧ ∀ k : Int, (Lit.int .i64 k).wf = true →
    (Maps.has D (.int .i64 k) = true → D.atKey (.int .i64 k) (.lit (.string [])) = .lit (.string (K k).data.toList)) ∧ (Maps.has D (.int .i64 k) = false → K k = page0)
theorem MapAt.lt {w : World} {b n : Nat} {K : Int → ByteArray} (h : MapAt w b n K) : b < w.heap.size := by obtain ⟨D, h, _⟩ := h; exact h.lt
theorem MapAt.allS {S : Nat → Prop} {w w' : World} {b n : Nat} {K : Int → ByteArray} (h : MapAt w b n K) (ha : AllS S w w') (hb : ¬ S b) : MapAt w' b n K := by
  obtain ⟨D, h, h2⟩ := h
  obtain ⟨es, clock, hh, r⟩ := h
  exact ⟨D, ⟨es, clock, (ha.block b (Array.getElem?_eq_some_iff.1 hh).1 hb).trans hh, r⟩, h2⟩
theorem MapAt.up {w w' : World} {b n : Nat} {K : Int → ByteArray} (h : MapAt w b n K) (hu : Up w w') : MapAt w' b n K := h.allS (S := fun _ => False) (.of_up hu) id
theorem MapAt.mono {w : World} {b n n' : Nat} {K : Int → ByteArray} (h : MapAt w b n K) (hn : n ≤ n') : MapAt w b n' K := by obtain ⟨D, h, h2⟩ := h; exact ⟨D, h.mono hn, h2⟩
theorem MapAt.made (w : World) : MapAt (w.alloc (.map #[] 0)) w.heap.size 0 (fun _ => page0) :=
  ⟨_, World.ownsMap_made w _ _ _, fun k _ => ⟨fun h => (by cases h), fun _ => rfl⟩⟩

set_option maxRecDepth 100000 in
/-- What m[k] answers: the bytes, and whether they are there. -/
theorem MapAt.look {w : World} {b n : Nat} {K : Int → ByteArray} (h : MapAt w b n K) {k : Int} (hk : (Lit.int .i64 k).wf = true) :
    ∃ (s : ByteArray) (f : Bool), (Instr.lookup 58 (.map (some b)) (.int .i64 k) true).run Try.prog w = .ok (.tuple #[.string s, .bool f]) w ∧ (f = true → s = K k) ∧ (f = false → K k = page0) := by
  obtain ⟨D, h, h2⟩ := h
  obtain ⟨v, ps, hrun, hv⟩ := h.look_ok (int_keyed Try.underlying3) Try.underlying58 (Try.zeroValue9 w) (plainElem_string Try.underlying9 (s := ⟨#[]⟩) (by decide)) (keyOf_int_mk Try.underlying3 hk)
  have hs : ∃ s : ByteArray, v = .string s ∧ D.atKey (.int .i64 k) (.lit (.string [])) = .lit (.string s.data.toList) := by
    unfold plainElem at hv
    rw [Try.underlying9] at hv
    cases v <;> simp at hv
    rename_i s
    exact ⟨s, rfl, hv.2.1.symm⟩
  obtain ⟨s, rfl, hat⟩ := hs
  refine ⟨s, _, hrun, fun hf => ?_, fun hf => (h2 k hk).2 hf⟩
  have := (h2 k hk).1 hf
  rw [hat] at this
  have e : s.data.toList = (K k).data.toList := by simpa using this
  exact ByteArray.ext (Array.toList_inj.1 e)
theorem isKey {k : Int} (hk : (Lit.int .i64 k).wf = true) : WideAt.IsKeyLit (.int .i64 k) := by
  first | trivial | exact hk | (unfold WideAt.IsKeyLit; trivial) | (unfold WideAt.IsKeyLit; exact hk)
set_option maxRecDepth 100000 in
/-- m[k] = s. -/
theorem MapAt.store {w : World} {b n : Nat} {K : Int → ByteArray} (h : MapAt w b n K) (hn : n < maxLen) {k : Int} (hk : (Lit.int .i64 k).wf = true) {s : ByteArray} (hs : s.size ≤ maxLen) :
    ∃ w', (Instr.mapUpdate 58 (.map (some b)) (.int .i64 k) (.string s)).run Try.prog w = .ok () w' ∧ MapAt w' b (n + 1) (setK K k s) ∧ w.grownBy w' (some b) ∧ w'.heap.size = w.heap.size := by
  obtain ⟨D, h, h2⟩ := h
  obtain ⟨w', hrun, r1, r2⟩ := h.store (int_keyed Try.underlying3) Try.underlying58 hn (keyOf_int_mk Try.underlying3 hk) (plainElem_string Try.underlying9 hs)
  refine ⟨w', hrun, ⟨_, r1, fun j hj => ?_⟩, r2.grown, ?_⟩
  · by_cases e : j = k
    · subst e
      rw [setK_same]
      exact ⟨fun _ => Maps.atKey_put_same h.isMap (isKey hk) _ _, fun hf => by rw [Maps.has_put_same h.isMap (isKey hk)] at hf; cases hf⟩
    · have hne : (Lit.int .i64 j) ≠ (Lit.int .i64 k) := fun h' => e (by injection h')
      rw [setK_other _ _ _ e, Maps.atKey_put_other hne, Maps.has_put_other hne]
      exact h2 j hj
  · obtain ⟨es, clock, es', clock', _, rfl⟩ := r2
    simp [ChangeMaps.setBlock]
end Go.Proofs.Ytokpkkjgagbpfaa
