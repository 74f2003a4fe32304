/- All blocks stay but those of a set; maps from numbers to bytes; disks in memory. -/
import Derived.Maps.OwnSet
import Derived.Maps.AppendAt
import Derived.Laws.OwnMore
import Derived.Test.YtiekjjejoekdeaaRelRegion2
import Derived.Test.YtiekjjejoekdeaaDsPure
import Derived.Test.YtiekjjejoekdeaaFieldWalk1
namespace Bw
open Go Go.RowKit
set_option linter.unusedVariables false

structure AllS (S : Nat → Prop) (w w' : World) : Prop where
  os : w'.os = w.os
  tape : w'.tape = w.tape
  output : w'.output = w.output
  size : w.heap.size ≤ w'.heap.size
  block : ∀ k, k < w.heap.size → ¬ S k → w'.heap[k]? = w.heap[k]?
variable {S T : Nat → Prop} {a b c w w' W : World}
theorem AllS.refl (S : Nat → Prop) (w : World) : AllS S w w := ⟨rfl, rfl, rfl, Nat.le_refl _, fun _ _ _ => rfl⟩
theorem AllS.trans' (h : AllS S a b) (k : AllS T b c) (hst : ∀ i, i < a.heap.size → T i → S i) : AllS S a c :=
  ⟨k.os.trans h.os, k.tape.trans h.tape, k.output.trans h.output, Nat.le_trans h.size k.size, fun i hi hg => (k.block i (Nat.lt_of_lt_of_le hi h.size) (fun ht => hg (hst i hi ht))).trans (h.block i hi hg)⟩
theorem AllS.trans (h : AllS S a b) (k : AllS S b c) : AllS S a c := h.trans' k fun _ _ h => h
theorem AllS.mono (h : AllS S a b) (hst : ∀ i, S i → T i) : AllS T a b := ⟨h.os, h.tape, h.output, h.size, fun i hi hg => h.block i hi fun hs => hg (hst i hs)⟩
theorem AllS.of_up (h : Up w w') : AllS S w w' := ⟨h.os, h.tape, h.output, h.size, fun k hk _ => h.block k hk⟩
theorem AllS.up (h : AllS S a w) (hu : Up w w') : AllS S a w' := h.trans (.of_up hu)
theorem AllS.next (h : AllS S a w) (hu : Below w.heap.size w w') : AllS S a w' := h.trans (.of_up hu)
theorem AllS.setCell (h : AllS S a w) (g o : Nat) (v : Value) (hg : S g ∨ a.heap.size ≤ g) : AllS S a (w.setCell ⟨g, o, none⟩ v) := by
  refine ⟨h.os, h.tape, h.output, by rw [World.size_setCell]; exact h.size, fun k hk hn => ?_⟩
  rw [Below.heap_setCell w ⟨g, o, none⟩ v k (fun e => by subst e; exact hg.elim hn (fun h' => by omega))]
  exact h.block k hk hn
theorem AllS.alloc (h : AllS S a w) (o : Obj) : AllS S a (w.alloc o) := h.up ((Up.refl w).alloc o)
theorem AllS.drew (h : AllS S a w) : AllS S a w.drew := h.up (Up.refl w).drew
theorem AllS.grown {row : Option Nat} (h : AllS S a w) (hg : w.grownBy w' row) (hr : ∀ k, row = some k → S k ∨ a.heap.size ≤ k) : AllS S a w' :=
  ⟨hg.os.trans h.os, hg.tape.trans h.tape, hg.output.trans h.output, Nat.le_trans h.size hg.size, fun k hk hn => (hg.block k (Nat.lt_of_lt_of_le hk h.size) (fun e => (hr k e.symm).elim hn (fun h' => by omega))).trans (h.block k hk hn)⟩
theorem RowAt.allS {g : Nat} {v : Value} {l : List Value} (h : RowAt w g (v :: l)) (ha : AllS S w w') (hne : ¬ S g) : RowAt w' g (v :: l) := by
  have hb := ha.block g h.lt hne
  exact ⟨fun j hj => (World.cell?_of_block (a := ⟨g, j, none⟩) hb).trans (h.cell j hj), fun j hj => (World.frozen?_of_block (a := ⟨g, j, none⟩) hb).trans (h.free j hj)⟩
theorem Up.allS (h : Up W w) (ha : AllS S w w') (hg : ∀ k, S k → W.heap.size ≤ k) : Up W w' :=
  Below.trans h ⟨ha.os, ha.tape, ha.output, ha.size, fun k hk => ha.block k (Nat.lt_of_lt_of_le hk (Below.size h)) (fun hs => by have := hg k hs; omega)⟩
theorem AllS.cell (h : AllS S w w') {p : Addr} {v : Value} (hc : w.cell? p = some v) (hne : ¬ S p.block) : w'.cell? p = some v :=
  (World.cell?_of_block (h.block p.block (World.block_lt_of_cell? w p hc) hne)).trans hc
theorem AllS.grownBy {row : Option Nat} (h : AllS S w w') (hS : ∀ k, S k → some k = row) : w.grownBy w' row := ⟨h.os, h.tape, h.output, h.size, fun k hk hn => h.block k hk fun hs => hn (hS k hs)⟩
theorem ownsRow_allS {base : Nat} {e : TypeId} {size : Nat} {v : Value} {n : Nat} {xs : List Value} (h : w.ownsRow base e size v n xs) (hu : AllS S w w') (hg : ∀ k, v.ownBlock = some k → ¬ S k) : w'.ownsRow base e size v n xs := by
  refine ⟨h.1, ?_⟩
  rcases h.2 with hn | ⟨b, cap, cur, rfl, hb, hgg, rest⟩
  · exact .inl hn
  · refine .inr ⟨b, cap, cur, rfl, hb, ?_, rest⟩
    rw [hu.block b (Array.getElem?_eq_some_iff.1 hgg).1 (hg b rfl)]
    exact hgg

theorem RowAt.grownBy {w w' : World} {row : Option Nat} {g : Nat} {v : Value} {l : List Value} (h : RowAt w g (v :: l)) (hg : w.grownBy w' row) (hne : ∀ k, row = some k → k ≠ g) : RowAt w' g (v :: l) := by
  have hb := hg.block g h.lt (fun e => hne g e.symm rfl)
  exact ⟨fun j hj => (World.cell?_of_block (a := ⟨g, j, none⟩) hb).trans (h.cell j hj), fun j hj => (World.frozen?_of_block (a := ⟨g, j, none⟩) hb).trans (h.free j hj)⟩
theorem RowAt.addsAt {w : World} {g : Nat} {l : List Value} (h : RowAt w g l) : ∀ j u, l[j]? = some u → w.cell? ((⟨g, 0, none⟩ : Addr).add j) = some u := by
  intro j u hj
  have hadd : (⟨g, 0, none⟩ : Addr).add j = ⟨g, j, none⟩ := by unfold Addr.add; split <;> simp_all
  obtain ⟨hlt, rfl⟩ := List.getElem?_eq_some_iff.1 hj
  rw [hadd]
  exact h.cell j hlt

/-- The blocks of a disk. -/
structure Fp where
  g : Nat
  a : Nat
  q : Option Nat
def Fp.has (F : Fp) (k : Nat) : Prop := k = F.g ∨ k = F.a ∨ F.q = some k
/-- All of a disk's blocks are at b, or behind it. -/
def Fp.from (F : Fp) (b : Nat) : Prop := ∀ k, F.has k → b ≤ k
def Fp.apart (F G : Fp) : Prop := ∀ k, F.has k → ¬ G.has k
/-- What a call may make of a disk's blocks: the writes may lie in a new one. -/
def Fp.turns (F F' : Fp) (n : Nat) : Prop := F'.g = F.g ∧ F'.a = F.a ∧ ∀ k, F'.q = some k → F.q = some k ∨ n ≤ k
theorem Fp.turns.refl (F : Fp) (n : Nat) : F.turns F n := ⟨rfl, rfl, fun k h => .inl h⟩
theorem Fp.turns.has {F F' : Fp} {n : Nat} (h : F.turns F' n) {k : Nat} (hk : F'.has k) : F.has k ∨ n ≤ k := by
  rcases hk with rfl | rfl | hk
  · exact .inl (.inl h.1)
  · exact .inl (.inr (.inl h.2.1))
  · exact (h.2.2 k hk).imp (fun h => .inr (.inr h)) id
theorem Fp.turns.from {F F' : Fp} {n b : Nat} (h : F.turns F' n) (hF : F.from b) (hb : b ≤ n) : F'.from b := fun k hk => (h.has hk).elim (hF k) (fun h' => Nat.le_trans hb h')
theorem Fp.turns.trans {F F' F'' : Fp} {n m : Nat} (h : F.turns F' n) (k : F'.turns F'' m) (hnm : n ≤ m) : F.turns F'' n :=
  ⟨k.1.trans h.1, k.2.1.trans h.2.1, fun i hi => (k.2.2 i hi).elim (h.2.2 i) (fun h' => .inr (Nat.le_trans hnm h'))⟩
theorem Fp.apart.symm {F G : Fp} (h : F.apart G) : G.apart F := fun k hk hg => h k hg hk
end Bw
namespace Go.Proofs.Ytiekjjejoekdeaa
open Go.RowKit Bw Go.Maps
set_option linter.unusedVariables false

def MapAt (w : World) (b n : Nat) (K : Int → ByteArray) : Prop :=
  ∃ D : DataW Unit, w.ownsMap Try.prog 3 (plainElem Try.prog 9) b n D ∧ ∀ k : Int, (Lit.int .i64 k).wf = true →
    (Maps.has D (.int .i64 k) = true → D.atKey (.int .i64 k) (.lit (.string [])) = .lit (.string (K k).data.toList)) ∧ (Maps.has D (.int .i64 k) = false → K k = page0)
theorem MapAt.lt {w : World} {b n : Nat} {K : Int → ByteArray} (h : MapAt w b n K) : b < w.heap.size := by obtain ⟨D, h, _⟩ := h; exact h.lt
theorem MapAt.allS {S : Nat → Prop} {w w' : World} {b n : Nat} {K : Int → ByteArray} (h : MapAt w b n K) (ha : AllS S w w') (hb : ¬ S b) : MapAt w' b n K := by
  obtain ⟨D, h, h2⟩ := h
  obtain ⟨es, clock, hh, r⟩ := h
  exact ⟨D, ⟨es, clock, (ha.block b (Array.getElem?_eq_some_iff.1 hh).1 hb).trans hh, r⟩, h2⟩
theorem MapAt.up {w w' : World} {b n : Nat} {K : Int → ByteArray} (h : MapAt w b n K) (hu : Up w w') : MapAt w' b n K := h.allS (S := fun _ => False) (.of_up hu) id
theorem MapAt.mono {w : World} {b n n' : Nat} {K : Int → ByteArray} (h : MapAt w b n K) (hn : n ≤ n') : MapAt w b n' K := by obtain ⟨D, h, h2⟩ := h; exact ⟨D, h.mono hn, h2⟩
theorem MapAt.made (w : World) : MapAt (w.alloc (.map #[] 0)) w.heap.size 0 (fun _ => page0) :=
  ⟨_, World.ownsMap_made w _ _ _, fun k _ => ⟨fun h => (by cases h), fun _ => rfl⟩⟩

/-- What m[k] answers: the bytes, and whether they are there. -/
theorem MapAt.look {w : World} {b n : Nat} {K : Int → ByteArray} (h : MapAt w b n K) {k : Int} (hk : (Lit.int .i64 k).wf = true) :
    ∃ (s : ByteArray) (f : Bool), (Instr.lookup 55 (.map (some b)) (.int .i64 k) true).run Try.prog w = .ok (.tuple #[.string s, .bool f]) w ∧ (f = true → s = K k) ∧ (f = false → K k = page0) := by
  obtain ⟨D, h, h2⟩ := h
  obtain ⟨v, ps, hrun, hv⟩ := h.look_ok (int_keyed Try.underlying3) Try.underlying55 (Try.zeroValue9 w) (plainElem_string Try.underlying9 (s := ⟨#[]⟩) (by decide)) (keyOf_int_mk Try.underlying3 hk)
  have hs : ∃ s : ByteArray, v = .string s ∧ D.atKey (.int .i64 k) (.lit (.string [])) = .lit (.string s.data.toList) := by
    unfold plainElem at hv
    rw [Try.underlying9] at hv
    cases v <;> simp at hv
    rename_i s
    exact ⟨s, rfl, hv.2.1.symm⟩
  obtain ⟨s, rfl, hat⟩ := hs
  refine ⟨s, _, hrun, fun hf => ?_, fun hf => (h2 k hk).2 hf⟩
  have := (h2 k hk).1 hf
  rw [hat] at this
  have e : s.data.toList = (K k).data.toList := by simpa using this
  exact ByteArray.ext (Array.toList_inj.1 e)
theorem isKey {k : Int} (hk : (Lit.int .i64 k).wf = true) : WideAt.IsKeyLit (.int .i64 k) := by
  first | trivial | exact hk | (unfold WideAt.IsKeyLit; trivial) | (unfold WideAt.IsKeyLit; exact hk)
/-- m[k] = s. -/
theorem MapAt.store {w : World} {b n : Nat} {K : Int → ByteArray} (h : MapAt w b n K) (hn : n < maxLen) {k : Int} (hk : (Lit.int .i64 k).wf = true) {s : ByteArray} (hs : s.size ≤ maxLen) :
    ∃ w', (Instr.mapUpdate 55 (.map (some b)) (.int .i64 k) (.string s)).run Try.prog w = .ok () w' ∧ MapAt w' b (n + 1) (setK K k s) ∧ w.grownBy w' (some b) ∧ w'.heap.size = w.heap.size := by
  obtain ⟨D, h, h2⟩ := h
  obtain ⟨w', hrun, r1, r2⟩ := h.store (int_keyed Try.underlying3) Try.underlying55 hn (keyOf_int_mk Try.underlying3 hk) (plainElem_string Try.underlying9 hs)
  refine ⟨w', hrun, ⟨_, r1, fun j hj => ?_⟩, r2.grown, ?_⟩
  · by_cases e : j = k
    · subst e
      rw [setK_same]
      exact ⟨fun _ => Maps.atKey_put_same h.isMap (isKey hk) _ _, fun hf => by rw [Maps.has_put_same h.isMap (isKey hk)] at hf; cases hf⟩
    · have hne : (Lit.int .i64 j) ≠ (Lit.int .i64 k) := fun h' => e (by injection h')
      rw [setK_other _ _ _ e, Maps.atKey_put_other hne, Maps.has_put_other hne]
      exact h2 j hj
  · obtain ⟨es, clock, es', clock', _, rfl⟩ := r2
    simp [ChangeMaps.setBlock]
end Go.Proofs.Ytiekjjejoekdeaa
