/- Things in memory, each in blocks of its own: what one of them becomes changes none of the others. -/
import Derived.Test.YtiekjjejoekdeaaDsFrame
namespace Bw
open Go Go.RowKit
set_option linter.unusedVariables false

/-- A thing in memory: its blocks, and what is true of it. -/
structure Res where
  has : Nat → Prop
  holds : World → Prop
  keep : ∀ {S : Nat → Prop} {w w' : World}, AllS S w w' → (∀ k, has k → ¬ S k) → holds w → holds w'
  lt : ∀ {w : World} {k : Nat}, holds w → has k → k < w.heap.size

structure Hold (W w : World) (l : List Res) : Prop where
  up : Up W w
  all : ∀ R ∈ l, R.holds w ∧ ∀ k, R.has k → W.heap.size ≤ k
  apart : l.Pairwise (fun R T => ∀ k, R.has k → ¬ T.has k)
variable {W w w' : World} {l : List Res} {R : Res}
theorem Hold.start (W : World) : Hold W W [] := ⟨Up.refl W, fun _ h => (by cases h), .nil⟩
theorem Hold.get (h : Hold W w l) (i : Nat) (hi : l[i]? = some R) : R.holds w := (h.all R (List.mem_of_getElem? hi)).1
theorem Hold.new (h : Hold W w l) (i : Nat) (hi : l[i]? = some R) : ∀ k, R.has k → W.heap.size ≤ k := (h.all R (List.mem_of_getElem? hi)).2
theorem Hold.next (h : Hold W w l) (hu : Below w.heap.size w w') : Hold W w' l :=
  ⟨h.up.next hu, fun R hR => ⟨R.keep (S := fun _ => False) (.of_up hu) (fun _ _ => id) (h.all R hR).1, (h.all R hR).2⟩, h.apart⟩
theorem Hold.add (h : Hold W w l) (hu : Below w.heap.size w w') (R : Res) (hR : R.holds w') (hn : ∀ k, R.has k → w.heap.size ≤ k) : Hold W w' (l ++ [R]) := by
  have h2 := h.next hu
  refine ⟨h2.up, fun T hT => ?_, ?_⟩
  · rcases List.mem_append.1 hT with hT | hT
    · exact h2.all T hT
    · obtain rfl := List.mem_singleton.1 hT
      exact ⟨hR, fun k hk => Nat.le_trans (Below.size h.up) (hn k hk)⟩
  · refine List.pairwise_append.2 ⟨h2.apart, List.pairwise_singleton _ _, fun T hT S hS k hk hk' => ?_⟩
    obtain rfl := List.mem_singleton.1 hS
    have h3 := T.lt (h.all T hT).1 hk
    have h4 := hn k hk'
    omega
theorem pairwise_apart : ∀ {l : List Res} {i : Nat} {R : Res} {n : Nat} (R' : Res), l.Pairwise (fun R T => ∀ k, R.has k → ¬ T.has k) → l[i]? = some R → (∀ T ∈ l, ∀ k, T.has k → k < n) → (∀ k, R'.has k → R.has k ∨ n ≤ k) → (l.set i R').Pairwise (fun R T => ∀ k, R.has k → ¬ T.has k)
  | T :: l, 0, R, n, R', hp, hi, hlt, hT => by
    obtain rfl : T = R := by simpa using hi
    obtain ⟨h1, h2⟩ := List.pairwise_cons.1 hp
    refine List.pairwise_cons.2 ⟨fun X hX k hk hk' => ?_, h2⟩
    rcases hT k hk with hk | hk
    · exact h1 X hX k hk hk'
    · have := hlt X (List.mem_cons_of_mem _ hX) k hk'; omega
  | T :: l, i + 1, R, n, R', hp, hi, hlt, hT => by
    obtain ⟨h1, h2⟩ := List.pairwise_cons.1 hp
    have hi' : l[i]? = some R := by simpa using hi
    refine List.pairwise_cons.2 ⟨fun X hX k hk hk' => ?_, pairwise_apart R' h2 hi' (fun X hX => hlt X (List.mem_cons_of_mem _ hX)) hT⟩
    rcases List.mem_or_eq_of_mem_set hX with hX | rfl
    · exact h1 X hX k hk hk'
    · rcases hT k hk' with hk' | hk'
      · exact h1 R (List.mem_of_getElem? hi') k hk hk'
      · have := hlt T List.mem_cons_self k hk; omega
theorem pairwise_other : ∀ {l : List Res} {i j : Nat} {R T : Res}, l.Pairwise (fun R T => ∀ k, R.has k → ¬ T.has k) → l[i]? = some R → l[j]? = some T → i ≠ j → ∀ k, R.has k → ¬ T.has k
  | X :: l, 0, 0, _, _, _, _, _, hn => absurd rfl hn
  | X :: l, 0, j + 1, R, T, hp, hi, hj, _ => by
    obtain rfl : X = R := by simpa using hi
    exact (List.pairwise_cons.1 hp).1 T (List.mem_of_getElem? (by simpa using hj))
  | X :: l, i + 1, 0, R, T, hp, hi, hj, _ => by
    obtain rfl : X = T := by simpa using hj
    exact fun k hk hk' => (List.pairwise_cons.1 hp).1 R (List.mem_of_getElem? (by simpa using hi)) k hk' hk
  | X :: l, i + 1, j + 1, R, T, hp, hi, hj, hn => pairwise_other (List.pairwise_cons.1 hp).2 (i := i) (j := j) (by simpa using hi) (by simpa using hj) (by omega)
theorem Hold.apart' (h : Hold W w l) (i j : Nat) {T : Res} (hi : l[i]? = some R) (hj : l[j]? = some T) (hn : i ≠ j) : ∀ k, R.has k → ¬ T.has k := pairwise_other h.apart hi hj hn
theorem Hold.step (h : Hold W w l) (i : Nat) (hi : l[i]? = some R) (R' : Res) (hR : R'.holds w') (hT : ∀ k, R'.has k → R.has k ∨ w.heap.size ≤ k) (hA : AllS R.has w w') : Hold W w' (l.set i R') := by
  refine ⟨Up.allS h.up hA (h.new i hi), fun T hT' => ?_, pairwise_apart R' h.apart hi (fun T hT k hk => T.lt (h.all T hT).1 hk) hT⟩
  rcases List.mem_or_eq_of_mem_set hT' with hm | rfl
  · obtain ⟨j, hj⟩ := List.getElem?_of_mem hT'
    by_cases e : i = j
    · subst e
      have : T = R' := by
        rw [List.getElem?_set_self (List.getElem?_eq_some_iff.1 hi).1] at hj
        exact (Option.some.inj hj).symm
      subst this
      exact ⟨hR, fun k hk => (hT k hk).elim (h.new i hi k) (fun h' => Nat.le_trans (Below.size h.up) h')⟩
    · rw [List.getElem?_set_ne e] at hj
      exact ⟨T.keep hA (fun k hk hk' => h.apart' j i hj hi (fun e' => e e'.symm) k hk hk') (h.all T hm).1, (h.all T hm).2⟩
  · exact ⟨hR, fun k hk => (hT k hk).elim (h.new i hi k) (fun h' => Nat.le_trans (Below.size h.up) h')⟩
theorem Hold.drop (h : Hold W w (l ++ [R])) : Hold W w l := ⟨h.up, fun T hT => h.all T (List.mem_append_left _ hT), (List.pairwise_append.1 h.apart).1⟩
theorem Hold.sub {l' : List Res} (h : Hold W w l) (hs : l'.Sublist l) : Hold W w l' := ⟨h.up, fun T hT => h.all T (hs.subset hT), h.apart.sublist hs⟩
/-- Blocks of cells. -/
def rowR (g : Nat) (v : Value) (l : List Value) : Res := ⟨fun k => k = g, fun w => RowAt w g (v :: l), fun hA hk h => h.allS hA (hk g rfl), fun {w k} h hk => by have hk' : k = g := hk; rw [hk']; exact h.lt⟩
end Bw
