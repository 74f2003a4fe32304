/- Acts in memory, each with where its numbers lie (for any seat). No program in sight. -/
import Derived.Test.YtkkgcmnipdkeeaaDoorScOpen
import Derived.Test.YtkkgcmnipdkeeaaDoorScAct
namespace Bw
open Go Go.RowKit
set_option linter.unusedVariables false
/-- An act, where its numbers lie, and their slice's capacity. -/
abbrev ActI := ActD × Option Addr × Nat
def actsC (l : List ActI) : List Value := l.flatMap fun x => actC x.1 x.2.1 x.2.2
theorem actsC_append (a b : List ActI) : actsC (a ++ b) = actsC a ++ actsC b := by simp [actsC]
theorem actsC_length : ∀ l : List ActI, (actsC l).length = l.length * 6
  | [] => rfl
  | x :: l => by
    have := actsC_length l
    simp only [actsC, List.flatMap_cons, List.length_append, List.length_cons] at *
    rw [this]; simp [actC]; omega
theorem actsC_at : ∀ (l : List ActI) (i : Nat) (h : i < l.length) (j : Nat), j < 6 → (actsC l)[i * 6 + j]? = (actC l[i].1 l[i].2.1 l[i].2.2)[j]?
  | x :: l, 0, h, j, hj => by
    simp only [actsC, List.flatMap_cons, List.getElem_cons_zero, Nat.zero_mul, Nat.zero_add]
    rw [List.getElem?_append_left (by simp [actC]; omega)]
  | x :: l, i + 1, h, j, hj => by
    have ih := actsC_at l i (by simpa using h) j hj
    simp only [actsC, List.flatMap_cons, List.getElem_cons_succ] at *
    rw [List.getElem?_append_right (by simp [actC]; omega), ← ih]
    congr 1
    simp [actC]; omega
theorem actsC_one (l : List ActI) : ∀ u ∈ actsC l, u.oneCell' = true := by
  intro u hu
  unfold actsC at hu
  rw [List.mem_flatMap] at hu
  obtain ⟨x, -, hu⟩ := hu
  simp [actC] at hu
  rcases hu with rfl | rfl | rfl | rfl | rfl | rfl <;> rfl
/-- All acts' numbers, as one thing in memory. -/
def fatesM (l : List ActI) : Res := ⟨fun k => ∃ p ∈ l, ∃ x, p.2.1 = some x ∧ x.block = k, fun w => ∀ p ∈ l, IntsAt w p.2.1 p.1.f ∧ ∀ x, p.2.1 = some x → x.block < w.heap.size,
  fun hA hk h p hp => ⟨(h p hp).1.allS hA fun _ x hx => hk _ ⟨p, hp, x, hx, rfl⟩, fun x hx => Nat.lt_of_lt_of_le ((h p hp).2 x hx) hA.size⟩,
  fun h hk => by obtain ⟨p, hp, x, hx, rfl⟩ := hk; exact (h p hp).2 x hx⟩
theorem Hold.fates0 {W w : World} {l : List Res} (h : Hold W w l) : Hold W w (l ++ [fatesM []]) :=
  h.add (Below.refl _ w) (fatesM []) (fun p hp => by cases hp) (fun k hk => by obtain ⟨p, hp, -⟩ := hk; cases hp)
theorem Hold.fatesL {W w : World} {L : List Res} {l : List ActI} {a : ActD} {q : Option Addr} {c : Nat} (h : Hold W w (L ++ [fatesM l, intsR q a.f])) : Hold W w (L ++ [fatesM (l ++ [(a, q, c)])]) := by
  obtain ⟨p1, p2, p3⟩ := List.pairwise_append.1 h.apart
  refine ⟨h.up, fun R hR => ?_, ?_⟩
  · rcases List.mem_append.1 hR with hR | hR
    · exact h.all _ (List.mem_append_left _ hR)
    · obtain rfl := List.mem_singleton.1 hR
      obtain ⟨h1, h2⟩ := h.all (fatesM l) (by simp)
      obtain ⟨h3, h4⟩ := h.all (intsR q a.f) (by simp)
      refine ⟨fun p hp => ?_, fun k hk => ?_⟩
      · rcases List.mem_append.1 hp with hp | hp
        · exact h1 p hp
        · rw [List.mem_singleton.1 hp]; exact h3
      · obtain ⟨p, hp, x, hx, rfl⟩ := hk
        rcases List.mem_append.1 hp with hp | hp
        · exact h2 _ ⟨p, hp, x, hx, rfl⟩
        · rw [List.mem_singleton.1 hp] at hx; exact h4 _ ⟨x, hx, rfl⟩
  · refine List.pairwise_append.2 ⟨p1, List.pairwise_singleton _ _, fun R hR T hT k hk hk' => ?_⟩
    obtain rfl := List.mem_singleton.1 hT
    obtain ⟨p, hp, x, hx, rfl⟩ := hk'
    rcases List.mem_append.1 hp with hp | hp
    · exact p3 R hR (fatesM l) (by simp) _ hk ⟨p, hp, x, hx, rfl⟩
    · rw [List.mem_singleton.1 hp] at hx; exact p3 R hR (intsR q a.f) (by simp) _ hk ⟨x, hx, rfl⟩
theorem Hold.fates1 {W w : World} {A B : Res} {l : List ActI} {a : ActD} {q : Option Addr} {c : Nat} (h : Hold W w [A, B, fatesM l, intsR q a.f]) : Hold W w [A, B, fatesM (l ++ [(a, q, c)])] := Hold.fatesL (L := [A, B]) h
theorem Hold.fates2 {W w : World} {A : Res} {l : List ActI} {a : ActD} {q : Option Addr} {c : Nat} (h : Hold W w [A, fatesM l, intsR q a.f]) : Hold W w [A, fatesM (l ++ [(a, q, c)])] := Hold.fatesL (L := [A]) h
/-- How long a slice is. -/
def lenOf (v : Value) : Nat := match v with | .slice _ n _ => n | _ => 0
end Bw
