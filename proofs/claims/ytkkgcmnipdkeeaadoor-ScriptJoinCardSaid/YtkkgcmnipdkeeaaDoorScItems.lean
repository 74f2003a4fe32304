/- Acts in memory, each with where its numbers lie (for any seat). No program in sight. -/
import Derived.Test.YtkkgcmnipdkeeaaDoorScOpen
import Derived.Test.YtkkgcmnipdkeeaaDoorScAct
namespace Bw
open Go Go.RowKit
set_option linter.unusedVariables false
/-- An act, where its numbers lie, and their slice's capacity. -/
abbrev ActI := ActD × Option Addr × Nat
def actsC (l : List ActI) : List Value := l.flatMap fun x => actC x.1 x.2.1 x.2.2
theorem actsC_append (a b : List ActI) : actsC (a ++ b) = actsC a ++ actsC b := by simp [actsC]
theorem actsC_length : ∀ l : List ActI, (actsC l).length = l.length * 6
  | [] => rfl
  | x :: l => by
    have := actsC_length l
    simp only [actsC, List.flatMap_cons, List.length_append, List.length_cons] at *
    rw [this]; simp [actC]; omega
theorem actsC_at : ∀ (l : List ActI) (i : Nat) (h : i < l.length) (j : Nat), j < 6 → (actsC l)[i * 6 + j]? = (actC l[i].1 l[i].2.1 l[i].2.2)[j]?
  | x :: l, 0, h, j, hj => by
    simp only [actsC, List.flatMap_cons, List.getElem_cons_zero, Nat.zero_mul, Nat.zero_add]
    rw [List.getElem?_append_left (by simp [actC]; omega)]
  | x :: l, i + 1, h, j, hj => by
    have ih := actsC_at l i (by simpa using h) j hj
    simp only [actsC, List.flatMap_cons, List.getElem_cons_succ] at *
    rw [List.getElem?_append_right (by simp [actC]; omega), ← ih]
    congr 1
    simp [actC]; omega
theorem actsC_one (l : List ActI) : ∀ u ∈ actsC l, u.oneCell' = true := by
  intro u hu
  unfold actsC at hu
  rw [List.mem_flatMap] at hu
  obtain ⟨x, -, hu⟩ := hu
  simp [actC] at hu
  rcases hu with rfl | rfl | rfl | rfl | rfl | rfl <;> rfl
/-- All acts' numbers, as one thing in memory. -/
def fatesM (l : List ActI) : Res := ⟨fun k => ∃ p ∈ l, ∃ x, p.2.1 = some x ∧ x.block = k, fun w => ∀ p ∈ l, IntsAt w p.2.1 p.1.f ∧ ∀ x, p.2.1 = some x → x.block < w.heap.size,
  fun hA hk h p hp => ⟨(h p hp).1.allS hA fun _ x hx => hk _ ⟨p, hp, x, hx, rfl⟩, fun x hx => Nat.lt_of_lt_of_le ((h p hp).2 x hx) hA.size⟩,
  fun h hk => by obtain ⟨p, hp, x, hx, rfl⟩ := hk; exact (h p hp).2 x hx⟩
theorem Hold.fates0 {W w : World} {l : List Res} (h : Hold W w l) : Hold W w (l ++ [fatesM []]) :=
  h.add (Below.refl _ w) (fatesM []) (fun p hp => by cases hp) (fun k hk => by obtain ⟨p, hp, -⟩ := hk; cases hp)
theorem Hold.fatesL {W w : World} {L : List Res} {l : List ActI} {a : ActD} {q : Option Addr} {c : Nat} (h : Hold W w (L ++ [fatesM l, intsR q a.f])) : Hold W w (L ++ [fatesM (l ++ [(a, q, c)])]) := by
  obtain ⟨p1, p2, p3⟩ := List.pairwise_append.1 h.apart
  refine ⟨h.up, fun R hR => ?_, ?_⟩
  · rcases List.mem_append.1 hR with hR | hR
    · exact h.all _ (List.mem_append_left _ hR)
    · obtain rfl := List.mem_singleton.1 hR
      obtain ⟨h1, h2⟩ := h.all (fatesM l) (by simp)
      obtain ⟨h3, h4⟩ := h.all (intsR q a.f) (by simp)
      refine ⟨fun p hp => ?_, fun k hk => ?_⟩
      · rcases List.mem_append.1 hp with hp | hp
        · exact h1 p hp
        · rw [List.mem_singleton.1 hp]; exact h3
      · obtain ⟨p, hp, x, hx, rfl⟩ := hk
        rcases List.mem_append.1 hp with hp | hp
        · exact h2 _ ⟨p, hp, x, hx, rfl⟩
        · rw [List.mem_singleton.1 hp] at hx; exact h4 _ ⟨x, hx, rfl⟩
  · refine List.pairwise_append.2 ⟨p1, List.pairwise_singleton _ _, fun R hR T hT k hk hk' => ?_⟩
    obtain rfl := List.mem_singleton.1 hT
    obtain ⟨p, hp, x, hx, rfl⟩ := hk'
    rcases List.mem_append.1 hp with hp | hp
    · exact p3 R hR (fatesM l) (by simp) _ hk ⟨p, hp, x, hx, rfl⟩
    · rw [List.mem_singleton.1 hp] at hx; exact p3 R hR (intsR q a.f) (by simp) _ hk ⟨x, hx, rfl⟩
theorem Hold.fates1 {W w : World} {A B : Res} {l : List ActI} {a : ActD} {q : Option Addr} {c : Nat} (h : Hold W w [A, B, fatesM l, intsR q a.f]) : Hold W w [A, B, fatesM (l ++ [(a, q, c)])] := Hold.fatesL (L := [A, B]) h
theorem Hold.fates2 {W w : World} {A : Res} {l : List ActI} {a : ActD} {q : Option Addr} {c : Nat} (h : Hold W w [A, fatesM l, intsR q a.f]) : Hold W w [A, fatesM (l ++ [(a, q, c)])] := Hold.fatesL (L := [A]) h
/-- How long a slice is. -/
def lenOf (v : Value) : Nat := match v with | .slice _ n _ => n | _ => 0
end Bw
namespace Bw
open Go Go.RowKit
/-- Where acts that the law holds may be read. -/
def ItemsAt (w : World) (q : Option Addr) (I : List ActI) : Prop := ∀ i (h : i < I.length), (∃ g, q = some ⟨g, 0, none⟩ ∧ ∀ j v, (actC I[i].1 I[i].2.1 I[i].2.2)[j]? = some v → w.cell? ⟨g, i * 6 + j, none⟩ = some v) ∧ IntsAt w I[i].2.1 I[i].1.f
theorem ItemsAt.up {w w' : World} {q : Option Addr} {I : List ActI} (h : ItemsAt w q I) (hu : Up w w') : ItemsAt w' q I := fun i hi => by
  obtain ⟨⟨g, hq, hc⟩, h2⟩ := h i hi
  exact ⟨⟨g, hq, fun j v hj => (AllS.of_up (S := fun _ => False) hu).cell (hc j v hj) id⟩, h2.up hu⟩
theorem items_of {w : World} {e : TypeId} {q : Option Addr} {c : Nat} {I : List ActI} (h1 : (ownZ e 6 (.slice q I.length c) I.length (actsC I)).holds w) (h2 : (fatesM I).holds w) : ItemsAt w q I := fun i hi => by
  obtain ⟨q', cap, e1, -, hb⟩ := ownZ_form h1
  obtain ⟨b, rfl, -, hb2⟩ := hb (by omega)
  injection e1 with e2 e3 e4
  subst e2
  refine ⟨⟨b, rfl, fun j v hj => ?_⟩, (h2 I[i] (List.getElem_mem hi)).1⟩
  have hj6 : j < 6 := by have := (List.getElem?_eq_some_iff.1 hj).1; simpa [actC] using this
  rw [hb2 (i * 6 + j) (by omega), actsC_at I i hi j hj6]
  exact hj
theorem map_fst_get {I J : List ActI} (h : I.map (·.1) = J.map (·.1)) (i : Nat) (hi : i < I.length) (hj : i < J.length) : I[i].1 = J[i].1 := by
  have h2 := congrArg (fun l => l[i]?) h
  simp only [List.getElem?_map, List.getElem?_eq_getElem hi, List.getElem?_eq_getElem hj, Option.map_some, Option.some.injEq] at h2
  exact h2
theorem enc_size {a : ActD} (h : a.right = true) : a.enc.size = a.encL.length := by rw [ActD.enc, if_pos h, size_str]
theorem actsD_right (s : ByteArray) : ∀ a ∈ actsD s, a.right = true := by
  intro a ha
  rcases actsE_or s with ⟨-, as', h1, -, h3⟩ | ⟨-, h2, -⟩
  · rw [h3] at ha; exact (actsO_iff.1 h1).2 a ha
  · rw [h2] at ha; cases ha
theorem actsD_len (s : ByteArray) : (actsD s).length ≤ 400 := by
  rcases actsE_or s with ⟨-, as', -, h2, h3⟩ | ⟨-, h2, -⟩
  · rw [h3]; exact h2
  · rw [h2]; simp
theorem items_len {s : ByteArray} {I : List ActI} (h : I.map (·.1) = actsD s) (i : Nat) (hi : i < I.length) : I[i].1.right = true ∧ I[i].1.f.length ≤ 60 := by
  have hm : I[i].1 ∈ actsD s := by rw [← h]; exact List.mem_map.2 ⟨I[i], List.getElem_mem hi, rfl⟩
  have hr := actsD_right s _ hm
  exact ⟨hr, (ActD.ok hr).f2⟩
end Bw
namespace Go.Proofs.YtkkgcmnipdkeeaaDoor
open Go.RowKit Bw
theorem str_none (B : ByteArray) : (B.toList == ByteArray.toList ⟨#[]⟩) = decide (B.size = 0) := by
  rw [show (B.toList == ByteArray.toList ⟨#[]⟩) = decide (B = ByteArray.empty) from str_eqB B ByteArray.empty]
  congr 1
  refine propext ⟨fun h => by rw [h]; rfl, fun h => ByteArray.size_eq_zero_iff.1 h⟩
theorem str_some {B : ByteArray} (h : 1 ≤ B.size) : B.toList.isEmpty = false ∧ ¬ B.toList = [] := by
  have h2 : ¬ B.toList = [] := fun e => by
    have h3 : (B.toList == ByteArray.toList ⟨#[]⟩) = true := by rw [e]; simp
    rw [str_none] at h3
    have := of_decide_eq_true h3
    omega
  refine ⟨?_, h2⟩
  cases h3 : B.toList with
  | nil => exact absurd h3 h2
  | cons a l => rfl
end Go.Proofs.YtkkgcmnipdkeeaaDoor
