import Derived.Test.YtokpkkjgagbpfaaDsFrame
import Derived.Test.YtokpkkjgagbpfaaSumWalk4
import Derived.Test.YtokpkkjgagbpfaaUpA
namespace Bw
open Go
theorem wf_small {k : Int} (h0 : -9223372036854775808 ≤ k) (h1 : k ≤ 9223372036854775807) : (Lit.int .i64 k).wf = true := WalkArith.wf_i64 (by omega)
def cellsW (l : List WriteD) : List Value := l.flatMap fun w => [.int .i64 w.1, .string w.2]
theorem cellsW_append (l m : List WriteD) : cellsW (l ++ m) = cellsW l ++ cellsW m := by simp [cellsW]
theorem cellsW_length (l : List WriteD) : (cellsW l).length = l.length * 2 := by induction l with | nil => rfl | cons a l ih => simp [cellsW] at ih ⊢; omega
theorem cellsW_get : ∀ (l : List WriteD) (i : Nat) (h : i < l.length), (cellsW l)[2 * i]? = some (.int .i64 l[i].1) ∧ (cellsW l)[2 * i + 1]? = some (.string l[i].2)
  | a :: l, 0, _ => by simp [cellsW]
  | a :: l, i + 1, h => by
    have ih := cellsW_get l i (by simpa using h)
    have e : cellsW (a :: l) = .int .i64 a.1 :: .string a.2 :: cellsW l := by simp [cellsW]
    rw [e, show 2 * (i + 1) = 2 * i + 1 + 1 by omega]
    simpa using ih
/-- A slice of writes in memory of its own; e: the elements' type. -/
def WritesAt (w : World) (e : TypeId) (v : Value) (l : List WriteD) : Prop := w.ownsRow 0 e 2 v l.length (cellsW l)
theorem WritesAt.form {w : World} {e : TypeId} {v : Value} {l : List WriteD} (h : WritesAt w e v l) :
    ∃ (q : Option Addr) (cap : Nat), v = .slice q l.length cap ∧ (q = none → l = [] ∧ cap = 0) ∧ ∀ i (hi : i < l.length), ∃ b, q = some ⟨b, 0, none⟩ ∧ b < w.heap.size ∧ v.ownBlock = some b ∧ w.cell? ⟨b, i * 2, none⟩ = some (.int .i64 l[i].1) ∧ w.cell? ⟨b, i * 2 + 1, none⟩ = some (.string l[i].2) := by
  have hc := h.2
  rcases hc with ⟨rfl, hn⟩ | ⟨g, cap, cur, rfl, -, hg, -⟩
  · have e : l = [] := List.length_eq_zero_iff.1 hn
    subst e
    exact ⟨none, 0, rfl, fun _ => ⟨rfl, rfl⟩, fun i hi => absurd hi (Nat.not_lt_zero _)⟩
  · refine ⟨some ⟨g, 0, none⟩, cap, rfl, fun h => (by cases h), fun i hi => ⟨g, rfl, (Array.getElem?_eq_some_iff.1 hg).1, rfl, ?_, ?_⟩⟩
    · rw [World.ownsRow.cellAt h _ (by omega), Nat.mul_comm]; exact (cellsW_get l i hi).1
    · rw [World.ownsRow.cellAt h _ (by omega), Nat.mul_comm]; exact (cellsW_get l i hi).2
end Bw
namespace Go.Proofs.Ytokpkkjgagbpfaa
open Go.RowKit Bw Go.Maps
set_option linter.unusedVariables false

structure DiskAt (w : World) (F : Fp) (c : Nat) (d : DiskD) : Prop where
  ok : d.Ok
  ga : F.g ≠ F.a
  gq : F.q ≠ some F.g
  aq : F.q ≠ some F.a
  mem : ∃ (v : Value) (m : Nat), RowAt w F.g [.int .i64 d.n, .map (some F.a), v] ∧ MapAt w F.a m d.K ∧ m + d.W.length ≤ c ∧ WritesAt w 83 v d.W ∧ v.ownBlock = F.q
theorem DiskAt.allS {S : Nat → Prop} {w w' : World} {F : Fp} {c : Nat} {d : DiskD} (h : DiskAt w F c d) (ha : AllS S w w') (hS : ∀ k, F.has k → ¬ S k) : DiskAt w' F c d := by
  obtain ⟨v, m, h1, h2, h3, h4, h5⟩ := h.mem
  exact ⟨h.ok, h.ga, h.gq, h.aq, v, m, h1.allS ha (hS _ (.inl rfl)), h2.allS ha (hS _ (.inr (.inl rfl))), h3, ownsRow_allS h4 ha (fun k hk => hS k (.inr (.inr (h5.symm.trans hk)))), h5⟩
theorem DiskAt.up {w w' : World} {F : Fp} {c : Nat} {d : DiskD} (h : DiskAt w F c d) (hu : Up w w') : DiskAt w' F c d := h.allS (S := fun _ => False) (.of_up hu) fun _ _ => id
theorem DiskAt.mono {w : World} {F : Fp} {c c' : Nat} {d : DiskD} (h : DiskAt w F c d) (hc : c ≤ c') : DiskAt w F c' d := by
  obtain ⟨v, m, h1, h2, h3, h4, h5⟩ := h.mem
  exact ⟨h.ok, h.ga, h.gq, h.aq, v, m, h1, h2, Nat.le_trans h3 hc, h4, h5⟩
theorem DiskAt.lt {w : World} {F : Fp} {c : Nat} {d : DiskD} (h : DiskAt w F c d) : ∀ k, F.has k → k < w.heap.size := by
  obtain ⟨v, m, h1, h2, h3, h4, h5⟩ := h.mem
  rintro k (rfl | rfl | hk)
  · exact h1.lt
  · exact h2.lt
  · exact (World.ownsRow.lt h4 k (h5.trans hk)).2

set_option maxHeartbeats 400000 in
theorem disk_has {w : World} {F : Fp} {c : Nat} {d : DiskD} (h : DiskAt w F c d) (p : Int) :
    Calls Try.prog 57 #[.pointer (some ⟨F.g, 0, none⟩), .int .i64 p] w fun e w' => e = .returned (.bool (d.hasB p)) ∧ w = w' := by
  obtain ⟨v, m, h1, -⟩ := h.mem
  obtain ⟨x0, -, -, -⟩ := h1.c3
  unfold DiskD.hasB
  clear h h1
  by_cases hp : 0 ≤ p
  · rw [decide_eq_true hp, Bool.true_and]
    go_enter Try.func57, Try.ntmps57
    go_wp2_with fail
    go_ret
    exact ⟨by first | rfl | simp [*], rfl⟩
  · rw [decide_eq_false hp, Bool.false_and]
    go_enter Try.func57, Try.ntmps57
    go_wp2_with fail
    go_ret
    exact ⟨by first | rfl | simp [*], rfl⟩
set_option maxHeartbeats 400000 in
theorem disk_empty (w : World) : Calls Try.prog 78 #[] w fun e w' => e = .returned (.string page0) ∧ Below w.heap.size w w' := by
  have c1 := fun w => sum_Seal ⟨#[]⟩ w (by decide)
  rw [show sealS ⟨#[]⟩ = page0 from rfl, show sealE ⟨#[]⟩ = 0 from rfl] at c1
  have C1 := Lib.hid c1; clear c1
  have hu := Up.refl w
  go_enter Try.func78, Try.ntmps78
  go_wp2_with ((with_reducible refine (C1.out _).mono ?_); rintro e w1 ⟨rfl, hw⟩; replace hu := hu.next hw; clear hw)
  go_ret
  exact ⟨rfl, hu⟩
set_option maxHeartbeats 400000 in
theorem disk_kept {w : World} {F : Fp} {c : Nat} {d : DiskD} (h : DiskAt w F c d) (p : Int) (hp : (Lit.int .i64 p).wf = true) :
    Calls Try.prog 59 #[.pointer (some ⟨F.g, 0, none⟩), .int .i64 p] w fun e w' => e = .returned (.string (d.K p)) ∧ Below w.heap.size w w' := by
  obtain ⟨v, m, h1, h2, -⟩ := h.mem
  obtain ⟨-, x1, -, -⟩ := h1.c3
  obtain ⟨s, f, hrun, hs, hf⟩ := h2.look hp
  have C1 := Lib.hid disk_empty
  have hu := Up.refl w
  clear h h1 h2
  cases f
  · have hk := hf rfl
    rw [hk]
    clear hs hf hk
    go_enter Try.func59, Try.ntmps59
    go_wp2_with ((with_reducible refine (C1.out _).mono ?_); rintro e w1 ⟨rfl, hw⟩; replace hu := hu.next hw; clear hw)
    go_ret
    exact ⟨rfl, hu⟩
  · have hk := hs rfl
    rw [← hk]
    clear hs hf hk
    go_enter Try.func59, Try.ntmps59
    go_wp2_with fail
    go_ret
    exact ⟨rfl, hu⟩
end Go.Proofs.Ytokpkkjgagbpfaa
