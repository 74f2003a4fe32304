import Derived.Test.YtbjnklgicakndaaPgRight
namespace Go.Proofs.Ytbjnklgicakndaa
open Go.RowKit Bw
set_option linter.unusedVariables false

theorem ref20_top (w : World) : Calls Try.prog 30 #[] w fun e w' => e = .returned (.int .i64 1099511627775) ∧ w = w' := by
  go_enter Try.func30, Try.ntmps30
  go_wp2_with fail
  go_ret
  exact ⟨rfl, rfl⟩

theorem law20_ref (p u o : Int) (w : World) : Calls Try.prog 10 #[progV p u o] w fun e w' => e = .returned (progV p u o) ∧ Below w.heap.size w w' := by
  unfold progV
  go_enter Try.func10, Try.ntmps10
  go_wp2_with fail
  refine bodyPost_ret (v := progV p u o) (by simp [results, Try.results10, go_sem, progV]) rfl ⟨rfl, ?_⟩
  exact ((Up.refl w).alloc _).alloc _

theorem prog_or (p u o e : Int) (w : World) : Calls Try.prog 31 #[progV p u o, .int .i64 e] w fun r w' => r = .returned (if e = 0 then progV p u o else progV 0 0 0) ∧ Below w.heap.size w w' := by
  unfold progV
  by_cases he : e = 0
  · subst he
    go_enter Try.func31, Try.ntmps31
    go_wp2_with fail
    refine bodyPost_ret (v := progV p u o) (by simp [results, Try.results31, go_sem, progV]) rfl ⟨rfl, ?_⟩
    exact ((Up.refl w).alloc _).alloc _
  · have hb : (e != 0) = true := by simp [he]
    go_enter Try.func31, Try.ntmps31
    go_wp2_with fail
    refine bodyPost_ret (v := progV 0 0 0) (by simp [results, Try.results31, go_sem, progV]) rfl ⟨rfl, ?_⟩
    exact ((Up.refl w).alloc _).alloc _

theorem BoolsAt.up {w w' : World} {p : Option Addr} {l : List Bool} (h : BoolsAt w p l) (hu : Up w w') : BoolsAt w' p l := fun i hi => by
  obtain ⟨g, o, hp, hc⟩ := h i hi
  exact ⟨g, o, hp, (Below.cell (p := ⟨g, o + i, none⟩) hu (World.block_lt_of_cell? w _ hc)).trans hc⟩

def mayE (p u o : Int) (l : List Bool) : Int := if rightB p u o then (if l.all id then 0 else 9) else 1

theorem prog_may (p u o : Int) (pt : Option Addr) (cap : Nat) (l : List Bool) (hl : l.length ≤ 1000) (w : World) (hB : BoolsAt w pt l) (hu1 : -9223372036854775808 ≤ u) :
    Calls Try.prog 28 #[progV p u o, .slice pt l.length cap] w fun e w' => e = .returned (.int .i64 (mayE p u o l)) ∧ Below w.heap.size w w' := by
  have C1 := Lib.hid (fun w => prog_Right p u o w hu1)
  have hu := Up.refl w
  have C2 := Lib.hid (fun w1 (h : Up w w1) => prog_all pt cap l hl w1 (hB.up h))
  unfold mayE
  unfold progV at *
  clear hB
  replace hu := hu.alloc (.cells #[.int .i64 p, .int .i64 u, .int .i64 o] 23)
  cases h : rightB p u o
  · rw [h] at C1
    go_enter Try.func28, Try.ntmps28
    go_wp2_with (with_reducible refine (C1.out _).mono ?_; rintro e w1 ⟨rfl, hw1⟩; replace hu := hu.next hw1; clear hw1)
    go_ret
    exact ⟨rfl, hu⟩
  · rw [h] at C1
    cases h2 : l.all id
    all_goals
      rw [h2] at C2
      go_enter Try.func28, Try.ntmps28
      go_wp2_with (first
        | (with_reducible refine (C1.out _).mono ?_; rintro e w1 ⟨rfl, hw1⟩; replace hu := hu.next hw1; clear hw1)
        | (with_reducible refine (C2.out _ ?_).mono ?_; (exact hu); rintro e w1 ⟨rfl, hw1⟩; replace hu := hu.next hw1; clear hw1))
      go_ret
      exact ⟨rfl, hu⟩
end Go.Proofs.Ytbjnklgicakndaa
