import Derived.Test.YtiekjjejoekdeaaDsAct
import Derived.Test.YtiekjjejoekdeaaDsFixed
import Derived.Deep.CutBlock
import Derived.Deep.DeepCutAuto
namespace Bw
def actsD (d : DiskD) (f : Nat → OpD) : Nat → DiskD
  | 0 => d
  | k + 1 => actD (actsD d f k) (f k)
end Bw
namespace Go.Proofs.Ytiekjjejoekdeaa
open Go.RowKit Bw Go.Maps
set_option linter.unusedVariables false
variable {W w : World} {l : List Res} {g a c : Nat} {q : Option Nat} {d : DiskD}

theorem new8 (h : Hold W w []) : Calls Try.prog 9 #[.int .i64 8] w fun e w' => ∃ g a, e = .returned (.tuple #[.pointer (some ⟨g, 0, none⟩), .int .i64 0]) ∧ Hold W w' [diskR g a none 0 (initD 8)] := hNew 8 (by omega) (by omega) h
set_option maxHeartbeats 2000000 in
theorem twins_law (a1 : Option Addr) (n1 m1 : Nat) (f1 : Nat → OpD) (p1 : Nat → Option Addr) (z1 : Nat → Nat) (a2 : Option Addr) (n2 m2 : Nat) (f2 : Nat → OpD) (p2 : Nat → Option Addr) (z2 : Nat → Nat) (W : World)
    (w1 : OpsAt W a1 n1 f1 p1 z1) (w2 : OpsAt W a2 n2 f2 p2 z2) (l1 : n1 ≤ 9223372036854775807) (l2 : n2 ≤ 9223372036854775807) :
    Calls Try.prog 8 #[.slice a1 n1 m1, .slice a2 n2 m2] W fun e w' => e = .returned (.bool true) ∧ Below W.heap.size W w' := by
  have hD := Hold.start W
  go_enter Try.func8, Try.ntmps8
  go_upto_block 0 with ((with_reducible refine (new8 hD).mono ?_); rintro e w3 ⟨g, a, rfl, hw⟩; replace hD := hw; clear hw)
  go_cut [7] (fun v7 wx => ∃ q, Hold W wx [diskR g a q (0 + 40) (actsD (initD 8) f1 (min n1 40))])
  case first =>
    go_wp2_with fail
    go_loopw [7] (fun vi wr => ∃ (k : Nat) (qq : Option Nat), k ≤ n1 ∧ k ≤ 40 ∧ vi = .int .i64 k ∧ Hold W wr [diskR g a qq (0 + k) (actsD (initD 8) f1 k)]) (fun v _ => n1 - (intOf v).toNat)
    case atStart => exact ⟨0, _, by omega, by omega, rfl, hD⟩
    case round =>
      clear hD
      obtain ⟨k, qq, hk, hk2, rfl, hD⟩ := hrel
      by_cases hlt : k < n1
      · by_cases hlt2 : k < 40
        · have j0 : (0 : Int) ≤ (k : Int) := by omega
          have j1 : (k : Int) < (n1 : Int) := by omega
          have j2 : (k : Int) < 40 := by omega
          obtain ⟨-, go, oo, rfl, c0, c1, c2, c3⟩ := (w1.up hD.up) k hlt
          have HA := law4_act hD 0 rfl (by omega) (f1 k) (p1 k) (z1 k) (w1 k hlt).1
          go_wp2_with ((with_reducible refine HA.mono ?_); rintro e w3 ⟨rfl, q', hw⟩)
          exact ⟨⟨k + 1, q', by omega, by omega, by go_num, hw⟩, by simp [intOf]; omega⟩
        · have j1 : (k : Int) < (n1 : Int) := by omega
          have j2 : ¬ (k : Int) < 40 := by omega
          go_wp2_with fail
          go_meet
          have e : k = min n1 40 := by omega
          exact ⟨qq, by rw [← e]; exact hold_disk_mono (i := 0) (l := [diskR g a qq (0 + k) (actsD (initD 8) f1 k)]) hD (by simp) (by omega)⟩
      · have j1 : ¬ (k : Int) < (n1 : Int) := by omega
        go_wp2_with fail
        go_meet
        have e : k = min n1 40 := by omega
        exact ⟨qq, by rw [← e]; exact hold_disk_mono (i := 0) (l := [diskR g a qq (0 + k) (actsD (initD 8) f1 k)]) hD (by simp) (by omega)⟩
  case rest =>
  clear hD
  obtain ⟨q, hD⟩ := hcut
  generalize actsD (initD 8) f1 (min n1 40) = D at *
  have hB := fun {w : World} (h : Hold W w [diskR g a q 40 D]) => hCopy h 0 rfl (by omega)
  have hB2 := fun {w : World} {g' a' : Nat} {q' : Option Nat} (h : Hold W w [diskR g a q 40 D, diskR g' a' q' 40 D]) => hCopy h 0 rfl (by omega)
  go_upto_block 2 with (first
    | ((with_reducible refine (hB hD).mono ?_); rintro e w3 ⟨ga, aa, qa, rfl, -, hw⟩; replace hD : Hold W w3 [diskR g a q 40 D, diskR ga aa qa 40 D] := hw; clear hw hB)
    | ((with_reducible refine (hB2 hD).mono ?_); rintro e w4 ⟨gb, ab, qb, rfl, -, hw⟩; replace hD : Hold W w4 [diskR g a q 40 D, diskR ga aa qa 40 D, diskR gb ab qb 40 D] := hw; clear hw))
  clear hB2
  go_cut [10] (fun v7 wx => ∃ q2, Hold W wx [diskR g a q 40 D, diskR ga aa q2 (40 + 40) (actsD D f2 (min n2 40)), diskR gb ab qb 40 D])
  case first =>
    go_wp2_with fail
    go_loopw [10] (fun vi wr => ∃ (k : Nat) (qq : Option Nat), k ≤ n2 ∧ k ≤ 40 ∧ vi = .int .i64 k ∧ Hold W wr [diskR g a q 40 D, diskR ga aa qq (40 + k) (actsD D f2 k), diskR gb ab qb 40 D]) (fun v _ => n2 - (intOf v).toNat)
    case atStart => exact ⟨0, _, by omega, by omega, rfl, hD⟩
    case round =>
      clear hD
      obtain ⟨k, qq, hk, hk2, rfl, hD⟩ := hrel
      by_cases hlt : k < n2
      · by_cases hlt2 : k < 40
        · have j0 : (0 : Int) ≤ (k : Int) := by omega
          have j1 : (k : Int) < (n2 : Int) := by omega
          have j2 : (k : Int) < 40 := by omega
          obtain ⟨-, go, oo, rfl, c0, c1, c2, c3⟩ := (w2.up hD.up) k hlt
          have HA := law4_act hD 1 rfl (by omega) (f2 k) (p2 k) (z2 k) (w2 k hlt).1
          go_wp2_with ((with_reducible refine HA.mono ?_); rintro e w3 ⟨rfl, q', hw⟩)
          exact ⟨⟨k + 1, q', by omega, by omega, by go_num, hw⟩, by simp [intOf]; omega⟩
        · have j1 : (k : Int) < (n2 : Int) := by omega
          have j2 : ¬ (k : Int) < 40 := by omega
          go_wp2_with fail
          go_meet
          have e : k = min n2 40 := by omega
          exact ⟨qq, by rw [← e]; exact hold_disk_mono (i := 1) (l := [diskR g a q 40 D, diskR ga aa qq (40 + k) (actsD D f2 k), diskR gb ab qb 40 D]) hD (by simp) (by omega)⟩
      · have j1 : ¬ (k : Int) < (n2 : Int) := by omega
        go_wp2_with fail
        go_meet
        have e : k = min n2 40 := by omega
        exact ⟨qq, by rw [← e]; exact hold_disk_mono (i := 1) (l := [diskR g a q 40 D, diskR ga aa qq (40 + k) (actsD D f2 k), diskR gb ab qb 40 D]) hD (by simp) (by omega)⟩
  case rest =>
  clear hD qa
  obtain ⟨qa, hD⟩ := hcut
  generalize hDA : actsD D f2 (min n2 40) = DA at *
  go_wp2_with fail
  go_loopw [11] (fun vi wr => ∃ k : Nat, k ≤ 8 ∧ vi = .int .i64 k ∧ Hold W wr [diskR g a q 40 D, diskR ga aa qa (40 + 40) DA, diskR gb ab qb 40 D]) (fun v _ => 8 - (intOf v).toNat)
  case atStart => exact ⟨0, by omega, rfl, hD⟩
  case round =>
  clear hD
  obtain ⟨k, hk, rfl, hD⟩ := hrel
  by_cases hlt : k < 8
  · have j1 : (k : Int) < 8 := by omega
    have H1 := fun {w : World} (h : Hold W w [diskR g a q 40 D, diskR ga aa qa (40 + 40) DA, diskR gb ab qb 40 D]) => hRaw h 2 rfl (by omega) k
    have H2 := fun {w : World} (h : Hold W w [diskR g a q 40 D, diskR ga aa qa (40 + 40) DA, diskR gb ab qb 40 D]) => hRaw h 0 rfl (by omega) k
    go_wp2_with (first
      | ((with_reducible refine (H1 hD).mono ?_); rintro e w3 ⟨rfl, -, hw⟩; replace hD := hw; clear hw H1)
      | ((with_reducible refine (H2 hD).mono ?_); rintro e w4 ⟨rfl, -, hw⟩; replace hD := hw; clear hw H2))
    exact ⟨⟨k + 1, by omega, by go_num, hD⟩, by simp [intOf]; omega⟩
  have j1 : ¬ (k : Int) < 8 := by omega
  go_upto_block 6 with fail
  go_cut [12] (fun v7 wx => ∃ q2, Hold W wx [diskR g a q 40 D, diskR ga aa qa (40 + 40) DA, diskR gb ab q2 (40 + 40) (actsD D f2 (min n2 40))])
  case first =>
    go_wp2_with fail
    go_loopw [12] (fun vi wr => ∃ (k : Nat) (qq : Option Nat), k ≤ n2 ∧ k ≤ 40 ∧ vi = .int .i64 k ∧ Hold W wr [diskR g a q 40 D, diskR ga aa qa (40 + 40) DA, diskR gb ab qq (40 + k) (actsD D f2 k)]) (fun v _ => n2 - (intOf v).toNat)
    case atStart => exact ⟨0, _, by omega, by omega, rfl, hD⟩
    case round =>
      clear hD
      obtain ⟨k, qq, hk, hk2, rfl, hD⟩ := hrel
      by_cases hlt : k < n2
      · by_cases hlt2 : k < 40
        · have j0 : (0 : Int) ≤ (k : Int) := by omega
          have j1 : (k : Int) < (n2 : Int) := by omega
          have j2 : (k : Int) < 40 := by omega
          obtain ⟨-, go, oo, rfl, c0, c1, c2, c3⟩ := (w2.up hD.up) k hlt
          have HA := law4_act hD 2 rfl (by omega) (f2 k) (p2 k) (z2 k) (w2 k hlt).1
          go_wp2_with ((with_reducible refine HA.mono ?_); rintro e w3 ⟨rfl, q', hw⟩)
          exact ⟨⟨k + 1, q', by omega, by omega, by go_num, hw⟩, by simp [intOf]; omega⟩
        · have j1 : (k : Int) < (n2 : Int) := by omega
          have j2 : ¬ (k : Int) < 40 := by omega
          go_wp2_with fail
          go_meet
          have e : k = min n2 40 := by omega
          exact ⟨qq, by rw [← e]; exact hold_disk_mono (i := 2) (l := [diskR g a q 40 D, diskR ga aa qa (40 + 40) DA, diskR gb ab qq (40 + k) (actsD D f2 k)]) hD (by simp) (by omega)⟩
      · have j1 : ¬ (k : Int) < (n2 : Int) := by omega
        go_wp2_with fail
        go_meet
        have e : k = min n2 40 := by omega
        exact ⟨qq, by rw [← e]; exact hold_disk_mono (i := 2) (l := [diskR g a q 40 D, diskR ga aa qa (40 + 40) DA, diskR gb ab qq (40 + k) (actsD D f2 k)]) hD (by simp) (by omega)⟩
  case rest =>
  clear hD
  obtain ⟨qb, hD⟩ := hcut
  rw [hDA] at hD
  go_wp2_with fail
  go_loopw [13] (fun vi wr => ∃ k : Nat, k ≤ 8 ∧ vi = .int .i64 k ∧ Hold W wr [diskR g a q 40 D, diskR ga aa qa (40 + 40) DA, diskR gb ab qb (40 + 40) DA]) (fun v _ => 8 - (intOf v).toNat)
  case atStart => exact ⟨0, by omega, rfl, hD⟩
  case round =>
  clear hD
  obtain ⟨k, hk, rfl, hD⟩ := hrel
  by_cases hlt : k < 8
  · have j1 : (k : Int) < 8 := by omega
    have H1 := fun {w : World} (h : Hold W w [diskR g a q 40 D, diskR ga aa qa (40 + 40) DA, diskR gb ab qb (40 + 40) DA]) => hRaw h 1 rfl (by omega) k
    have H2 := fun {w : World} (h : Hold W w [diskR g a q 40 D, diskR ga aa qa (40 + 40) DA, diskR gb ab qb (40 + 40) DA]) => hRaw h 2 rfl (by omega) k
    go_wp2_with (first
      | ((with_reducible refine (H1 hD).mono ?_); rintro e w3 ⟨rfl, -, hw⟩; replace hD := hw; clear hw H1)
      | ((with_reducible refine (H2 hD).mono ?_); rintro e w4 ⟨rfl, -, hw⟩; replace hD := hw; clear hw H2))
    exact ⟨⟨k + 1, by omega, by go_num, hD⟩, by simp [intOf]; omega⟩
  have j1 : ¬ (k : Int) < 8 := by omega
  have H1 := fun {w : World} (h : Hold W w [diskR g a q 40 D, diskR ga aa qa (40 + 40) DA, diskR gb ab qb (40 + 40) DA]) => hDirty h 1 rfl (by omega)
  have H2 := fun {w : World} (h : Hold W w [diskR g a q 40 D, diskR ga aa qa (40 + 40) DA, diskR gb ab qb (40 + 40) DA]) => hDirty h 2 rfl (by omega)
  have C2 := Lib.hid law4_fixed
  go_wp2_with (first
    | ((with_reducible refine (H1 hD).mono ?_); rintro e w3 ⟨v3, c3, rfl, -, hw⟩; replace hD := hw.drop; clear hw H1)
    | ((with_reducible refine (H2 hD).mono ?_); rintro e w4 ⟨v4, c4, rfl, -, hw⟩; replace hD := hw.drop; clear hw H2)
    | ((with_reducible refine (C2.out _).mono ?_); rintro e w5 ⟨rfl, hB⟩; replace hD := hD.next hB; clear hB))
  go_ret
  exact ⟨rfl, hD.up⟩
theorem twins_row (a1 : Option Addr) (n1 m1 : Nat) (f1 : Nat → OpD) (p1 : Nat → Option Addr) (z1 : Nat → Nat) (l1 : n1 ≤ maxLen) (a2 : Option Addr) (n2 m2 : Nat) (f2 : Nat → OpD) (p2 : Nat → Option Addr) (z2 : Nat → Nat) (l2 : n2 ≤ maxLen) (W : World)
    (w1 : OpsAt W a1 n1 f1 p1 z1) (w2 : OpsAt W a2 n2 f2 p2 z2) :
    Calls Try.prog 8 #[.slice a1 n1 m1, .slice a2 n2 m2] W fun e w' => e = .returned (.bool true) ∧ Below W.heap.size W w' :=
  twins_law a1 n1 m1 f1 p1 z1 a2 n2 m2 f2 p2 z2 W w1 w2 l1 l2
end Go.Proofs.Ytiekjjejoekdeaa
