import Derived.Test.YtiekjjejoekdeaaDsAct
import Derived.Test.YtiekjjejoekdeaaDsFixed
import Derived.Test.YtiekjjejoekdeaaDsOpenT
import Derived.Test.YtiekjjejoekdeaaDsPure2
import Derived.Test.YtiekjjejoekdeaaDsRow8
import Derived.Deep.CutBlock
import Derived.Deep.DeepCutAuto
import Derived.Deep.OwnRows
namespace Go.Proofs.Ytiekjjejoekdeaa
open Go.RowKit Bw Go.Maps
set_option linter.unusedVariables false
variable {W w : World} {l : List Res} {g a c : Nat} {q : Option Nat} {d : DiskD}
theorem make8s : ∀ w : World, (Instr.makeSlice 48 (.int .i64 8) (.int .i64 8)).run Try.prog w = .ok (.slice (some ⟨w.heap.size, 0, none⟩) 8 8) (w.alloc (.cells (row8 (fun _ => .string ⟨#[]⟩)).toArray 9)) := fun w => by
  have h := run_make_row' (P := Try.prog) 48 9 (.string ⟨#[]⟩) 16 Try.underlying48 (by kernel_rfl) rfl .i64 .i64 8 (by omega) (by omega) w
  rw [show madeCells #[Value.string ⟨#[]⟩] 8 = (row8 (fun _ => Value.string ⟨#[]⟩)).toArray from by kernel_rfl] at h
  exact h
theorem pad0 (w : World) : Calls Try.prog 25 #[.string ⟨#[]⟩, .int .i64 252] w fun e w' => e = .returned (.tuple #[.string ws0, .int .i64 (padE ⟨#[]⟩ 252)]) ∧ Below w.heap.size w w' := fxp (s := ⟨#[]⟩) (by decide) w
theorem padN (s : ByteArray) (w : World) : Calls Try.prog 25 #[.string (s.extract 0 (if (252 : Int) < (s.size : Int) then (252 : Int) else (s.size : Int)).toNat), .int .i64 252] w fun e w' =>
    e = .returned (.tuple #[.string (wholeS (cutN 252 s)), .int .i64 (padE (cutN 252 s) 252)]) ∧ Below w.heap.size w w' := by
  rw [cutN_if]
  have := cutN_size (n := 252) s (by omega)
  exact fxp (by omega) w
set_option maxHeartbeats 2000000 in
set_option maxRecDepth 100000 in
theorem reads_law (a1 : Option Addr) (n1 m1 : Nat) (f1 : Nat → OpD) (p1 : Nat → Option Addr) (z1 : Nat → Nat) (l1 : n1 ≤ 9223372036854775807) (W : World) (w1 : OpsAt W a1 n1 f1 p1 z1) :
    Calls Try.prog 7 #[.slice a1 n1 m1] W fun e w' => e = .returned (.bool true) ∧ Below W.heap.size W w' := by
  have hD := Hold.start W
  have hmk := make8s
  have P0 := Lib.hid pad0
  generalize padE ⟨#[]⟩ 252 = E0 at *
  go_enter Try.func7, Try.ntmps7
  go_upto_region 5 with ((with_reducible refine (new8 hD).mono ?_); rintro e w3 ⟨g, a, rfl, hw⟩; replace hD := hw; clear hw)
  replace hD : Hold W _ [diskR g a none 0 (initD 8), row8R w3.heap.size (fun _ => .string ⟨#[]⟩)] := hD.made8 (fun _ => .string ⟨#[]⟩) 9
  generalize w3.heap.size = gh at *
  generalize w3.alloc (.cells (row8 (fun _ => .string ⟨#[]⟩)).toArray 9) = w4 at *
  clear hmk
  go_wp2_with fail
  go_loopw [6] (fun v wr => ∃ k : Nat, k ≤ 8 ∧ v = .int .i64 k ∧ Hold W wr [diskR g a none 0 (initD 8), row8R gh (fun j => if j < k then .string ws0 else .string ⟨#[]⟩)]) (fun v _ => 8 - (intOf v).toNat)
  case atStart => exact ⟨0, by omega, rfl, hD⟩
  case round =>
  clear hD
  obtain ⟨k, hk, rfl, hD⟩ := hrel
  by_cases hlt : k < 8
  · have j0 : (0 : Int) ≤ (k : Int) := by omega
    have j1 : (k : Int) < 8 := by omega
    go_upto_region 9 with ((with_reducible refine (P0.out _).mono ?_); rintro e w5 ⟨rfl, hB⟩; replace hD := hD.next hB; clear hB)
    obtain ⟨b1, b2⟩ := hD.cell8 1 rfl k hlt
    have hD2 := hD.set8 1 rfl k hlt (.string ws0)
    have HE := Lib.hid (show (fun j => if j = k then Value.string ws0 else if j < k then .string ws0 else .string ⟨#[]⟩) = (fun j => if j < k + 1 then Value.string ws0 else .string ⟨#[]⟩) by
      funext j
      by_cases e : j = k
      · rw [if_pos e, if_pos (by omega)]
      · rw [if_neg e]
        by_cases e2 : j < k
        · rw [if_pos e2, if_pos (by omega)]
        · rw [if_neg e2, if_neg (by omega)])
    go_wp2_with fail
    rw [HE.out] at hD2
    exact ⟨⟨k + 1, by omega, by go_num, hD2⟩, by simp [intOf]; omega⟩
  have j1 : ¬ (k : Int) < 8 := by omega
  have hD' : Hold W wr [diskR g a none 0 (initD 8), row8R gh (fun j => .string ((fun _ => ws0) j))] := by
    obtain rfl : k = 8 := by omega
    have h1 := hD.step 1 rfl (row8R gh (fun j => .string ws0)) (hD.get 1 rfl) (fun k hk => .inl hk) (AllS.refl _ wr)
    exact h1
  clear hD
  have hD := hD'
  clear hD'
  go_wp2_with fail
  go_loopw [9] (fun v wr => ∃ (k : Nat) (q : Option Nat) (d : DiskD) (h : Nat → ByteArray), k ≤ n1 ∧ k ≤ 40 ∧ v = .int .i64 k ∧ Reads8 d h ∧ Hold W wr [diskR g a q k d, row8R gh (fun j => .string (h j))]) (fun v _ => n1 - (intOf v).toNat)
  case atStart => exact ⟨0, none, _, _, by omega, by omega, rfl, reads8_init, hD⟩
  case round =>
  clear hD
  clear hlt hk
  obtain ⟨k, q, d, h, hk, hk2, rfl, hR, hD⟩ := hrel
  by_cases hlt : k < n1
  · by_cases hlt2 : k < 40
    · have j0 : (0 : Int) ≤ (k : Int) := by omega
      have j1 : (k : Int) < (n1 : Int) := by omega
      have j2 : (k : Int) < 40 := by omega
      obtain ⟨-, go, oo, rfl, c0, c1, c2, c3⟩ := (w1.up hD.up) k hlt
      have hS := (w1 k hlt).1.2.2.1
      obtain ⟨m, hm, hm8⟩ : ∃ m : Nat, bits .and .i64 (f1 k).p 7 = (m : Int) ∧ m < 8 := by
        have h1 := Int.emod_nonneg (f1 k).p (show (8 : Int) ≠ 0 by omega)
        have h2 := Int.emod_lt_of_pos (f1 k).p (show (0 : Int) < 8 by omega)
        exact ⟨((f1 k).p % 8).toNat, by rw [bits_7]; omega, by omega⟩
      have j3 : (0 : Int) ≤ (m : Int) := by omega
      have j4 : (m : Int) < 8 := by omega
      by_cases hsync : (f1 k).k = 1
      · have b1 : ((f1 k).k == 1) = true := by rw [hsync]; rfl
        clear hsync
        generalize f1 k = F at *
        obtain ⟨Fk, Fp, Fs, Ff⟩ := F
        simp only at c0 c1 c2 c3 hm b1
        have HS := hSync hD 0 rfl (by omega)
        go_wp2_with ((with_reducible refine HS.mono ?_); rintro e w3 ⟨rfl, hw⟩; replace hD : Hold W w3 [diskR g a none k d.syncD, row8R gh (fun j => .string (h j))] := hw; clear hw HS)
        replace hR := reads8_sync hR
        clear c0 c1 c2 c3
        go_wp2_with fail
        go_loopw [13] (fun v wr => ∃ kk : Nat, kk ≤ 8 ∧ v = .int .i64 kk ∧ Hold W wr [diskR g a none k d.syncD, row8R gh (fun j => .string (h j))]) (fun v _ => 8 - (intOf v).toNat)
        case atStart => exact ⟨0, by omega, rfl, hD⟩
        case round =>
        clear hD
        obtain ⟨j, hj, rfl, hD⟩ := hrel
        by_cases hjl : j < 8
        · have i0 : (0 : Int) ≤ (j : Int) := by omega
          have i1 : (j : Int) < 8 := by omega
          have HR := hRead hD 0 rfl (by omega) j
          obtain ⟨e1, e2⟩ := (hR).2 j hjl
          rw [e1, e2] at HR
          go_wp2_with ((with_reducible refine HR.mono ?_); rintro e w6 ⟨rfl, hB, hw⟩; obtain ⟨b1, -⟩ := hw.cell8 1 rfl j hjl; replace hD := hw; clear hw hB HR)
          exact ⟨⟨j + 1, by omega, by go_num, hD⟩, by simp [intOf]; omega⟩
        have i1 : ¬ (j : Int) < 8 := by omega
        go_wp2_with fail
        exact ⟨⟨k + 1, none, d.syncD, h, by omega, by omega, by go_num, hR, hold_disk_mono (i := 0) (l := [diskR g a none k d.syncD, row8R gh (fun j => .string (h j))]) hD (by simp) (by omega)⟩, by simp [intOf]; omega⟩
      · have b1 : ((f1 k).k == 1) = false := beq_eq_false_iff_ne.2 hsync
        clear hsync
        generalize f1 k = F at *
        obtain ⟨Fk, Fp, Fs, Ff⟩ := F
        simp only at c0 c1 c2 c3 hm b1 hS
        have PN := Lib.hid (padN Fs)
        have hcs := cutN_size (n := 252) Fs (by omega)
        obtain ⟨r1, r2⟩ := reads8_write hR hm8 (s := cutN 252 Fs) (by omega)
        generalize padE (cutN 252 Fs) 252 = EN at *
        have hz : (wholeS (cutN 252 Fs)).size = 252 := wholeS_size (by omega)
        generalize wholeS (cutN 252 Fs) = S at *
        have m0 : (0 : Int) ≤ min (Fs.size : Int) 252 := by omega
        have m1 : min (Fs.size : Int) 252 ≤ (Fs.size : Int) := by omega
        go_upto_region 16 with fail
        refine wp_region_later (by kernel_rfl) (by kernel_rfl) ?_
        have l1 := Later.cell_of c2
        have hne := later_ne wr
        repeat (go_big_quiet_step ((go_at_call 25; with_reducible exact Calls.later (PN.out _))))
        refine wpQuiet_nil ?_
        intro w9 hw9
        obtain ⟨u9, rfl⟩ := hw9
        replace hD := hD.next u9.up
        clear l1 c0 c1 c2 c3 hne PN
        generalize u9.world = w9 at *
        clear m0 m1
        generalize (if (252 : Int) < (Fs.size : Int) then (252 : Int) else (Fs.size : Int)) = mm at *
        have HW := hWrite hD 0 rfl (by omega) m S (by omega)
        rw [r1] at HW
        go_upto_region 19 with ((with_reducible refine HW.mono ?_); rintro e w3 ⟨rfl, q2, hw⟩; replace hD : Hold W w3 [diskR g a q2 (k + 1) (d.writeD m S), row8R gh (fun j => .string (h j))] := hw; clear hw HW)
        obtain ⟨b3, b2⟩ := hD.cell8 1 rfl m hm8
        have hD2 := hD.set8 1 rfl m hm8 (.string S)
        have HE : (fun j => if j = m then Value.string S else Value.string (h j)) = (fun j => Value.string ((fun j => if j = m then S else h j) j)) := by
          funext j
          by_cases e : j = m
          · rw [if_pos e]; simp [e]
          · rw [if_neg e]; simp [e]
        rw [HE] at hD2
        replace hD : Hold W _ [diskR g a q2 (k + 1) (d.writeD m S), row8R gh (fun j => .string ((fun j => if j = m then S else h j) j))] := hD2
        clear HE hD2 hR
        generalize (fun j => if j = m then S else h j) = h2 at *
        generalize hdd : d.writeD m S = d2 at *
        go_upto_region 20 with fail
        generalize World.setCell w3 _ _ = w5 at *
        clear b2 b3
        go_wp2_with fail
        go_loopw [13] (fun v wr => ∃ kk : Nat, kk ≤ 8 ∧ v = .int .i64 kk ∧ Hold W wr [diskR g a q2 (k + 1) d2, row8R gh (fun j => .string (h2 j))]) (fun v _ => 8 - (intOf v).toNat)
        case atStart => exact ⟨0, by omega, rfl, hD⟩
        case round =>
        clear hD
        obtain ⟨j, hj, rfl, hD⟩ := hrel
        by_cases hjl : j < 8
        · have i0 : (0 : Int) ≤ (j : Int) := by omega
          have i1 : (j : Int) < 8 := by omega
          have HR := hRead hD 0 rfl (by omega) j
          obtain ⟨e1, e2⟩ := (r2).2 j hjl
          rw [e1, e2] at HR
          go_wp2_with ((with_reducible refine HR.mono ?_); rintro e w6 ⟨rfl, hB, hw⟩; obtain ⟨b1, -⟩ := hw.cell8 1 rfl j hjl; replace hD := hw; clear hw hB HR)
          exact ⟨⟨j + 1, by omega, by go_num, hD⟩, by simp [intOf]; omega⟩
        have i1 : ¬ (j : Int) < 8 := by omega
        go_wp2_with fail
        exact ⟨⟨k + 1, q2, d2, h2, by omega, by omega, by go_num, r2, hD⟩, by simp [intOf]; omega⟩
    · have j1 : (k : Int) < (n1 : Int) := by omega
      have j2 : ¬ (k : Int) < 40 := by omega
      have C2 := Lib.hid law4_fixed
      go_wp2_with ((with_reducible refine (C2.out _).mono ?_); rintro e w5 ⟨rfl, hB⟩; replace hD := hD.next hB; clear hB)
      go_ret
      exact ⟨rfl, hD.up⟩
  · have j1 : ¬ (k : Int) < (n1 : Int) := by omega
    have C2 := Lib.hid law4_fixed
    go_wp2_with ((with_reducible refine (C2.out _).mono ?_); rintro e w5 ⟨rfl, hB⟩; replace hD := hD.next hB; clear hB)
    go_ret
    exact ⟨rfl, hD.up⟩
theorem reads_row (a1 : Option Addr) (n1 m1 : Nat) (f1 : Nat → OpD) (p1 : Nat → Option Addr) (z1 : Nat → Nat) (l1 : n1 ≤ maxLen) (W : World) (w1 : OpsAt W a1 n1 f1 p1 z1) :
    Calls Try.prog 7 #[.slice a1 n1 m1] W fun e w' => e = .returned (.bool true) ∧ Below W.heap.size W w' := reads_law a1 n1 m1 f1 p1 z1 l1 W w1
end Go.Proofs.Ytiekjjejoekdeaa
