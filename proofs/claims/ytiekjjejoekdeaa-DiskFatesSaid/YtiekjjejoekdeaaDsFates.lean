import Derived.Test.YtiekjjejoekdeaaDsAct
import Derived.Test.YtiekjjejoekdeaaDsFixed
import Derived.Test.YtiekjjejoekdeaaDsOpenT
import Derived.Test.YtiekjjejoekdeaaDsFates0
import Derived.Test.YtiekjjejoekdeaaOwnHold
import Derived.Deep.CutBlock
import Derived.Deep.DeepCutAuto
namespace Go.Proofs.Ytiekjjejoekdeaa
open Go.RowKit Bw Go.Maps
set_option linter.unusedVariables false
variable {W w : World} {l : List Res} {g a c : Nat} {q : Option Nat} {d : DiskD}
theorem bits7_nat (p : Int) : ∃ m : Nat, bits .and .i64 p 7 = (m : Int) ∧ m < 8 := by
  have h1 := Int.emod_nonneg p (show (8 : Int) ≠ 0 by omega)
  have h2 := Int.emod_lt_of_pos p (show (0 : Int) < 8 by omega)
  exact ⟨(p % 8).toNat, by rw [bits_7]; omega, by omega⟩
theorem hCrashOwn {i j n : Nat} {t : TypeId} {fa : Option Addr} {fc : Nat} {L : List Int} (h : Hold W w l) (hi : l[i]? = some (diskR g a q c d)) (hj : l[j]? = some (ownR t (.slice fa n fc) (L.map (.int .i64 ·)))) (hij : i ≠ j) (hn : L.length = n) (hN : n ≤ 1000) (hc : c ≤ 1000) :
    Calls Try.prog 26 #[.pointer (some ⟨g, 0, none⟩), .slice fa n fc] w fun e w' => e = .returned (.tuple #[]) ∧ Hold W w' (l.set i (diskR g a none c (d.crashD L))) := by
  subst hn
  obtain ⟨q', cap, hv, hI, ho⟩ := own_ints (h.get j hj)
  injection hv with e1 e2 e3
  subst e1
  have hcw : d.W.length ≤ c := by
    have hD : DiskAt w ⟨g, a, q⟩ c d := h.get i hi
    obtain ⟨v, m, _, _, h3, _⟩ := hD.mem; omega
  exact hCrash h i hi (by omega) L fa fc hI (by omega) fun _ x hx hk => h.apart' i j hi hj hij _ hk (ho x hx)
theorem hCrashNil {i : Nat} (h : Hold W w l) (hi : l[i]? = some (diskR g a q c d)) (hc : c ≤ 1000) :
    Calls Try.prog 26 #[.pointer (some ⟨g, 0, none⟩), .slice none 0 0] w fun e w' => e = .returned (.tuple #[]) ∧ Hold W w' (l.set i (diskR g a none c (d.crashD []))) := by
  have hcw : d.W.length ≤ c := by
    have hD : DiskAt w ⟨g, a, q⟩ c d := h.get i hi
    obtain ⟨v, m, _, _, h3, _⟩ := hD.mem; omega
  exact hCrash h i hi (by omega) [] none 0 (IntsAt.nil _ _) (by simp) (fun hne => absurd rfl hne)
set_option maxHeartbeats 4000000 in
set_option maxRecDepth 100000 in
theorem fates_law (a1 : Option Addr) (n1 m1 : Nat) (f1 : Nat → OpD) (p1 : Nat → Option Addr) (z1 : Nat → Nat) (l1 : n1 ≤ 9223372036854775807) (W : World) (w1 : OpsAt W a1 n1 f1 p1 z1) :
    Calls Try.prog 6 #[.slice a1 n1 m1] W fun e w' => e = .returned (.bool true) ∧ Below W.heap.size W w' := by
  obtain ⟨inf, hi0', hz0, hz1, hz2⟩ := info_parts infoI
  have HI := Lib.hid (show Try.prog.info? 3 = some inf ∧ inf.zero = _ ∧ inf.size = 1 ∧ inf.bytes = 8 from ⟨hi0', hz0, hz1, hz2⟩)
  clear hi0' hz0 hz1 hz2
  have hD := Hold.start W
  go_enter Try.func6, Try.ntmps6
  go_upto_block 0 with ((with_reducible refine (new8 hD).mono ?_); rintro e w3 ⟨g, a, rfl, hw⟩; replace hD := hw; clear hw)
  go_cut [5] (fun v5 wx => ∃ q d, DiskD.n d = 8 ∧ Hold W wx [diskR g a q 40 d])
  case first =>
    go_wp2_with fail
    go_loopw [5] (fun vi wr => ∃ (k : Nat) (q : Option Nat) (d : DiskD), k ≤ n1 ∧ k ≤ 40 ∧ vi = .int .i64 k ∧ d.n = 8 ∧ Hold W wr [diskR g a q k d]) (fun v _ => n1 - (intOf v).toNat)
    case atStart => exact ⟨0, none, initD 8, by omega, by omega, rfl, rfl, hD⟩
    case round =>
      clear hD
      obtain ⟨k, q, d, hk, hk2, rfl, hn8, hD⟩ := hrel
      by_cases hlt : k < n1
      · by_cases hlt2 : k < 40
        · have j0 : (0 : Int) ≤ (k : Int) := by omega
          have j1 : (k : Int) < (n1 : Int) := by omega
          have j2 : (k : Int) < 40 := by omega
          obtain ⟨-, go, oo, rfl, c0, c1, c2, c3⟩ := (w1.up hD.up) k hlt
          have hS := (w1 k hlt).1.2.2.1
          obtain ⟨m, hm, hm8⟩ := bits7_nat (f1 k).p
          by_cases hsync : (f1 k).k = 1
          · have b1 : ((f1 k).k == 1) = true := by rw [hsync]; rfl
            clear hsync
            generalize f1 k = F at *
            obtain ⟨Fk, Fp, Fs, Ff⟩ := F
            simp only at c0 c1 c2 c3 hm b1
            have HS := hSync hD 0 rfl (by omega)
            go_wp2_with ((with_reducible refine HS.mono ?_); rintro e w3 ⟨rfl, hw⟩; replace hD : Hold W w3 [diskR g a none k d.syncD] := hw; clear hw HS)
            exact ⟨⟨k + 1, none, d.syncD, by omega, by omega, by go_num, hn8, hold_disk_mono (i := 0) (l := [diskR g a none k d.syncD]) hD (by simp) (by omega)⟩, by simp [intOf]; omega⟩
          · have b1 : ((f1 k).k == 1) = false := beq_eq_false_iff_ne.2 hsync
            clear hsync
            generalize f1 k = F at *
            obtain ⟨Fk, Fp, Fs, Ff⟩ := F
            simp only at c0 c1 c2 c3 hm b1 hS
            have HC := Lib.hid (cutN_if 252 Fs)
            have m0 : (0 : Int) ≤ min (Fs.size : Int) 252 := by omega
            have m1 : min (Fs.size : Int) 252 ≤ (Fs.size : Int) := by omega
            go_upto_region 9 with fail
            refine wp_region_later_tail 20 (by kernel_rfl) (by kernel_rfl) ?_
            have l1 := Later.cell_of c1
            have l2 := Later.cell_of c2
            have hne := later_ne wr
            simp only [List.take_succ_cons, List.take_zero]
            repeat (go_big_quiet_step (fail))
            refine wpQuiet_nil ?_
            intro w9 hw9
            obtain ⟨u9, rfl⟩ := hw9
            replace hD := hD.next u9.up
            clear l1 l2 c0 c1 c2 c3 hne
            generalize u9.world = w9 at *
            simp only [List.drop_succ_cons, List.drop_zero]
            rw [HC.out]
            clear m0 m1 HC
            have hcs := cutN_size (n := 252) Fs (by omega)
            generalize (if (252 : Int) < (Fs.size : Int) then (252 : Int) else (Fs.size : Int)) = mm at *
            have HW := hWrite hD 0 rfl (by omega) m (cutN 252 Fs) (by omega)
            go_wp2_with ((with_reducible refine HW.mono ?_); rintro e w3 ⟨rfl, q2, hw⟩; replace hD : Hold W w3 [diskR g a q2 (k + 1) (d.writeD m (cutN 252 Fs))] := hw; clear hw HW)
            have hn8' : (d.writeD m (cutN 252 Fs)).n = 8 := by unfold DiskD.writeD; split <;> exact hn8
            exact ⟨⟨k + 1, q2, _, by omega, by omega, by go_num, hn8', hD⟩, by simp [intOf]; omega⟩
        · have j1 : (k : Int) < (n1 : Int) := by omega
          have j2 : ¬ (k : Int) < 40 := by omega
          go_wp2_with fail
          go_meet
          exact ⟨q, d, hn8, hold_disk_mono (i := 0) (l := [diskR g a q k d]) hD (by simp) (by omega)⟩
      · have j1 : ¬ (k : Int) < (n1 : Int) := by omega
        go_wp2_with fail
        go_meet
        exact ⟨q, d, hn8, hold_disk_mono (i := 0) (l := [diskR g a q k d]) hD (by simp) (by omega)⟩
  case rest =>
  clear hD
  obtain ⟨q, d, hn8, hD⟩ := hcut
  have hB := fun {w : World} (h : Hold W w [diskR g a q 40 d]) => hCopy h 0 rfl (by omega)
  have hB2 := fun {w : World} {g1 a1 : Nat} {q1 : Option Nat} (h : Hold W w [diskR g a q 40 d, diskR g1 a1 q1 40 d]) => hCopy h 0 rfl (by omega)
  have hB3 := fun {w : World} {g1 a1 : Nat} {q1 : Option Nat} {g2 a2 : Nat} {q2 : Option Nat} (h : Hold W w [diskR g a q 40 d, diskR g1 a1 q1 40 d, diskR g2 a2 q2 40 d]) => hCopy h 0 rfl (by omega)
  have hB4 := fun {w : World} {g1 a1 : Nat} {q1 : Option Nat} {g2 a2 : Nat} {q2 : Option Nat} {g3 a3 : Nat} {q3 : Option Nat} (h : Hold W w [diskR g a q 40 d, diskR g1 a1 q1 40 d, diskR g2 a2 q2 40 d, diskR g3 a3 q3 40 d]) => hCopy h 0 rfl (by omega)
  go_upto_region 13 with (first
    | ((with_reducible refine (hB hD).mono ?_); rintro e w3 ⟨ga, aa, qa, rfl, -, hw⟩; replace hD : Hold W w3 [diskR g a q 40 d, diskR ga aa qa 40 d] := hw; clear hw hB)
    | ((with_reducible refine (hB2 hD).mono ?_); rintro e w4 ⟨gb, ab, qb, rfl, -, hw⟩; replace hD : Hold W w4 [diskR g a q 40 d, diskR ga aa qa 40 d, diskR gb ab qb 40 d] := hw; clear hw hB2)
    | ((with_reducible refine (hB3 hD).mono ?_); rintro e w5 ⟨gc, ac, qc, rfl, -, hw⟩; replace hD : Hold W w5 [diskR g a q 40 d, diskR ga aa qa 40 d, diskR gb ab qb 40 d, diskR gc ac qc 40 d] := hw; clear hw hB3)
    | ((with_reducible refine (hB4 hD).mono ?_); rintro e w6 ⟨gx, ax, qx, rfl, -, hw⟩; replace hD : Hold W w6 [diskR g a q 40 d, diskR ga aa qa 40 d, diskR gb ab qb 40 d, diskR gc ac qc 40 d, diskR gx ax qx 40 d] := hw; clear hw hB4))
  go_upto_region 14 with fail
  have hE := hD.made0 3
  have hE2 := hE.made0 3
  rw [World.size_alloc] at hE2
  replace hD : Hold W _ [diskR g a q 40 d, diskR ga aa qa 40 d, diskR gb ab qb 40 d, diskR gc ac qc 40 d, diskR gx ax qx 40 d, ownR 3 (.slice (some ⟨w6.heap.size, 0, none⟩) 0 0) ((List.replicate 0 (1 : Int)).map (.int .i64 ·)), ownR 3 (.slice (some ⟨w6.heap.size + 1, 0, none⟩) 0 0) (((List.range 0).map (fun j : Nat => 3 + (j : Int))).map (.int .i64 ·))] := hE2
  clear hE hE2
  generalize w6.heap.size = ge at *
  generalize (w6.alloc (Obj.cells #[] 3)).alloc (Obj.cells #[] 3) = w7 at *
  have hN : d.dirtyD.length ≤ 40 := by
    have h0 : DiskAt w7 ⟨g, a, q⟩ 40 d := hD.get 0 rfl
    obtain ⟨v, m, _, _, h3, _⟩ := h0.mem
    rw [DiskD.dirtyD, List.length_map]; omega
  have HDi := fun {w : World} {R S : Res} (h : Hold W w [diskR g a q 40 d, diskR ga aa qa 40 d, diskR gb ab qb 40 d, diskR gc ac qc 40 d, diskR gx ax qx 40 d, R, S]) => hDirty h 0 rfl (by omega)
  generalize hNN : d.dirtyD.length = N at *
  go_wp2_with fail
  go_loopw [10, 11, 12] (fun v10 v11 v12 wr => ∃ (k : Nat) (b1 b2 : Option Addr) (ca cb : Nat), k ≤ N ∧ v10 = .slice b1 k ca ∧ v11 = .slice b2 k cb ∧ v12 = .int .i64 k ∧ Hold W wr [diskR g a q 40 d, diskR ga aa qa 40 d, diskR gb ab qb 40 d, diskR gc ac qc 40 d, diskR gx ax qx 40 d, ownR 3 (.slice b1 k ca) ((List.replicate k (1 : Int)).map (.int .i64 ·)), ownR 3 (.slice b2 k cb) (((List.range k).map (fun j : Nat => 3 + (j : Int))).map (.int .i64 ·))]) (fun _ _ v _ => N - (intOf v).toNat)
  case atStart => exact ⟨0, _, _, _, _, by omega, rfl, rfl, rfl, hD⟩
  case round =>
  clear hD
  obtain ⟨k, b1, b2, ca, cb, hk, rfl, rfl, rfl, hD⟩ := hrel
  by_cases hlt : k < N
  · have j1 : (k : Int) < (N : Int) := by omega
    have T1 := Lib.hid (show (List.replicate k (1 : Int)).map (Value.int .i64 ·) ++ [.int .i64 1] = (List.replicate (k + 1) (1 : Int)).map (.int .i64 ·) by rw [List.replicate_succ', List.map_append]; rfl)
    have L1 : ((List.replicate k (1 : Int)).map (Value.int .i64 ·)).length = k := by simp
    have T2 := Lib.hid (show ((List.range k).map (fun j : Nat => 3 + (j : Int))).map (Value.int .i64 ·) ++ [.int .i64 (3 + (k : Int))] = ((List.range (k + 1)).map (fun j : Nat => 3 + (j : Int))).map (.int .i64 ·) by
      rw [List.range_succ, List.map_append, List.map_append]; rfl)
    have L2 : (((List.range k).map (fun j : Nat => 3 + (j : Int))).map (Value.int .i64 ·)).length = k := by simp
    obtain ⟨hi0', hz0, hz1, hz2⟩ := HI.out
    go_upto_region 17 with ((with_reducible refine (HDi hD).mono ?_); rintro e w3 ⟨v, cap, rfl, -, hw⟩; replace hD := hw.drop; clear hw HDi)
    go_upto_region 18 with (first
      | (at_builtin; refine wpList_append1 rfl _ _ 30 rfl 3 inf (.int .i64 0) 8 (by kernel_rfl) hi0' hz0 hz1 hz2 rfl (hD.next ((Below.refl _ _).alloc (Nat.le_refl _) (.cells #[.int .i64 1] 3))) 5 _ _ k L1 rfl rfl ⟨w3.heap.size, 0, none⟩ 1 (.int .i64 1) rfl (cell_one_new _ _ _) rfl (by unfold maxLen; omega) (by omega) ?_; intro b3 c3 w4 hw))
    rw [T1.out] at hw
    replace hD : Hold W w4 [diskR g a q 40 d, diskR ga aa qa 40 d, diskR gb ab qb 40 d, diskR gc ac qc 40 d, diskR gx ax qx 40 d, ownR 3 (.slice (some ⟨b3, 0, none⟩) (k + 1) c3) ((List.replicate (k + 1) (1 : Int)).map (.int .i64 ·)), ownR 3 (.slice b2 k cb) (((List.range k).map (fun j : Nat => 3 + (j : Int))).map (.int .i64 ·))] := hw
    clear hw
    go_upto_region 16 with (first
      | (at_builtin; refine wpList_append1 rfl _ _ 30 rfl 3 inf (.int .i64 0) 8 (by kernel_rfl) hi0' hz0 hz1 hz2 rfl (hD.next ((Below.refl _ _).alloc (Nat.le_refl _) (.cells #[.int .i64 (3 + (k : Int))] 3))) 6 _ _ k L2 rfl rfl ⟨w4.heap.size, 0, none⟩ 1 (.int .i64 (3 + (k : Int))) rfl (cell_one_new _ _ _) rfl (by unfold maxLen; omega) (by omega) ?_; intro b4 c4 w5 hw))
    rw [T2.out] at hw
    replace hD : Hold W w5 [diskR g a q 40 d, diskR ga aa qa 40 d, diskR gb ab qb 40 d, diskR gc ac qc 40 d, diskR gx ax qx 40 d, ownR 3 (.slice (some ⟨b3, 0, none⟩) (k + 1) c3) ((List.replicate (k + 1) (1 : Int)).map (.int .i64 ·)), ownR 3 (.slice (some ⟨b4, 0, none⟩) (k + 1) c4) (((List.range (k + 1)).map (fun j : Nat => 3 + (j : Int))).map (.int .i64 ·))] := hw
    clear hw
    go_wp2_with fail
    exact ⟨⟨k + 1, _, _, _, _, by omega, rfl, rfl, by go_num, hD⟩, by simp [intOf]; omega⟩
  obtain rfl : k = N := by omega
  have j1 : ¬ (k : Int) < (k : Int) := by omega
  have F1 := fun {w : World} (h : Hold W w [diskR g a q 40 d, diskR ga aa qa 40 d, diskR gb ab qb 40 d, diskR gc ac qc 40 d, diskR gx ax qx 40 d, ownR 3 (.slice b1 k ca) ((List.replicate k (1 : Int)).map (.int .i64 ·)), ownR 3 (.slice b2 k cb) (((List.range k).map (fun j : Nat => 3 + (j : Int))).map (.int .i64 ·))]) => hSync h 1 rfl (by omega)
  have F2 := fun {w : World} (h : Hold W w [diskR g a q 40 d, diskR ga aa none 40 d.syncD, diskR gb ab qb 40 d, diskR gc ac qc 40 d, diskR gx ax qx 40 d, ownR 3 (.slice b1 k ca) ((List.replicate k (1 : Int)).map (.int .i64 ·)), ownR 3 (.slice b2 k cb) (((List.range k).map (fun j : Nat => 3 + (j : Int))).map (.int .i64 ·))]) => hCrashOwn (i := 2) (j := 5) h rfl rfl (by omega) List.length_replicate (by omega) (by omega)
  have F3 := fun {w : World} (h : Hold W w [diskR g a q 40 d, diskR ga aa none 40 d.syncD, diskR gb ab none 40 (d.crashD (List.replicate k 1)), diskR gc ac qc 40 d, diskR gx ax qx 40 d, ownR 3 (.slice b1 k ca) ((List.replicate k (1 : Int)).map (.int .i64 ·)), ownR 3 (.slice b2 k cb) (((List.range k).map (fun j : Nat => 3 + (j : Int))).map (.int .i64 ·))]) => hCrashNil (i := 3) h rfl (by omega)
  have F4 := fun {w : World} (h : Hold W w [diskR g a q 40 d, diskR ga aa none 40 d.syncD, diskR gb ab none 40 (d.crashD (List.replicate k 1)), diskR gc ac none 40 (d.crashD []), diskR gx ax qx 40 d, ownR 3 (.slice b1 k ca) ((List.replicate k (1 : Int)).map (.int .i64 ·)), ownR 3 (.slice b2 k cb) (((List.range k).map (fun j : Nat => 3 + (j : Int))).map (.int .i64 ·))]) => hCrashOwn (i := 4) (j := 6) h rfl rfl (by omega) (by simp) (by omega) (by omega)
  have E1 := fate_kept d
  rw [hNN] at E1
  have E2 := fate_odd d k
  have E0 := sync_raw d
  go_upto_region 23 with (first
    | ((with_reducible refine (HDi hD).mono ?_); rintro e w3 ⟨v, cap, rfl, -, hw⟩; replace hD := hw.drop; clear hw HDi)
    | ((with_reducible refine (F1 hD).mono ?_); rintro e w3 ⟨rfl, hw⟩; replace hD : Hold W w3 [diskR g a q 40 d, diskR ga aa none 40 d.syncD, diskR gb ab qb 40 d, diskR gc ac qc 40 d, diskR gx ax qx 40 d, ownR 3 (.slice b1 k ca) ((List.replicate k (1 : Int)).map (.int .i64 ·)), ownR 3 (.slice b2 k cb) (((List.range k).map (fun j : Nat => 3 + (j : Int))).map (.int .i64 ·))] := hw; clear hw F1)
    | ((with_reducible refine (F2 hD).mono ?_); rintro e w3 ⟨rfl, hw⟩; replace hD : Hold W w3 [diskR g a q 40 d, diskR ga aa none 40 d.syncD, diskR gb ab none 40 (d.crashD (List.replicate k 1)), diskR gc ac qc 40 d, diskR gx ax qx 40 d, ownR 3 (.slice b1 k ca) ((List.replicate k (1 : Int)).map (.int .i64 ·)), ownR 3 (.slice b2 k cb) (((List.range k).map (fun j : Nat => 3 + (j : Int))).map (.int .i64 ·))] := hw; clear hw F2)
    | ((with_reducible refine (F3 hD).mono ?_); rintro e w3 ⟨rfl, hw⟩; replace hD : Hold W w3 [diskR g a q 40 d, diskR ga aa none 40 d.syncD, diskR gb ab none 40 (d.crashD (List.replicate k 1)), diskR gc ac none 40 (d.crashD []), diskR gx ax qx 40 d, ownR 3 (.slice b1 k ca) ((List.replicate k (1 : Int)).map (.int .i64 ·)), ownR 3 (.slice b2 k cb) (((List.range k).map (fun j : Nat => 3 + (j : Int))).map (.int .i64 ·))] := hw; clear hw F3)
    | ((with_reducible refine (F4 hD).mono ?_); rintro e w3 ⟨rfl, hw⟩; replace hD : Hold W w3 [diskR g a q 40 d, diskR ga aa none 40 d.syncD, diskR gb ab none 40 (d.crashD (List.replicate k 1)), diskR gc ac none 40 (d.crashD []), diskR gx ax none 40 (d.crashD ((List.range k).map (fun j : Nat => 3 + (j : Int)))), ownR 3 (.slice b1 k ca) ((List.replicate k (1 : Int)).map (.int .i64 ·)), ownR 3 (.slice b2 k cb) (((List.range k).map (fun j : Nat => 3 + (j : Int))).map (.int .i64 ·))] := hw; clear hw F4))
  replace hD : Hold W _ [diskR g a q 40 d, diskR ga aa none 40 d.syncD, diskR gb ab none 40 (d.crashD (List.replicate k 1)), diskR gc ac none 40 (d.crashD []), diskR gx ax none 40 (d.crashD ((List.range k).map (fun j : Nat => 3 + (j : Int))))] := hD.sub ((List.sublist_append_left [_, _, _, _, _] [_, _]))
  generalize d.syncD = dA at *
  generalize d.crashD (List.replicate k 1) = dB at *
  generalize d.crashD ((List.range k).map (fun j : Nat => 3 + (j : Int))) = dX at *
  generalize d.crashD [] = dC at *
  have C2 := Lib.hid law4_fixed
  go_wp2_with fail
  go_loopw [13] (fun vi wr => ∃ p : Nat, p ≤ 8 ∧ vi = .int .i64 p ∧ Hold W wr [diskR g a q 40 d, diskR ga aa none 40 dA, diskR gb ab none 40 dB, diskR gc ac none 40 dC, diskR gx ax none 40 dX]) (fun v _ => 8 - (intOf v).toNat)
  case atStart => exact ⟨0, by omega, rfl, hD⟩
  case round =>
  clear hD
  obtain ⟨p, hp, rfl, hD⟩ := hrel
  by_cases hp8 : p < 8
  · have i1 : (p : Int) < 8 := by omega
    have G0 := fun {w : World} (h : Hold W w [diskR g a q 40 d, diskR ga aa none 40 dA, diskR gb ab none 40 dB, diskR gc ac none 40 dC, diskR gx ax none 40 dX]) => hRaw h 0 rfl (by omega) p
    have G1 := fun {w : World} (h : Hold W w [diskR g a q 40 d, diskR ga aa none 40 dA, diskR gb ab none 40 dB, diskR gc ac none 40 dC, diskR gx ax none 40 dX]) => hRaw h 1 rfl (by omega) p
    have G2 := fun {w : World} (h : Hold W w [diskR g a q 40 d, diskR ga aa none 40 dA, diskR gb ab none 40 dB, diskR gc ac none 40 dC, diskR gx ax none 40 dX]) => hRaw h 2 rfl (by omega) p
    have G3 := fun {w : World} (h : Hold W w [diskR g a q 40 d, diskR ga aa none 40 dA, diskR gb ab none 40 dB, diskR gc ac none 40 dC, diskR gx ax none 40 dX]) => hRaw h 3 rfl (by omega) p
    have G4 := fun {w : World} (h : Hold W w [diskR g a q 40 d, diskR ga aa none 40 dA, diskR gb ab none 40 dB, diskR gc ac none 40 dC, diskR gx ax none 40 dX]) => hRaw h 4 rfl (by omega) p
    rw [E0] at G1
    rw [E1] at G2
    rw [E2] at G4
    have HG := Lib.hid E0
    clear E0 E1 E2
    generalize d.rawD p = R1 at *
    generalize dC.rawD p = R2 at *
    go_wp2_with (first
      | ((with_reducible refine (G0 hD).mono ?_); rintro e w3 ⟨rfl, -, hw⟩; replace hD := hw; clear hw)
      | ((with_reducible refine (G1 hD).mono ?_); rintro e w3 ⟨rfl, -, hw⟩; replace hD := hw; clear hw)
      | ((with_reducible refine (G2 hD).mono ?_); rintro e w3 ⟨rfl, -, hw⟩; replace hD := hw; clear hw)
      | ((with_reducible refine (G3 hD).mono ?_); rintro e w3 ⟨rfl, -, hw⟩; replace hD := hw; clear hw)
      | ((with_reducible refine (G4 hD).mono ?_); rintro e w3 ⟨rfl, -, hw⟩; replace hD := hw; clear hw))
    exact ⟨⟨p + 1, by omega, by go_num, hD⟩, by simp [intOf]; omega⟩
  have i1 : ¬ (p : Int) < 8 := by omega
  clear E0 E1 E2
  go_wp2_with ((with_reducible refine (C2.out _).mono ?_); rintro e w5 ⟨rfl, hB⟩; replace hD := hD.next hB; clear hB)
  go_ret
  exact ⟨rfl, hD.up⟩
theorem fates_row (a1 : Option Addr) (n1 m1 : Nat) (f1 : Nat → OpD) (p1 : Nat → Option Addr) (z1 : Nat → Nat) (l1 : n1 ≤ maxLen) (W : World) (w1 : OpsAt W a1 n1 f1 p1 z1) :
    Calls Try.prog 6 #[.slice a1 n1 m1] W fun e w' => e = .returned (.bool true) ∧ Below W.heap.size W w' := fates_law a1 n1 m1 f1 p1 z1 l1 W w1
end Go.Proofs.Ytiekjjejoekdeaa
