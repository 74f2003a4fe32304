import Derived.Test.YtiekjjejoekdeaaDsAct
import Derived.Test.YtiekjjejoekdeaaDsFixed
import Derived.Test.YtiekjjejoekdeaaDsOpen
import Derived.Test.YtiekjjejoekdeaaDsHalves
import Derived.Test.YtiekjjejoekdeaaRes2
import Derived.Test.YtiekjjejoekdeaaDsPure2
import Derived.Deep.CutBlock
import Derived.Deep.DeepCutAuto
import Derived.Deep.OwnRows
namespace Go.Proofs.Ytiekjjejoekdeaa
open Go.RowKit Bw Go.Maps
set_option linter.unusedVariables false
namespace stays
variable {W w : World} {l : List Res} {g a c : Nat} {q : Option Nat} {d : DiskD}
theorem bits7_nat (p : Int) : ∃ m : Nat, bits .and .i64 p 7 = (m : Int) ∧ m < 8 := by
  have h1 := Int.emod_nonneg p (show (8 : Int) ≠ 0 by omega)
  have h2 := Int.emod_lt_of_pos p (show (0 : Int) < 8 by omega)
  exact ⟨(p % 8).toNat, by rw [bits_7]; omega, by omega⟩
theorem infoS : (Try.prog.info? 9).map (fun i => (i.zero, i.size, i.bytes)) = some (some (.string ⟨#[]⟩), 1, 16) := by kernel_rfl
theorem make8l : ∀ w : World, (Instr.makeSlice 47 (.int .i64 8) (.int .i64 8)).run Try.prog w = .ok (.slice (some ⟨w.heap.size, 0, none⟩) 8 8) (w.alloc (.cells (row8 (fun _ => .slice none 0 0)).toArray 48)) := fun w => by
  have h := run_make_row' (P := Try.prog) 47 48 (.slice none 0 0) 24 Try.underlying47 (by kernel_rfl) rfl .i64 .i64 8 (by omega) (by omega) w
  rw [show madeCells #[Value.slice none 0 0] 8 = (row8 (fun _ => Value.slice none 0 0)).toArray from by kernel_rfl] at h
  exact h
theorem padN (s : ByteArray) (w : World) : Calls Try.prog 25 #[.string (s.extract 0 (if (252 : Int) < (s.size : Int) then (252 : Int) else (s.size : Int)).toNat), .int .i64 252] w fun e w' =>
    e = .returned (.tuple #[.string (wholeS (cutN 252 s)), .int .i64 (padE (cutN 252 s) 252)]) ∧ Below w.heap.size w w' := by
  rw [cutN_if]
  have := cutN_size (n := 252) s (by omega)
  exact fxp (by omega) w

set_option maxHeartbeats 4000000 in
set_option maxRecDepth 100000 in
theorem law (a1 : Option Addr) (n1 m1 : Nat) (f1 : Nat → OpD) (p1 : Nat → Option Addr) (z1 : Nat → Nat) (l1 : n1 ≤ 9223372036854775807) (a2 : Option Addr) (n2 m2 : Nat) (f2 : Nat → OpD) (p2 : Nat → Option Addr) (z2 : Nat → Nat) (l2 : n2 ≤ 9223372036854775807)
    (a3 : Option Addr) (F : List Int) (m3 : Nat) (W : World) (w1 : OpsAt W a1 n1 f1 p1 z1) (w2 : OpsAt W a2 n2 f2 p2 z2) (w3 : F.length ≤ m3 ∧ IntsIn W a3 F) :
    Calls Try.prog 5 #[.slice a1 n1 m1, .slice a2 n2 m2, .slice a3 F.length m3] W fun e w' => e = .returned (.bool true) ∧ Below W.heap.size W w' := by
  have hD := Hold.start W
  go_enter Try.func5, Try.ntmps5
  go_upto_block 0 with ((with_reducible refine (new8 hD).mono ?_); rintro e w4 ⟨g, a, rfl, hw⟩; replace hD := hw; clear hw)
  go_cut [9] (fun v9 wx => ∃ q d h, Reads8 d h ∧ Hold W wx [diskR g a q 40 d])
  case first =>
    go_wp2_with fail
    go_loopw [9] (fun vi wr => ∃ (k : Nat) (q : Option Nat) (d : DiskD) (h : Nat → ByteArray), k ≤ n1 ∧ k ≤ 40 ∧ vi = .int .i64 k ∧ Reads8 d h ∧ Hold W wr [diskR g a q k d]) (fun v _ => n1 - (intOf v).toNat)
    case atStart => exact ⟨0, none, initD 8, _, by omega, by omega, rfl, reads8_init, hD⟩
    case round =>
      clear hD
      obtain ⟨k, q, d, h, hk, hk2, rfl, hR, hD⟩ := hrel
      by_cases hlt : k < n1
      · by_cases hlt2 : k < 40
        · have j0 : (0 : Int) ≤ (k : Int) := by omega
          have j1 : (k : Int) < (n1 : Int) := by omega
          have j2 : (k : Int) < 40 := by omega
          obtain ⟨-, go, oo, rfl, c0, c1, c2, c3⟩ := (w1.up hD.up) k hlt
          have hS := (w1 k hlt).1.2.2.1
          obtain ⟨m, hm, hm8⟩ := bits7_nat (f1 k).p
          generalize f1 k = Fk at *
          obtain ⟨Fk, Fp, Fs, Ff⟩ := Fk
          simp only at c0 c1 c2 c3 hm hS
          have HC := Lib.hid (cutN_if 252 Fs)
          have m0 : (0 : Int) ≤ min (Fs.size : Int) 252 := by omega
          have mm1 : min (Fs.size : Int) 252 ≤ (Fs.size : Int) := by omega
          go_upto_region 7 with fail
          refine wp_region_later_tail 20 (by kernel_rfl) (by kernel_rfl) ?_
          have l1 := Later.cell_of c1
          have l2 := Later.cell_of c2
          have hne := later_ne wr
          simp only [List.take_succ_cons, List.take_zero]
          repeat (go_big_quiet_step (fail))
          refine wpQuiet_nil ?_
          intro w9 hw9
          obtain ⟨u9, rfl⟩ := hw9
          replace hD := hD.next u9.up
          clear l1 l2 c0 c1 c2 c3 hne
          generalize u9.world = w9 at *
          simp only [List.drop_succ_cons, List.drop_zero]
          rw [HC.out]
          clear m0 mm1 HC
          have hcs := cutN_size (n := 252) Fs (by omega)
          generalize (if (252 : Int) < (Fs.size : Int) then (252 : Int) else (Fs.size : Int)) = mm at *
          obtain ⟨-, r2⟩ := reads8_write' hR hm8 (s := cutN 252 Fs) (by omega)
          have HW := hWrite hD 0 rfl (by omega) m (cutN 252 Fs) (by omega)
          go_wp2_with ((with_reducible refine HW.mono ?_); rintro e w3 ⟨rfl, q2, hw⟩; replace hD : Hold W w3 [diskR g a q2 (k + 1) (d.writeD m (cutN 252 Fs))] := hw; clear hw HW)
          exact ⟨⟨k + 1, q2, _, _, by omega, by omega, by go_num, r2, hD⟩, by simp [intOf]; omega⟩
        · have j1 : (k : Int) < (n1 : Int) := by omega
          have j2 : ¬ (k : Int) < 40 := by omega
          go_wp2_with fail
          go_meet
          exact ⟨q, d, h, hR, hold_disk_mono (i := 0) (l := [diskR g a q k d]) hD (by simp) (by omega)⟩
      · have j1 : ¬ (k : Int) < (n1 : Int) := by omega
        go_wp2_with fail
        go_meet
        exact ⟨q, d, h, hR, hold_disk_mono (i := 0) (l := [diskR g a q k d]) hD (by simp) (by omega)⟩
  case rest =>
  clear hD w1
  obtain ⟨q, dd, h0, hR, hD⟩ := hcut
  replace hR := reads8_sync hR
  have HS := hSync hD 0 rfl (by omega)
  have hW0 : dd.syncD.W = [] := rfl
  generalize dd.syncD = d0 at *
  have HC := fun {w : World} (h : Hold W w [diskR g a none 40 d0]) => hCopy h 0 rfl (by omega)
  have HD := fun {w : World} {g' a' : Nat} {q' : Option Nat} (h : Hold W w [diskR g a none 40 d0, diskR g' a' q' 40 d0]) => hDirty h 0 rfl (by omega)
  rw [show d0.dirtyD.length = 0 by rw [DiskD.dirtyD, hW0]; rfl] at HD
  have hmk := make8l
  go_upto_region 13 with (first
    | ((with_reducible refine HS.mono ?_); rintro e w4 ⟨rfl, hw⟩; replace hD : Hold W w4 [diskR g a none 40 d0] := hw; clear hw HS)
    | ((with_reducible refine (HC hD).mono ?_); rintro e w5 ⟨gw, aw, qw, rfl, -, hw⟩; replace hD : Hold W w5 [diskR g a none 40 d0, diskR gw aw qw 40 d0] := hw; clear hw HC)
    | ((with_reducible refine (HD hD).mono ?_); rintro e w6 ⟨v, cap, rfl, -, hw⟩; replace hD : Hold W w6 [diskR g a none 40 d0, diskR gw aw qw 40 d0] := hw.drop; clear hw))
  have hok : d0.Ok := (show DiskAt _ ⟨g, a, none⟩ 40 d0 from hD.get 0 rfl).ok
  replace hD := hD.made8 (fun _ => .slice none 0 0) 48
  have hM := may_made hD 9
  clear hmk HD hD
  generalize w6.heap.size = gm at *
  generalize w6.alloc (.cells (row8 (fun _ => .slice none 0 0)).toArray 48) = w7 at *
  obtain ⟨inf, hi0', hz0, hz1, hz2⟩ := info_parts infoS
  have HI := Lib.hid (show Try.prog.info? 9 = some inf ∧ inf.zero = _ ∧ inf.size = 1 ∧ inf.bytes = 16 from ⟨hi0', hz0, hz1, hz2⟩)
  clear hi0' hz0 hz1 hz2
  go_upto_block 2 with fail
  go_cut [12] (fun v12 wx => ∃ q d M v, Since d0 d M ∧ (∀ j, (M j).length ≤ 40) ∧ Hold W wx (diskR g a q 80 d :: diskR gw aw qw 40 d0 :: row8R gm v :: own8 9 v M))
  case first =>
    go_wp2_with fail
    go_loopw [12] (fun vi wr => ∃ (k : Nat) (q : Option Nat) (d : DiskD) (M : Nat → List ByteArray) (v : Nat → Value), k ≤ n2 ∧ k ≤ 40 ∧ vi = .int .i64 k ∧ Since d0 d M ∧ (∀ j, (M j).length ≤ k) ∧ Hold W wr (diskR g a q (40 + k) d :: diskR gw aw qw 40 d0 :: row8R gm v :: own8 9 v M)) (fun v _ => n2 - (intOf v).toNat)
    case atStart => exact ⟨0, none, d0, _, _, by omega, by omega, rfl, since_start hR.1 hW0, fun _ => Nat.le_refl _, hM⟩
    case round =>
      clear hM
      obtain ⟨k, q, d, M, v, hk, hk2, rfl, hI, hML, hD⟩ := hrel
      by_cases hlt : k < n2
      · by_cases hlt2 : k < 40
        · have j0 : (0 : Int) ≤ (k : Int) := by omega
          have j1 : (k : Int) < (n2 : Int) := by omega
          have j2 : (k : Int) < 40 := by omega
          obtain ⟨-, go, oo, rfl, c0, c1, c2, c3⟩ := (w2.up hD.up) k hlt
          have hS := (w2 k hlt).1.2.2.1
          obtain ⟨m, hm, hm8⟩ := bits7_nat (f2 k).p
          have j3 : (0 : Int) ≤ (m : Int) := by omega
          have j4 : (m : Int) < 8 := by omega
          generalize f2 k = Fk at *
          obtain ⟨Fk, Fp, Fs, Ff⟩ := Fk
          simp only at c0 c1 c2 c3 hm hS
          have PN := Lib.hid (padN Fs)
          have hcs := cutN_size (n := 252) Fs (by omega)
          generalize padE (cutN 252 Fs) 252 = EN at *
          have hz : (wholeS (cutN 252 Fs)).size = 252 := wholeS_size (by omega)
          obtain ⟨r1, r2⟩ := since_write hI hm8 hz
          generalize wholeS (cutN 252 Fs) = S at *
          have m0 : (0 : Int) ≤ min (Fs.size : Int) 252 := by omega
          have mm1 : min (Fs.size : Int) 252 ≤ (Fs.size : Int) := by omega
          go_upto_region 17 with fail
          refine wp_region_later (by kernel_rfl) (by kernel_rfl) ?_
          have l1 := Later.cell_of c2
          have hne := later_ne wr
          repeat (go_big_quiet_step ((go_at_call 25; with_reducible exact Calls.later (PN.out _))))
          refine wpQuiet_nil ?_
          intro w9 hw9
          obtain ⟨u9, rfl⟩ := hw9
          replace hD := hD.next u9.up
          clear l1 c0 c1 c2 c3 hne PN
          generalize u9.world = w9 at *
          clear m0 mm1
          generalize (if (252 : Int) < (Fs.size : Int) then (252 : Int) else (Fs.size : Int)) = mm at *
          have HW := hWrite hD 0 rfl (by omega) m S (by omega)
          rw [r1] at HW
          have hg : ∀ q' (d' : DiskD), (diskR g a q' (40 + k + 1) d' :: diskR gw aw qw 40 d0 :: row8R gm v :: own8 9 v M)[m + 3]? = some (ownR 9 (v m) (texts (M m))) := fun _ _ => own8_get _ v M m hm8
          obtain ⟨qs, cs, hv, -⟩ := may_form hD hm8
          rw [hv] at hg
          have hml := hML m
          have hvl : (texts (M m)).length = (M m).length := List.length_map _
          generalize hnm : (M m).length = nm at *
          obtain ⟨hi0', hz0, hz1, hz2⟩ := HI.out
          have HV := Lib.hid hv
          clear hv
          go_upto_region 20 with ((with_reducible refine HW.mono ?_); rintro e w4 ⟨rfl, q2, hw⟩; replace hD : Hold W w4 (diskR g a q2 (40 + k + 1) (d.writeD m S) :: diskR gw aw qw 40 d0 :: row8R gm v :: own8 9 v M) := hw; clear hw HW)
          obtain ⟨b1, b2⟩ := hD.cell8 2 rfl m hm8
          rw [HV.out] at b1
          have b1' : (w4.alloc (.cells #[.string S] 9)).cell? ⟨gm, m, none⟩ = some (.slice qs nm cs) := (AllS.of_up (S := fun _ => False) ((Up.refl w4).alloc _)).cell b1 id
          go_wp2_with (first
            | (at_builtin; refine wpList_append1 rfl _ _ 48 rfl 9 inf (.string ⟨#[]⟩) 16 (by kernel_rfl) hi0' hz0 hz1 hz2 rfl (hD.next ((Below.refl _ _).alloc (Nat.le_refl _) (.cells #[.string S] 9))) (m + 3) _ (texts (M m)) nm hvl (hg _ _) rfl ⟨w4.heap.size, 0, none⟩ 1 (.string S) rfl (cell_one_new _ _ _) rfl (by unfold maxLen; omega) (by omega) ?_; intro b3 c3 w5 hw; clear b1 b2 b1'; obtain ⟨b1, b2⟩ := hw.cell8 2 (g := gm) (f := v) rfl m hm8))
          rw [show texts (M m) ++ [Value.string S] = texts (M m ++ [S]) by simp [texts]] at hw
          have hlen : ∀ j, (if j = m then M m ++ [S] else M j).length ≤ k + 1 := fun j => by
            split
            · rw [List.length_append, hnm]; simp; omega
            · have := hML j; omega
          exact ⟨⟨k + 1, q2, _, _, _, by omega, by omega, by go_num, r2, hlen, may_done hw hm8⟩, by simp [intOf]; omega⟩
        · have j1 : (k : Int) < (n2 : Int) := by omega
          have j2 : ¬ (k : Int) < 40 := by omega
          go_wp2_with fail
          go_meet
          exact ⟨q, d, M, v, hI, fun j => by have := hML j; omega, hold_disk_mono (i := 0) (l := diskR g a q (40 + k) d :: diskR gw aw qw 40 d0 :: row8R gm v :: own8 9 v M) hD (by simp) (by omega)⟩
      · have j1 : ¬ (k : Int) < (n2 : Int) := by omega
        go_wp2_with fail
        go_meet
        exact ⟨q, d, M, v, hI, fun j => by have := hML j; omega, hold_disk_mono (i := 0) (l := diskR g a q (40 + k) d :: diskR gw aw qw 40 d0 :: row8R gm v :: own8 9 v M) hD (by simp) (by omega)⟩
  case rest =>
  clear hM w2
  obtain ⟨q, d, M, v, hI, hML, hD⟩ := hcut
  have hdok : d.Ok := (show DiskAt _ ⟨g, a, q⟩ 80 d from hD.get 0 rfl).ok
  go_upto_region 21 with fail
  go_cut [123] (fun v123 wx => Hold W wx (diskR g a none 80 (d.crashD (F.take 60)) :: diskR gw aw qw 40 d0 :: row8R gm v :: own8 9 v M))
  case first =>
    obtain ⟨hca, hF1, -, hF3⟩ := w3
    have hcr : ∀ n, n = (F.take 60).length → ∀ fc, Calls Try.prog 26 #[.pointer (some ⟨g, 0, none⟩), .slice a3 n fc] wc fun e w' => e = .returned (.tuple #[]) ∧ Hold W w' (diskR g a none 80 (d.crashD (F.take 60)) :: diskR gw aw qw 40 d0 :: row8R gm v :: own8 9 v M) := by
      rintro n rfl fc
      have hcw : d.W.length ≤ 80 := by
        have hA : DiskAt wc ⟨g, a, q⟩ 80 d := hD.get 0 rfl
        obtain ⟨v, m, _, _, h3, _⟩ := hA.mem; omega
      refine hCrash hD 0 rfl (by omega) (F.take 60) a3 fc ?_ (by rw [List.length_take]; omega) ?_
      · intro k hk
        have hk' : k < F.length := by rw [List.length_take] at hk; omega
        rw [List.getElem_take]
        exact (hF3.up hD.up) k hk'
      · intro hne x hx hk
        have h1 := hF3.lt (fun e => hne (by rw [e]; rfl)) x hx
        have h2 := hD.new 0 rfl _ hk
        omega
    unfold maxLen at hF1
    by_cases hlen : F.length ≤ 60
    · have C1 := hcr F.length (by rw [List.length_take]; omega)
      have j1 : ¬ (60 : Int) < (F.length : Int) := by omega
      have j0 : F.length ≤ m3 := hca
      clear hcr hlen
      go_wp2_with ((with_reducible refine (C1 _).mono ?_); rintro e w4 ⟨rfl, hw⟩)
      go_meet
      exact hw
    · have C1 := hcr 60 (by rw [List.length_take]; omega)
      have j1 : (60 : Int) < (F.length : Int) := by omega
      have j2 : (60 : Int) ≤ (F.length : Int) := by omega
      have j3 : (60 : Int) ≤ (m3 : Int) := by omega
      have j4 : 60 ≤ m3 := by omega
      clear hcr hlen
      go_wp2_with ((with_reducible refine (C1 _).mono ?_); rintro e w4 ⟨rfl, hw⟩)
      go_meet
      exact hw
  case rest =>
  clear hD
  have hD := hcut
  clear hcut w3
  have PG := Lib.hid (fun (p : Nat) (hp : p < 8) => stays_page hR hW0 hok hdok hI (F.take 60) hp)
  have HMz := Lib.hid hI.M
  have hDW : (d.crashD (F.take 60)).dirtyD.length = 0 := rfl
  generalize d.crashD (F.take 60) = D at *
  clear hI hdok
  have C2 := Lib.hid law4_fixed
  go_wp2_with fail
  go_loopw [16] (fun vi wr => ∃ (p : Nat) (v : Nat → Value) (M' : Nat → List ByteArray), p ≤ 8 ∧ vi = .int .i64 p ∧ (∀ j, p ≤ j → M' j = M j) ∧ Hold W wr (diskR g a none 80 D :: diskR gw aw qw 40 d0 :: row8R gm v :: own8 9 v M')) (fun v _ => 8 - (intOf v).toNat)
  case atStart => exact ⟨0, v, M, by omega, rfl, fun _ _ => rfl, hD⟩
  case round =>
  clear hD v
  obtain ⟨p, v, M', hp, rfl, hMM, hD⟩ := hrel
  by_cases hp8 : p < 8
  · have j0 : (0 : Int) ≤ (p : Int) := by omega
    have j1 : (p : Int) < 8 := by omega
    obtain ⟨gA, gE, gH, gz⟩ := PG.out p hp8
    have R1 := hRead hD 0 rfl (by omega) p
    have R2 := fun {w : World} (h : Hold W w (diskR g a none 80 D :: diskR gw aw qw 40 d0 :: row8R gm v :: own8 9 v M')) => hRead h 1 rfl (by omega) p
    obtain ⟨e1, e2⟩ := hR.2 p hp8
    rw [e1, e2] at R2
    clear e1 e2
    obtain ⟨qs, cs, hv, -⟩ := may_form hD hp8
    have hg : (diskR g a none 80 D :: diskR gw aw qw 40 d0 :: row8R gm v :: own8 9 v M')[p + 3]? = some (ownR 9 (v p) (texts (M' p))) := own8_get _ v M' p hp8
    have hml := hML p
    have hmz := HMz.out p
    rw [hMM p (Nat.le_refl _)] at hv hg
    rw [hv] at hg
    have hvl : (texts (M p)).length = (M p).length := List.length_map _
    have hzi : ((h0 p).size : Int) = 252 := by omega
    have HV := Lib.hid hv
    have HM2 := Lib.hid (show ∀ x, ∀ j, p + 1 ≤ j → (if j = p then M p ++ [x] else M' j) = M j from fun x j hj => by rw [if_neg (by omega), hMM j (by omega)])
    clear hv hMM
    have T1 := Lib.hid (fun x => show texts (M p) ++ [Value.string x] = texts (M p ++ [x]) by simp [texts])
    have hl1 := Lib.hid (fun (x : ByteArray) => show (M p ++ [x]).length = (M p).length + 1 by simp)
    obtain ⟨hi0', hz0, hz1, hz2⟩ := HI.out
    generalize D.readS p = s at *
    generalize D.readE p = E at *
    generalize h0 p = old at *
    by_cases hA : M p = []
    · obtain ⟨rfl, rfl⟩ := gA hA
      obtain ⟨hs, hH⟩ := gH rfl
      have hn0 : (M p).length = 0 := by rw [hA]; rfl
      generalize M p = Mp at *
      generalize hnm : Mp.length = nm at *
      have hn1 : ((nm : Int) == 0) = true := by rw [hn0]; rfl
      clear gA gE gH hA hn0
      go_upto_region 27 with (first
        | ((with_reducible refine R1.mono ?_); rintro e w4 ⟨rfl, -, hw⟩; replace hD := hw; clear hw R1)
        | ((with_reducible refine (R2 hD).mono ?_); rintro e w5 ⟨rfl, -, hw⟩; replace hD := hw; clear hw R2))
      obtain ⟨b1, b2⟩ := hD.cell8 2 rfl p hp8
      rw [HV.out] at b1
      go_upto_region 29 with fail
      have b1' : (w5.alloc (.cells #[.string s] 9)).cell? ⟨gm, p, none⟩ = some (.slice qs nm cs) := (AllS.of_up (S := fun _ => False) ((Up.refl w5).alloc _)).cell b1 id
      go_upto_region 30 with (first
        | (at_builtin; refine wpList_append1 rfl _ _ 48 rfl 9 inf (.string ⟨#[]⟩) 16 (by kernel_rfl) hi0' hz0 hz1 hz2 rfl (hD.next ((Below.refl _ _).alloc (Nat.le_refl _) (.cells #[.string s] 9))) (p + 3) _ (texts Mp) nm hvl hg rfl ⟨w5.heap.size, 0, none⟩ 1 (.string s) rfl (cell_one_new _ _ _) rfl (by unfold maxLen; omega) (by omega) ?_; intro b3 c3 w6 hw; clear b1 b2 b1'; obtain ⟨b1, b2⟩ := hw.cell8 2 (g := gm) (f := v) rfl p hp8))
      rw [T1.out] at hw
      replace hD := may_done hw hp8
      clear hw b1 b2 hg hvl HV
      obtain ⟨hnl, hL, b1⟩ := may_last hD hp8
      have HH := law4_halves s hs (Mp ++ [s]) _ c3 _ hL (fun t ht => by
        rcases List.mem_append.1 ht with ht | ht
        · exact hmz t ht
        · obtain rfl := List.mem_singleton.1 ht; omega) (by rw [hl1.out]; omega)
      rw [hl1.out, hH] at HH
      have hsi : (s.size : Int) = 252 := by omega
      clear hnl hL hs hH gz
      go_wp2_with ((with_reducible refine HH.mono ?_); rintro e w7 ⟨rfl, hB⟩; replace hD := hD.next hB; clear hB HH)
      exact ⟨⟨p + 1, _, _, by omega, by go_num, HM2.out _, hD⟩, by simp [intOf]; omega⟩
    · have hn0 : (M p).length ≠ 0 := fun e => hA (List.length_eq_zero_iff.1 e)
      generalize M p = Mp at *
      generalize hnm : Mp.length = nm at *
      have hn1 : ((nm : Int) == 0) = false := beq_eq_false_iff_ne.2 (by omega)
      clear gA hA hn0
      rcases gE with rfl | rfl
      · obtain ⟨hs, hH⟩ := gH rfl
        clear gH
        go_upto_region 27 with (first
          | ((with_reducible refine R1.mono ?_); rintro e w4 ⟨rfl, -, hw⟩; replace hD := hw; clear hw R1)
          | ((with_reducible refine (R2 hD).mono ?_); rintro e w5 ⟨rfl, -, hw⟩; replace hD := hw; clear hw R2))
        obtain ⟨b1, b2⟩ := hD.cell8 2 rfl p hp8
        rw [HV.out] at b1
        go_upto_region 29 with fail
        have b1' : (w5.alloc (.cells #[.string old] 9)).cell? ⟨gm, p, none⟩ = some (.slice qs nm cs) := (AllS.of_up (S := fun _ => False) ((Up.refl w5).alloc _)).cell b1 id
        go_upto_region 30 with (first
          | (at_builtin; refine wpList_append1 rfl _ _ 48 rfl 9 inf (.string ⟨#[]⟩) 16 (by kernel_rfl) hi0' hz0 hz1 hz2 rfl (hD.next ((Below.refl _ _).alloc (Nat.le_refl _) (.cells #[.string old] 9))) (p + 3) _ (texts Mp) nm hvl hg rfl ⟨w5.heap.size, 0, none⟩ 1 (.string old) rfl (cell_one_new _ _ _) rfl (by unfold maxLen; omega) (by omega) ?_; intro b3 c3 w6 hw; clear b1 b2 b1'; obtain ⟨b1, b2⟩ := hw.cell8 2 (g := gm) (f := v) rfl p hp8))
        rw [T1.out] at hw
        replace hD := may_done hw hp8
        clear hw b1 b2 hg hvl HV
        obtain ⟨hnl, hL, b1⟩ := may_last hD hp8
        have HH := law4_halves s hs (Mp ++ [old]) _ c3 _ hL (fun t ht => by
          rcases List.mem_append.1 ht with ht | ht
          · exact hmz t ht
          · obtain rfl := List.mem_singleton.1 ht; omega) (by rw [hl1.out]; omega)
        rw [hl1.out, hH] at HH
        have hsi : (s.size : Int) = 252 := by omega
        clear hnl hL hs hH gz
        go_wp2_with ((with_reducible refine HH.mono ?_); rintro e w7 ⟨rfl, hB⟩; replace hD := hD.next hB; clear hB HH)
        exact ⟨⟨p + 1, _, _, by omega, by go_num, HM2.out _, hD⟩, by simp [intOf]; omega⟩
      · clear gH
        go_upto_region 27 with (first
          | ((with_reducible refine R1.mono ?_); rintro e w4 ⟨rfl, -, hw⟩; replace hD := hw; clear hw R1)
          | ((with_reducible refine (R2 hD).mono ?_); rintro e w5 ⟨rfl, -, hw⟩; replace hD := hw; clear hw R2))
        obtain ⟨b1, b2⟩ := hD.cell8 2 rfl p hp8
        rw [HV.out] at b1
        go_upto_region 29 with fail
        have b1' : (w5.alloc (.cells #[.string old] 9)).cell? ⟨gm, p, none⟩ = some (.slice qs nm cs) := (AllS.of_up (S := fun _ => False) ((Up.refl w5).alloc _)).cell b1 id
        go_upto_region 30 with (first
          | (at_builtin; refine wpList_append1 rfl _ _ 48 rfl 9 inf (.string ⟨#[]⟩) 16 (by kernel_rfl) hi0' hz0 hz1 hz2 rfl (hD.next ((Below.refl _ _).alloc (Nat.le_refl _) (.cells #[.string old] 9))) (p + 3) _ (texts Mp) nm hvl hg rfl ⟨w5.heap.size, 0, none⟩ 1 (.string old) rfl (cell_one_new _ _ _) rfl (by unfold maxLen; omega) (by omega) ?_; intro b3 c3 w6 hw; clear b1 b2 b1'; obtain ⟨b1, b2⟩ := hw.cell8 2 (g := gm) (f := v) rfl p hp8))
        rw [T1.out] at hw
        replace hD := may_done hw hp8
        clear hw b1 b2 hg hvl HV
        clear gz
        go_wp2_with fail
        exact ⟨⟨p + 1, _, _, by omega, by go_num, HM2.out _, hD⟩, by simp [intOf]; omega⟩
  · have j1 : ¬ (p : Int) < 8 := by omega
    have HDi := hDirty hD 0 rfl (by omega)
    rw [hDW] at HDi
    go_wp2_with (first
      | ((with_reducible refine HDi.mono ?_); rintro e w7 ⟨v7, c7, rfl, -, hw⟩; replace hD := hw.drop; clear hw HDi)
      | ((with_reducible refine (C2.out _).mono ?_); rintro e w5 ⟨rfl, hB⟩; replace hD := hD.next hB; clear hB))
    go_ret
    exact ⟨rfl, hD.up⟩
theorem row (a1 : Option Addr) (n1 m1 : Nat) (f1 : Nat → OpD) (p1 : Nat → Option Addr) (z1 : Nat → Nat) (l1 : n1 ≤ maxLen) (a2 : Option Addr) (n2 m2 : Nat) (f2 : Nat → OpD) (p2 : Nat → Option Addr) (z2 : Nat → Nat) (l2 : n2 ≤ maxLen)
    (a3 : Option Addr) (F : List Int) (m3 : Nat) (W : World) (w1 : OpsAt W a1 n1 f1 p1 z1) (w2 : OpsAt W a2 n2 f2 p2 z2) (w3 : F.length ≤ m3 ∧ IntsIn W a3 F) :
    Calls Try.prog 5 #[.slice a1 n1 m1, .slice a2 n2 m2, .slice a3 F.length m3] W fun e w' => e = .returned (.bool true) ∧ Below W.heap.size W w' :=
  law a1 n1 m1 f1 p1 z1 l1 a2 n2 m2 f2 p2 z2 l2 a3 F m3 W w1 w2 w3
end stays
end Go.Proofs.Ytiekjjejoekdeaa
