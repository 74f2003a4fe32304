import Derived.Test.YtiekjjejoekdeaaRfCopy
import Derived.Test.YtiekjjejoekdeaaDsAct
import Derived.Deep.DeepCutAuto
namespace Bw
open Go
/-- What a call of a script makes of both disks. -/
def playD (d : DiskD) (o : OpD) : DiskD := if o.k = 0 then d.writeD o.p (cutN 300 o.s) else if o.k = 1 then d.syncD else if o.k = 2 then d.crashD (o.f.take 60) else d
end Bw
namespace Go.Proofs.Ytiekjjejoekdeaa
open Go.RowKit Bw
set_option linter.unusedVariables false
variable {W w : World} {g a c gr : Nat} {q : Option Nat} {vL vW : Value} {d : DiskD}
def PlayPost (W : World) (g a c gr : Nat) (d : DiskD) (e : Ending) (w' : World) : Prop := e = .returned (.bool true) ∧ ∃ q' vL' vW', Hold W w' (refs (diskR g a q' c d) gr vL' vW' d [])
theorem refs_ok {T : List Res} (h : Hold W w (refs (diskR g a q c d) gr vL vW d T)) : d.Ok ∧ d.W.length ≤ c := by
  have hA : DiskAt w ⟨g, a, q⟩ c d := h.get 0 rfl
  obtain ⟨v, m, _, _, h3, _⟩ := hA.mem
  exact ⟨hA.ok, by omega⟩
theorem refs_mono {T : List Res} {c' : Nat} (h : Hold W w (refs (diskR g a q c d) gr vL vW d T)) (hc : c ≤ c') : Hold W w (refs (diskR g a q c' d) gr vL vW d T) :=
  hold_disk_mono (i := 0) (l := refs (diskR g a q c d) gr vL vW d T) h (by simp [refs]) hc
set_option maxHeartbeats 2000000 in
theorem play1 (h : Hold W w (refs (diskR g a q c d) gr vL vW d [])) (hc : c ≤ 900) (p : Int) (s : ByteArray) (f : List Int) (pa : Option Addr) (ca : Nat) (hl : f.length ≤ 9223372036854775807) (hca : f.length ≤ ca) :
    Calls Try.prog 15 #[.pointer (some ⟨g, 0, none⟩), .pointer (some ⟨gr, 0, none⟩), .agg #[.int .i64 1, .int .i64 p, .string s, .slice pa f.length ca]] w (PlayPost W g a (c + 1) gr d.syncD) := by
  obtain ⟨hok, hw0⟩ := refs_ok h
  have hD := h
  clear h
  go_enter Try.func15, Try.ntmps15
  go_upto_region 1 with fail
  have hcai : (f.length : Int) ≤ (ca : Int) := by omega
  have hz := hD.madeRow (.int .i64 1) [.int .i64 p, .string s, .slice pa f.length ca] 32
  replace hD : Hold W _ (refs (diskR g a q c d) gr vL vW d [rowR w.heap.size (.int .i64 1) [.int .i64 p, .string s, .slice pa f.length ca]]) := hz
  clear hz
  generalize w.heap.size = g5 at *
  generalize w.alloc _ = w3 at *
  go_cut [7, 8] (fun v7 v8 wx => v7 = .string (cutN 300 s) ∧ v8 = .slice pa (f.take 60).length ca ∧ Hold W wx (refs (diskR g a q c d) gr vL vW d [rowR g5 (.int .i64 1) [.int .i64 p, .string s, .slice pa f.length ca]]))
  case first =>
    have HC := Lib.hid (cutN_if 300 s)
    have m0 : (0 : Int) ≤ min (s.size : Int) 300 := by omega
    have m1 : min (s.size : Int) 300 ≤ (s.size : Int) := by omega
    obtain ⟨y0, y1, y2, y3, -⟩ := RowAt.c4 (hD.get 4 (R := rowR g5 (.int .i64 1) [.int .i64 p, .string s, .slice pa f.length ca]) rfl)
    by_cases hlen : f.length ≤ 60
    · have j1 : ¬ (60 : Int) < (f.length : Int) := by omega
      have HN := Lib.hid (show (f.take 60).length = f.length by rw [List.length_take]; omega)
      clear hlen
      refine wp_region_later (by kernel_rfl) (by kernel_rfl) ?_
      have l1 := Later.cell_of y2; have l2 := Later.cell_of y3
      have hne := later_ne w3
      repeat (go_big_quiet_step (fail))
      refine wpQuiet_nil ?_
      intro w9 hw9
      obtain ⟨u9, rfl⟩ := hw9
      replace hD := hD.next u9.up
      clear l1 l2 y0 y1 y2 y3 hne m0 m1
      generalize u9.world = w9 at *
      rw [HC.out]
      generalize (if (300 : Int) < (s.size : Int) then (300 : Int) else (s.size : Int)) = mm at *
      go_wp2_with fail
      go_meet
      exact ⟨rfl, by rw [HN.out], hD⟩
    · have j1 : (60 : Int) < (f.length : Int) := by omega
      have j2 : (60 : Int) ≤ (f.length : Int) := by omega
      have j3 : (60 : Int) ≤ (ca : Int) := by omega
      have j4 : 60 ≤ ca := by omega
      have HN := Lib.hid (show (f.take 60).length = 60 by rw [List.length_take]; omega)
      clear hlen
      refine wp_region_later (by kernel_rfl) (by kernel_rfl) ?_
      have l1 := Later.cell_of y2; have l2 := Later.cell_of y3
      have hne := later_ne w3
      repeat (go_big_quiet_step (fail))
      refine wpQuiet_nil ?_
      intro w9 hw9
      obtain ⟨u9, rfl⟩ := hw9
      replace hD := hD.next u9.up
      clear l1 l2 y0 y1 y2 y3 hne m0 m1
      generalize u9.world = w9 at *
      rw [HC.out]
      generalize (if (300 : Int) < (s.size : Int) then (300 : Int) else (s.size : Int)) = mm at *
      go_wp2_with fail
      go_meet
      exact ⟨rfl, by rw [HN.out], hD⟩
  case rest =>
  clear hD
  obtain ⟨rfl, rfl, hD⟩ := hcut
  obtain ⟨y0, y1, y2, y3, -⟩ := RowAt.c4 (hD.get 4 (R := rowR g5 (.int .i64 1) [.int .i64 p, .string s, .slice pa f.length ca]) rfl)
  have H1 := hSync hD 0 rfl (by omega)
  have H2 := fun {w : World} {vW' : Value} {q' : Option Nat} (h : Hold W w (refs (diskR g a none c d.syncD) gr vL vW' d [rowR g5 (.int .i64 1) [.int .i64 p, .string s, .slice pa f.length ca]])) => ref4_Sync h hok (by omega)
  go_wp2_with (first
    | ((with_reducible refine H1.mono ?_); rintro e w4 ⟨rfl, hw⟩; replace hD : Hold W w4 (refs (diskR g a none c d.syncD) gr vL vW d [rowR g5 (.int .i64 1) [.int .i64 p, .string s, .slice pa f.length ca]]) := hw; clear hw H1)
    | ((with_reducible refine (H2 (q' := none) hD).mono ?_); rintro e w5 ⟨rfl, vW2, hw⟩; replace hD := hw; clear hw H2))
  go_ret
  exact ⟨rfl, none, vL, vW2, refs_mono (Hold.drop (l := refs (diskR g a none c d.syncD) gr vL vW2 d.syncD []) hD) (by omega)⟩
set_option maxHeartbeats 2000000 in
theorem play2 (h : Hold W w (refs (diskR g a q c d) gr vL vW d [])) (hc : c ≤ 900) (p : Int) (s : ByteArray) (f : List Int) (pa : Option Addr) (ca : Nat) (hl : f.length ≤ 9223372036854775807) (hca : f.length ≤ ca) (hI : IntsAt W pa f) :
    Calls Try.prog 15 #[.pointer (some ⟨g, 0, none⟩), .pointer (some ⟨gr, 0, none⟩), .agg #[.int .i64 2, .int .i64 p, .string s, .slice pa f.length ca]] w (PlayPost W g a (c + 1) gr (d.crashD (f.take 60))) := by
  obtain ⟨hok, hw0⟩ := refs_ok h
  have hD := h
  clear h
  go_enter Try.func15, Try.ntmps15
  go_upto_region 1 with fail
  have hcai : (f.length : Int) ≤ (ca : Int) := by omega
  have hz := hD.madeRow (.int .i64 2) [.int .i64 p, .string s, .slice pa f.length ca] 32
  replace hD : Hold W _ (refs (diskR g a q c d) gr vL vW d [rowR w.heap.size (.int .i64 2) [.int .i64 p, .string s, .slice pa f.length ca]]) := hz
  clear hz
  generalize w.heap.size = g5 at *
  generalize w.alloc _ = w3 at *
  go_cut [7, 8] (fun v7 v8 wx => v7 = .string (cutN 300 s) ∧ v8 = .slice pa (f.take 60).length ca ∧ Hold W wx (refs (diskR g a q c d) gr vL vW d [rowR g5 (.int .i64 2) [.int .i64 p, .string s, .slice pa f.length ca]]))
  case first =>
    have HC := Lib.hid (cutN_if 300 s)
    have m0 : (0 : Int) ≤ min (s.size : Int) 300 := by omega
    have m1 : min (s.size : Int) 300 ≤ (s.size : Int) := by omega
    obtain ⟨y0, y1, y2, y3, -⟩ := RowAt.c4 (hD.get 4 (R := rowR g5 (.int .i64 2) [.int .i64 p, .string s, .slice pa f.length ca]) rfl)
    by_cases hlen : f.length ≤ 60
    · have j1 : ¬ (60 : Int) < (f.length : Int) := by omega
      have HN := Lib.hid (show (f.take 60).length = f.length by rw [List.length_take]; omega)
      clear hlen
      refine wp_region_later (by kernel_rfl) (by kernel_rfl) ?_
      have l1 := Later.cell_of y2; have l2 := Later.cell_of y3
      have hne := later_ne w3
      repeat (go_big_quiet_step (fail))
      refine wpQuiet_nil ?_
      intro w9 hw9
      obtain ⟨u9, rfl⟩ := hw9
      replace hD := hD.next u9.up
      clear l1 l2 y0 y1 y2 y3 hne m0 m1
      generalize u9.world = w9 at *
      rw [HC.out]
      generalize (if (300 : Int) < (s.size : Int) then (300 : Int) else (s.size : Int)) = mm at *
      go_wp2_with fail
      go_meet
      exact ⟨rfl, by rw [HN.out], hD⟩
    · have j1 : (60 : Int) < (f.length : Int) := by omega
      have j2 : (60 : Int) ≤ (f.length : Int) := by omega
      have j3 : (60 : Int) ≤ (ca : Int) := by omega
      have j4 : 60 ≤ ca := by omega
      have HN := Lib.hid (show (f.take 60).length = 60 by rw [List.length_take]; omega)
      clear hlen
      refine wp_region_later (by kernel_rfl) (by kernel_rfl) ?_
      have l1 := Later.cell_of y2; have l2 := Later.cell_of y3
      have hne := later_ne w3
      repeat (go_big_quiet_step (fail))
      refine wpQuiet_nil ?_
      intro w9 hw9
      obtain ⟨u9, rfl⟩ := hw9
      replace hD := hD.next u9.up
      clear l1 l2 y0 y1 y2 y3 hne m0 m1
      generalize u9.world = w9 at *
      rw [HC.out]
      generalize (if (300 : Int) < (s.size : Int) then (300 : Int) else (s.size : Int)) = mm at *
      go_wp2_with fail
      go_meet
      exact ⟨rfl, by rw [HN.out], hD⟩
  case rest =>
  clear hD
  obtain ⟨rfl, rfl, hD⟩ := hcut
  obtain ⟨y0, y1, y2, y3, -⟩ := RowAt.c4 (hD.get 4 (R := rowR g5 (.int .i64 2) [.int .i64 p, .string s, .slice pa f.length ca]) rfl)
  have hIt : IntsAt W pa (f.take 60) := fun k hk => by
    have hk' : k < f.length := by rw [List.length_take] at hk; omega
    rw [List.getElem_take]
    exact hI k hk'
  have hlt : (f.take 60).length ≤ 60 := by rw [List.length_take]; omega
  have H1 := hCrash hD 0 rfl (by omega) (f.take 60) pa ca (hIt.up hD.up) (by omega) (fun hne x hx hk => by
    have h1 := hIt.lt hne x hx
    have h2 := hD.new 0 rfl _ hk
    omega)
  have H2 := fun {w : World} {vW' : Value} (h : Hold W w (refs (diskR g a none c (d.crashD (f.take 60))) gr vL vW' d [rowR g5 (.int .i64 2) [.int .i64 p, .string s, .slice pa f.length ca]])) => ref4_Crash h hok (by omega) (f.take 60) pa ca hIt (by omega)
  clear hI
  generalize hN : (f.take 60).length = N at *
  clear hN hlt
  go_wp2_with (first
    | ((with_reducible refine H1.mono ?_); rintro e w4 ⟨rfl, hw⟩; replace hD : Hold W w4 (refs (diskR g a none c (d.crashD (f.take 60))) gr vL vW d [rowR g5 (.int .i64 2) [.int .i64 p, .string s, .slice pa f.length ca]]) := hw; clear hw H1)
    | ((with_reducible refine (H2 hD).mono ?_); rintro e w5 ⟨rfl, vW2, hw⟩; replace hD := hw; clear hw H2))
  go_ret
  exact ⟨rfl, none, vL, vW2, refs_mono (Hold.drop (l := refs (diskR g a none c (d.crashD (f.take 60))) gr vL vW2 (d.crashD (f.take 60)) []) hD) (by omega)⟩
set_option maxHeartbeats 2000000 in
theorem play3 (k : Int) (k0 : k ≠ 0) (k1 : k ≠ 1) (k2 : k ≠ 2) (h : Hold W w (refs (diskR g a q c d) gr vL vW d [])) (hc : c ≤ 900) (p : Int) (s : ByteArray) (f : List Int) (pa : Option Addr) (ca : Nat) (hl : f.length ≤ 9223372036854775807) (hca : f.length ≤ ca) :
    Calls Try.prog 15 #[.pointer (some ⟨g, 0, none⟩), .pointer (some ⟨gr, 0, none⟩), .agg #[.int .i64 k, .int .i64 p, .string s, .slice pa f.length ca]] w (PlayPost W g a (c + 1) gr d) := by
  obtain ⟨hok, hw0⟩ := refs_ok h
  have hD := h
  clear h
  have j0 : (k == 0) = false := beq_eq_false_iff_ne.2 k0
  have j1' : (k == 1) = false := beq_eq_false_iff_ne.2 k1
  have j2' : (k == 2) = false := beq_eq_false_iff_ne.2 k2
  clear k0 k1 k2
  go_enter Try.func15, Try.ntmps15
  go_upto_region 1 with fail
  have hcai : (f.length : Int) ≤ (ca : Int) := by omega
  have hz := hD.madeRow (.int .i64 k) [.int .i64 p, .string s, .slice pa f.length ca] 32
  replace hD : Hold W _ (refs (diskR g a q c d) gr vL vW d [rowR w.heap.size (.int .i64 k) [.int .i64 p, .string s, .slice pa f.length ca]]) := hz
  clear hz
  generalize w.heap.size = g5 at *
  generalize w.alloc _ = w3 at *
  go_cut [7, 8] (fun v7 v8 wx => v7 = .string (cutN 300 s) ∧ v8 = .slice pa (f.take 60).length ca ∧ Hold W wx (refs (diskR g a q c d) gr vL vW d [rowR g5 (.int .i64 k) [.int .i64 p, .string s, .slice pa f.length ca]]))
  case first =>
    have HC := Lib.hid (cutN_if 300 s)
    have m0 : (0 : Int) ≤ min (s.size : Int) 300 := by omega
    have m1 : min (s.size : Int) 300 ≤ (s.size : Int) := by omega
    obtain ⟨y0, y1, y2, y3, -⟩ := RowAt.c4 (hD.get 4 (R := rowR g5 (.int .i64 k) [.int .i64 p, .string s, .slice pa f.length ca]) rfl)
    by_cases hlen : f.length ≤ 60
    · have j1 : ¬ (60 : Int) < (f.length : Int) := by omega
      have HN := Lib.hid (show (f.take 60).length = f.length by rw [List.length_take]; omega)
      clear hlen
      refine wp_region_later (by kernel_rfl) (by kernel_rfl) ?_
      have l1 := Later.cell_of y2; have l2 := Later.cell_of y3
      have hne := later_ne w3
      repeat (go_big_quiet_step (fail))
      refine wpQuiet_nil ?_
      intro w9 hw9
      obtain ⟨u9, rfl⟩ := hw9
      replace hD := hD.next u9.up
      clear l1 l2 y0 y1 y2 y3 hne m0 m1
      generalize u9.world = w9 at *
      rw [HC.out]
      generalize (if (300 : Int) < (s.size : Int) then (300 : Int) else (s.size : Int)) = mm at *
      go_wp2_with fail
      go_meet
      exact ⟨rfl, by rw [HN.out], hD⟩
    · have j1 : (60 : Int) < (f.length : Int) := by omega
      have j2 : (60 : Int) ≤ (f.length : Int) := by omega
      have j3 : (60 : Int) ≤ (ca : Int) := by omega
      have j4 : 60 ≤ ca := by omega
      have HN := Lib.hid (show (f.take 60).length = 60 by rw [List.length_take]; omega)
      clear hlen
      refine wp_region_later (by kernel_rfl) (by kernel_rfl) ?_
      have l1 := Later.cell_of y2; have l2 := Later.cell_of y3
      have hne := later_ne w3
      repeat (go_big_quiet_step (fail))
      refine wpQuiet_nil ?_
      intro w9 hw9
      obtain ⟨u9, rfl⟩ := hw9
      replace hD := hD.next u9.up
      clear l1 l2 y0 y1 y2 y3 hne m0 m1
      generalize u9.world = w9 at *
      rw [HC.out]
      generalize (if (300 : Int) < (s.size : Int) then (300 : Int) else (s.size : Int)) = mm at *
      go_wp2_with fail
      go_meet
      exact ⟨rfl, by rw [HN.out], hD⟩
  case rest =>
  clear hD
  obtain ⟨rfl, rfl, hD⟩ := hcut
  obtain ⟨y0, y1, y2, y3, -⟩ := RowAt.c4 (hD.get 4 (R := rowR g5 (.int .i64 k) [.int .i64 p, .string s, .slice pa f.length ca]) rfl)
  go_wp2_with fail
  go_ret
  exact ⟨rfl, q, vL, vW, refs_mono (Hold.drop (l := refs (diskR g a q c d) gr vL vW d []) hD) (by omega)⟩
set_option maxHeartbeats 2000000 in
theorem play0 (h : Hold W w (refs (diskR g a q c d) gr vL vW d [])) (hc : c ≤ 900) (p : Int) (s : ByteArray) (f : List Int) (pa : Option Addr) (ca : Nat) (hl : f.length ≤ 9223372036854775807) (hca : f.length ≤ ca) :
    Calls Try.prog 15 #[.pointer (some ⟨g, 0, none⟩), .pointer (some ⟨gr, 0, none⟩), .agg #[.int .i64 0, .int .i64 p, .string s, .slice pa f.length ca]] w (PlayPost W g a (c + 1) gr (d.writeD p (cutN 300 s))) := by
  obtain ⟨hok, hw0⟩ := refs_ok h
  have hD := h
  clear h
  go_enter Try.func15, Try.ntmps15
  go_upto_region 1 with fail
  have hcai : (f.length : Int) ≤ (ca : Int) := by omega
  have hz := hD.madeRow (.int .i64 0) [.int .i64 p, .string s, .slice pa f.length ca] 32
  replace hD : Hold W _ (refs (diskR g a q c d) gr vL vW d [rowR w.heap.size (.int .i64 0) [.int .i64 p, .string s, .slice pa f.length ca]]) := hz
  clear hz
  generalize w.heap.size = g5 at *
  generalize w.alloc _ = w3 at *
  go_cut [7, 8] (fun v7 v8 wx => v7 = .string (cutN 300 s) ∧ v8 = .slice pa (f.take 60).length ca ∧ Hold W wx (refs (diskR g a q c d) gr vL vW d [rowR g5 (.int .i64 0) [.int .i64 p, .string s, .slice pa f.length ca]]))
  case first =>
    have HC := Lib.hid (cutN_if 300 s)
    have m0 : (0 : Int) ≤ min (s.size : Int) 300 := by omega
    have m1 : min (s.size : Int) 300 ≤ (s.size : Int) := by omega
    obtain ⟨y0, y1, y2, y3, -⟩ := RowAt.c4 (hD.get 4 (R := rowR g5 (.int .i64 0) [.int .i64 p, .string s, .slice pa f.length ca]) rfl)
    by_cases hlen : f.length ≤ 60
    · have j1 : ¬ (60 : Int) < (f.length : Int) := by omega
      have HN := Lib.hid (show (f.take 60).length = f.length by rw [List.length_take]; omega)
      clear hlen
      refine wp_region_later (by kernel_rfl) (by kernel_rfl) ?_
      have l1 := Later.cell_of y2; have l2 := Later.cell_of y3
      have hne := later_ne w3
      repeat (go_big_quiet_step (fail))
      refine wpQuiet_nil ?_
      intro w9 hw9
      obtain ⟨u9, rfl⟩ := hw9
      replace hD := hD.next u9.up
      clear l1 l2 y0 y1 y2 y3 hne m0 m1
      generalize u9.world = w9 at *
      rw [HC.out]
      generalize (if (300 : Int) < (s.size : Int) then (300 : Int) else (s.size : Int)) = mm at *
      go_wp2_with fail
      go_meet
      exact ⟨rfl, by rw [HN.out], hD⟩
    · have j1 : (60 : Int) < (f.length : Int) := by omega
      have j2 : (60 : Int) ≤ (f.length : Int) := by omega
      have j3 : (60 : Int) ≤ (ca : Int) := by omega
      have j4 : 60 ≤ ca := by omega
      have HN := Lib.hid (show (f.take 60).length = 60 by rw [List.length_take]; omega)
      clear hlen
      refine wp_region_later (by kernel_rfl) (by kernel_rfl) ?_
      have l1 := Later.cell_of y2; have l2 := Later.cell_of y3
      have hne := later_ne w3
      repeat (go_big_quiet_step (fail))
      refine wpQuiet_nil ?_
      intro w9 hw9
      obtain ⟨u9, rfl⟩ := hw9
      replace hD := hD.next u9.up
      clear l1 l2 y0 y1 y2 y3 hne m0 m1
      generalize u9.world = w9 at *
      rw [HC.out]
      generalize (if (300 : Int) < (s.size : Int) then (300 : Int) else (s.size : Int)) = mm at *
      go_wp2_with fail
      go_meet
      exact ⟨rfl, by rw [HN.out], hD⟩
  case rest =>
  clear hD
  obtain ⟨rfl, rfl, hD⟩ := hcut
  obtain ⟨y0, y1, y2, y3, -⟩ := RowAt.c4 (hD.get 4 (R := rowR g5 (.int .i64 0) [.int .i64 p, .string s, .slice pa f.length ca]) rfl)
  have hcs := cutN_size (n := 300) s (by omega)
  generalize cutN 300 s = S at *
  go_upto_region 4 with fail
  refine wp_region_two Eq (SameAt ⟨g5, 1, none⟩) (sameAt_ok _) (by kernel_rfl) (by kernel_rfl) (by kernel_rfl) ?_
  replace hD := hD.next ((Below.refl _ wc).drew)
  replace y1 : wc.drew.cell? ⟨g5, 1, none⟩ = some (.int .i64 p) := y1
  clear y0 y2 y3
  generalize wc.drew = w1 at *
  refine wpAnyTS_quiet 0 4 8 52 (by rfl) (by kernel_rfl) (fun _ _ _ _ _ h => h) (by kernel_rfl) (by kernel_rfl) ?_
  apply Exists.intro
  refine ⟨fun w2 hw2 => ?_, ?_⟩
  · have l0 := LaterEq.at y1 hw2
    have hne := laterR_ne (R := Eq) eqOK w2
    simp only [List.drop_succ_cons, List.drop_zero, List.take_succ_cons, List.take_zero]
    repeat (go_big_quiet_step (fail))
    exact wpQuiet_nil rfl
  refine wpAnyTS_quiet 5 4 4 52 (by rfl) (by kernel_rfl) (fun _ _ _ _ _ h => h) (by kernel_rfl) (by kernel_rfl) ?_
  apply Exists.intro
  refine ⟨fun w2 hw2 => ?_, ?_⟩
  · have l0 := LaterEq.at y1 hw2
    have hne := laterR_ne (R := Eq) eqOK w2
    simp only [List.drop_succ_cons, List.drop_zero, List.take_succ_cons, List.take_zero]
    repeat (go_big_quiet_step (fail))
    exact wpQuiet_nil rfl
  refine wpAnyTS_some 4 [] 3 (by rfl) (by kernel_rfl) (by kernel_rfl) ?_
  rintro w2 rfl
  refine ⟨?_, trivial⟩
  simp only [List.drop_succ_cons, List.drop_zero, List.take_succ_cons, List.take_zero]
  have H1 := hWrite hD 0 rfl (by omega) p S (by omega)
  go_wp2_with ((with_reducible refine H1.mono ?_); rintro e w4 ⟨rfl, q2, hw⟩; clear H1)
  replace hw : Hold W w4 (refs (diskR g a q2 (c + 1) (d.writeD p S)) gr vL vW d [rowR g5 (.int .i64 0) [.int .i64 p, .string s, .slice pa f.length ca]]) := hw
  refine ⟨.inr ?_, ?_⟩
  · have z0 := RowAt.c4 (hD.get 4 (R := rowR g5 (.int .i64 0) [.int .i64 p, .string s, .slice pa f.length ca]) rfl)
    have z1 := RowAt.c4 (hw.get 4 (R := rowR g5 (.int .i64 0) [.int .i64 p, .string s, .slice pa f.length ca]) rfl)
    exact z1.2.1.trans z0.2.1.symm
  replace hD := hw
  clear hw y1
  refine wpAnyTS_some 9 [] 2 (by rfl) (by kernel_rfl) (by kernel_rfl) ?_
  rintro w2 rfl
  refine ⟨?_, trivial⟩
  simp only [List.drop_succ_cons, List.drop_zero, List.take_succ_cons, List.take_zero]
  have H2 := ref4_Write hD hok (by omega) p S (by omega)
  go_wp2_with ((with_reducible refine H2.mono ?_); rintro e w5 ⟨rfl, vW2, hw⟩; clear H2)
  refine ⟨.inr ?_, ?_⟩
  · have z0 := RowAt.c4 (hD.get 4 (R := rowR g5 (.int .i64 0) [.int .i64 p, .string s, .slice pa f.length ca]) rfl)
    have z1 := RowAt.c4 (hw.get 4 (R := rowR g5 (.int .i64 0) [.int .i64 p, .string s, .slice pa f.length ca]) rfl)
    exact z1.2.1.trans z0.2.1.symm
  replace hD : Hold W w5 (refs (diskR g a q2 (c + 1) (d.writeD p S)) gr vL vW2 (d.writeD p S) [rowR g5 (.int .i64 0) [.int .i64 p, .string s, .slice pa f.length ca]]) := hw
  clear hw
  generalize d.writeE p S = E at *
  refine wpAnyTS_quiet 10 2 0 52 (by rfl) (by kernel_rfl) (fun _ _ _ _ _ h => h) (by kernel_rfl) (by kernel_rfl) ?_
  apply Exists.intro
  refine ⟨fun w2 hw2 => ?_, ?_⟩
  · have hne := laterR_ne (R := Eq) eqOK w2
    simp only [List.drop_succ_cons, List.drop_zero, List.take_succ_cons, List.take_zero]
    repeat (go_big_quiet_step (fail))
    exact wpQuiet_nil rfl
  refine wpAnyTS_done (by kernel_rfl) ?_
  rintro w2 rfl
  go_wp2_with fail
  go_ret
  exact ⟨by simp, q2, vL, vW2, Hold.drop (l := refs (diskR g a q2 (c + 1) (d.writeD p S)) gr vL vW2 (d.writeD p S) []) hD⟩
theorem law4_play (h : Hold W w (refs (diskR g a q c d) gr vL vW d [])) (hc : c ≤ 900) (o : OpD) (pa : Option Addr) (ca : Nat) (hO : OpIn W o pa ca) :
    Calls Try.prog 15 #[.pointer (some ⟨g, 0, none⟩), .pointer (some ⟨gr, 0, none⟩), .agg #[.int .i64 o.k, .int .i64 o.p, .string o.s, .slice pa o.f.length ca]] w (PlayPost W g a (c + 1) gr (playD d o)) := by
  obtain ⟨-, -, -, hF0, hF1, -, hF3⟩ := hO
  obtain ⟨k, p, s, f⟩ := o
  simp only at hF0 hF1 hF3 ⊢
  unfold playD
  by_cases k0 : k = 0
  · subst k0
    exact play0 h hc p s f pa ca hF1 hF0
  · rw [if_neg k0]
    by_cases k1 : k = 1
    · subst k1
      exact play1 h hc p s f pa ca hF1 hF0
    · rw [if_neg k1]
      by_cases k2 : k = 2
      · subst k2
        exact play2 h hc p s f pa ca hF1 hF0 hF3
      · rw [if_neg k2]
        exact play3 k k0 k1 k2 h hc p s f pa ca hF1 hF0
end Go.Proofs.Ytiekjjejoekdeaa
