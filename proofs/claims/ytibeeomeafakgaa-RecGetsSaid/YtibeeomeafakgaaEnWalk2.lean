import Derived.Test.YtibeeomeafakgaaEnWalk1
import Derived.Test.YtibeeomeafakgaaRecWalk6
import Derived.Test.YtibeeomeafakgaaRelRegion
namespace Go.Proofs.Ytibeeomeafakgaa
open Go.RowKit Bw
set_option linter.unusedVariables false

theorem str_one (b : UInt8) (v : Int) (hv : v = (b.toNat : Int)) : ∀ (h : Nat) (wx : World), wx.cell? ⟨h, 0, none⟩ = some (.int .u8 v) → (convert 43 9 (.slice (some ⟨h, 0, none⟩) 1 1)).run Try.prog wx = .ok (.string (str [b])) wx := fun h wx hc => by
  subst hv
  exact run_convert_bytes_back (P := Try.prog) wx 43 9 5 ⟨h, 0, none⟩ 1 [b] Try.underlying43 Try.underlying5 Try.underlying9 (fun j hj => by
    have hj0 : j = 0 := by simp only [List.length_cons, List.length_nil] at hj; omega
    subst hj0
    rw [add_none]; exact hc)
theorem encL_1 (K : Int) (hk : K = 1 ∨ K = 4 ∨ K = 5) (t : Int) (key val : ByteArray) (p u n : Int) (l : List PairD) : str [UInt8.ofNat K.toNat] ++ str (numL t 6) = str (RecD.encL ⟨K, t, key, val, p, u, n, l⟩) := by
  rcases hk with rfl | rfl | rfl <;> simp [RecD.encL, txnB, hkeyB, hvalB, passB, pairsB, str_append, numL, toLE]
theorem encL_2 (t : Int) (key val : ByteArray) (p u n : Int) (l : List PairD) : str [UInt8.ofNat (2 : Int).toNat] ++ str (numL t 6) ++ str (textL key) ++ str (textL val) = str (RecD.encL ⟨2, t, key, val, p, u, n, l⟩) := by
  simp [RecD.encL, txnB, hkeyB, hvalB, passB, pairsB, str_append, numL, toLE]
theorem encL_3 (t : Int) (key val : ByteArray) (p u n : Int) (l : List PairD) : str [UInt8.ofNat (3 : Int).toNat] ++ str (numL t 6) ++ str (textL key) = str (RecD.encL ⟨3, t, key, val, p, u, n, l⟩) := by
  simp [RecD.encL, txnB, hkeyB, hvalB, passB, pairsB, str_append, numL, toLE]
theorem encL_6 (t : Int) (key val : ByteArray) (p u n : Int) (l : List PairD) : str [UInt8.ofNat (6 : Int).toNat] ++ (str (numL p 6) ++ str (numL u 6) ++ str (numL n 6)) = str (RecD.encL ⟨6, t, key, val, p, u, n, l⟩) := by
  simp [RecD.encL, txnB, hkeyB, hvalB, passB, pairsB, str_append, numL, toLE]
theorem encL_7 (t : Int) (key val : ByteArray) (p u n : Int) (l : List PairD) : str [UInt8.ofNat (7 : Int).toNat] ++ (str (numL p 6) ++ str (numL u 6) ++ str (numL n 6)) ++ str (numL l.length 2) ++ str (pairsL l) = str (RecD.encL ⟨7, t, key, val, p, u, n, l⟩) := by
  simp [RecD.encL, txnB, hkeyB, hvalB, passB, pairsB, str_append, numL, toLE]
theorem numS_size (v : Int) (k : Nat) : (str (numL v k)).size = k := by rw [size_str, numL, toLE_length]
theorem textS_size (s : ByteArray) : (str (textL s)).size = s.size + 1 := by rw [size_str, textL, List.length_cons, lst_length]
set_option maxHeartbeats 1000000 in
set_option maxRecDepth 100000 in
theorem enc1 (t : Int) (key val : ByteArray) (p u n : Int) (l : List PairD) (pa : Option Addr) (ca : Nat) (w : World) (hA : PairsAt w pa l) (la : l.length ≤ 1099511627776) (hR : RecD.rightR ⟨1, t, key, val, p, u, n, l⟩ = true) :
    Calls Try.prog 14 #[.agg #[.int .i64 1, .int .i64 t, .string key, .string val, .int .i64 p, .int .i64 u, .int .i64 n, .slice pa l.length ca]] w fun e w' => e = .returned (.string (str (RecD.encL ⟨1, t, key, val, p, u, n, l⟩))) ∧ Below w.heap.size w w' := by
  have c1 : ∀ w1, Up w w1 → Calls Try.prog 11 #[.agg #[.int .i64 1, .int .i64 t, .string key, .string val, .int .i64 p, .int .i64 u, .int .i64 n, .slice pa l.length ca]] w1 fun e w' => e = .returned (.bool true) ∧ Below w1.heap.size w1 w' := fun w1 h => by
    have := rec_Right ⟨1, t, key, val, p, u, n, l⟩ pa ca w1 (hA.up h) la
    rw [hR] at this
    exact this
  have C1 := Lib.hid c1; clear c1
  have C4 := Lib.hid rec_kinds
  have hix : ∀ w, (Instr.index 51 (.agg kindsA) (.int .i64 1)).run Try.prog w = .ok (.agg #[.bool true, .bool false, .bool false, .bool false, .bool false]) w := fun _ => by kernel_rfl
  have o := RecD.ok hR
  have hu := Up.refl w
  have ht := o.t1 rfl
  simp only at ht
  have C5 := Lib.hid (show ∀ w, Calls Try.prog 31 #[.int .i64 t, .int .i64 6] w fun e w' => e = .returned (.string (str (numL t 6))) ∧ Below w.heap.size w w' from fun w => rec_num t 6 (by omega) (by omega) (by omega) (by omega) (by omega) w)
  have HE := Lib.hid (encL_1 1 (by simp) t key val p u n l)
  have z1 : (str [UInt8.ofNat (1 : Int).toNat]).size = 1 := rfl
  have z2 : (str (numL t 6)).size = 6 := numS_size t 6
  have hl0 : l = [] := o.l0 rfl
  have hl : (l.length : Int) = 0 := by rw [hl0]; rfl
  have hlf : ¬ (0 : Int) < (l.length : Int) := by omega
  clear hl0
  clear hA la hR o ht
  go_enter Try.func14, Try.ntmps14
  go_upto_region 1 with fail
  have rp := RowAt.made w 24 [.int .i64 1, .int .i64 t, .string key, .string val, .int .i64 p, .int .i64 u, .int .i64 n, .slice pa l.length ca]
  replace hu := hu.alloc (.cells #[.int .i64 1, .int .i64 t, .string key, .string val, .int .i64 p, .int .i64 u, .int .i64 n, .slice pa l.length ca] 24)
  generalize w.alloc (.cells #[.int .i64 1, .int .i64 t, .string key, .string val, .int .i64 p, .int .i64 u, .int .i64 n, .slice pa l.length ca] 24) = w1 at *
  obtain ⟨p0, p1, p2, p3, p4, p5, p6, p7, -⟩ := rp.c8
  go_upto_region 3 with ((with_reducible refine (C1.out _ hu).mono ?_); rintro e w9 ⟨rfl, hw⟩; replace rp := rp.up hw; replace hu := hu.next hw; clear hw)
  clear p0 p1 p2 p3 p4 p5 p6 p7
  have hlt := rp.lt
  go_cut [3, 4] (fun v3 v4 wx => ∃ h : Nat, v3 = .pointer (some ⟨h, 0, none⟩) ∧ v4 = .string (str [1]) ∧ RowAt wx h (bools true false false false false) ∧ RowAt wx w.heap.size [.int .i64 1, .int .i64 t, .string key, .string val, .int .i64 p, .int .i64 u, .int .i64 n, .slice pa l.length ca] ∧ Up w wx)
  case first =>
    obtain ⟨p0, -⟩ := rp.c8
    have hcv := str_one 1 1 rfl
    refine wp_region_rel (RB w9.heap.size true false false false false) rok_RB (by kernel_rfl) (by kernel_rfl) (by kernel_rfl) ?_
    refine wpAnyRS_quiet 0 7 5 81 (by rfl) (by kernel_rfl) (fun _ _ _ _ _ h => h) (by kernel_rfl) (by kernel_rfl) ?_
    apply Exists.intro
    refine ⟨fun w1 hw1 => ?_, ?_⟩
    · have l0 := LaterRB.of_base (p := ⟨w.heap.size, 0, none⟩) hlt (show w9.drew.cell? ⟨w.heap.size, 0, none⟩ = _ from p0) hw1
      have hs1 : w9.heap.size ≤ w1.heap.size := hw1.below.size
      have hne := laterR_ne (R := RB w9.heap.size true false false false false) rok_RB w1
      simp only [List.drop_zero, List.take_succ_cons, List.take_zero]
      repeat (go_big_quiet_step ((go_at_call 27; with_reducible exact Calls.laterRB hs1 (C4.out _))))
      exact wpQuiet_nil rfl
    clear p0
    have hdr : RB w9.heap.size true false false false false w9 w9.drew := RB.up (Nat.le_refl _) (Up.refl w9).drew
    refine wpAnyRS_some 7 [9] 4 (by rfl) (by kernel_rfl) (by kernel_rfl) ?_
    intro w1 h1
    have hh := rok_RB.trans hdr h1
    clear h1 hdr
    refine ⟨?_, ?_, trivial⟩
    · simp only [List.drop_succ_cons, List.drop_zero, List.take_succ_cons, List.take_zero]
      go_wp2_with fail
      have bc := (RowAt.made w1 5 [.int .u8 1]).cell 0 (by simp)
      have hs2 : w9.heap.size ≤ w1.heap.size := hh.below.size
      refine ⟨.inr (RB.up hs2 ((Up.refl w1).alloc _)), ?_⟩
      replace hh := rok_RB.trans hh (RB.up hs2 ((Up.refl w1).alloc (.cells #[.int .u8 1] 5)))
      simp only [List.getElem_cons_zero] at bc
      refine wpAnyRS_quiet 8 1 3 81 (by rfl) (by kernel_rfl) (fun _ _ _ _ _ h => h) (by kernel_rfl) (by kernel_rfl) ?_
      apply Exists.intro
      refine ⟨fun w3 hw3 => ?_, ?_⟩
      · have lb := LaterRB.byte bc hw3
        have hne := laterR_ne (R := RB w9.heap.size true false false false false) rok_RB w3
        simp only [List.drop_succ_cons, List.drop_zero, List.take_succ_cons, List.take_zero]
        repeat (go_big_quiet_step (fail))
        exact wpQuiet_nil rfl
      clear bc
      refine wpAnyRS_some 9 [] 2 (by rfl) (by kernel_rfl) (by kernel_rfl) ?_
      intro w1 h1
      replace hh := rok_RB.trans hh h1
      refine ⟨?_, trivial⟩
      clear h1
      simp only [List.drop_succ_cons, List.drop_zero, List.take_succ_cons, List.take_zero]
      go_wp2_with fail
      have hs1 : w9.heap.size ≤ w1.heap.size := hh.below.size
      have rh : RowAt (w1.alloc (.cells #[.bool false, .bool false, .bool false, .bool false, .bool false] 50)) w1.heap.size (bools false false false false false) := RowAt.made w1 _ _
      refine ⟨.inr (RB.up hs1 ((Up.refl w1).alloc _)), ?_⟩
      replace hh := rok_RB.trans hh (RB.up hs1 ((Up.refl w1).alloc (.cells #[.bool false, .bool false, .bool false, .bool false, .bool false] 50)))
      generalize w1.heap.size = hb at *
      generalize w1.alloc (.cells #[.bool false, .bool false, .bool false, .bool false, .bool false] 50) = wc at *
      refine wpAnyRS_some 10 [] 1 (by rfl) (by kernel_rfl) (by kernel_rfl) ?_
      intro w1 h1
      replace hh := rok_RB.trans hh h1
      refine ⟨?_, trivial⟩
      obtain ⟨_, _, _, _, _, rh⟩ := h1.row _ _ _ _ _ _ rh
      clear h1
      simp only [List.drop_succ_cons, List.drop_zero, List.take_succ_cons, List.take_zero]
      unfold bools at rh
      have hss := Lib.hid (RB.has (t0 := true) (t1 := false) (t2 := false) (t3 := false) (t4 := false) hs1 rh)
      obtain ⟨y0, y1, y2, y3, y4, z0, z1, z2, z3, z4⟩ := rh.c5
      go_wp2_with fail
      refine ⟨.inr hss.out.1, ?_⟩
      have ra := hss.out.2
      replace hh := rok_RB.trans hh hss.out.1
      refine wpAnyRS_quiet 11 1 0 81 (by rfl) (by kernel_rfl) (fun _ _ _ _ _ h => h) (by kernel_rfl) (by kernel_rfl) ?_
      apply Exists.intro
      refine ⟨fun w3 hw3 => ?_, ?_⟩
      · have hne := laterR_ne (R := RB w9.heap.size true false false false false) rok_RB w3
        simp only [List.drop_succ_cons, List.drop_zero, List.take_succ_cons, List.take_zero]
        repeat (go_big_quiet_step (fail))
        exact wpQuiet_nil rfl
      refine wpAnyRS_done (by kernel_rfl) ?_
      intro w6 h6
      replace hh := rok_RB.trans hh h6
      replace ra := h6.aim _ ra
      clear h6
      go_wp2_with fail
      go_meet
      exact ⟨hb, rfl, rfl, ra, rp.below hh.below hlt, hu.next hh.below⟩
    · simp only [List.drop_succ_cons, List.drop_zero, List.take_succ_cons, List.take_zero]
      go_wp2_with fail
      have hs1 : w9.heap.size ≤ w1.heap.size := hh.below.size
      have rh : RowAt (w1.alloc (.cells #[.bool false, .bool false, .bool false, .bool false, .bool false] 50)) w1.heap.size (bools false false false false false) := RowAt.made w1 _ _
      refine ⟨.inr (RB.up hs1 ((Up.refl w1).alloc _)), ?_⟩
      replace hh := rok_RB.trans hh (RB.up hs1 ((Up.refl w1).alloc (.cells #[.bool false, .bool false, .bool false, .bool false, .bool false] 50)))
      generalize w1.heap.size = hb at *
      generalize w1.alloc (.cells #[.bool false, .bool false, .bool false, .bool false, .bool false] 50) = wc at *
      refine wpAnyRS_some 7 [10] 3 (by rfl) (by kernel_rfl) (by kernel_rfl) ?_
      intro w1 h1
      replace hh := rok_RB.trans hh h1
      obtain ⟨_, _, _, _, _, rh⟩ := h1.row _ _ _ _ _ _ rh
      clear h1
      refine ⟨?_, ?_, trivial⟩
      · simp only [List.drop_succ_cons, List.drop_zero, List.take_succ_cons, List.take_zero]
        go_wp2_with fail
        have rh := rh.alloc (.cells #[.int .u8 1] 5)
        have bc := (RowAt.made w1 5 [.int .u8 1]).cell 0 (by simp)
        have hs2 : w9.heap.size ≤ w1.heap.size := hh.below.size
        refine ⟨.inr (RB.up hs2 ((Up.refl w1).alloc _)), ?_⟩
        replace hh := rok_RB.trans hh (RB.up hs2 ((Up.refl w1).alloc (.cells #[.int .u8 1] 5)))
        simp only [List.getElem_cons_zero] at bc
        refine wpAnyRS_quiet 8 1 2 81 (by rfl) (by kernel_rfl) (fun _ _ _ _ _ h => h) (by kernel_rfl) (by kernel_rfl) ?_
        apply Exists.intro
        refine ⟨fun w3 hw3 => ?_, ?_⟩
        · have lb := LaterRB.byte bc hw3
          have hne := laterR_ne (R := RB w9.heap.size true false false false false) rok_RB w3
          simp only [List.drop_succ_cons, List.drop_zero, List.take_succ_cons, List.take_zero]
          repeat (go_big_quiet_step (fail))
          exact wpQuiet_nil rfl
        clear bc
        refine wpAnyRS_some 10 [] 1 (by rfl) (by kernel_rfl) (by kernel_rfl) ?_
        intro w2 h1
        replace hh := rok_RB.trans hh h1
        refine ⟨?_, trivial⟩
        obtain ⟨_, _, _, _, _, rh⟩ := h1.row _ _ _ _ _ _ rh
        clear h1
        simp only [List.drop_succ_cons, List.drop_zero, List.take_succ_cons, List.take_zero]
        unfold bools at rh
        have hss := Lib.hid (RB.has (t0 := true) (t1 := false) (t2 := false) (t3 := false) (t4 := false) hs1 rh)
        obtain ⟨y0, y1, y2, y3, y4, z0, z1, z2, z3, z4⟩ := rh.c5
        go_wp2_with fail
        refine ⟨.inr hss.out.1, ?_⟩
        have ra := hss.out.2
        replace hh := rok_RB.trans hh hss.out.1
        refine wpAnyRS_quiet 11 1 0 81 (by rfl) (by kernel_rfl) (fun _ _ _ _ _ h => h) (by kernel_rfl) (by kernel_rfl) ?_
        apply Exists.intro
        refine ⟨fun w3 hw3 => ?_, ?_⟩
        · have hne := laterR_ne (R := RB w9.heap.size true false false false false) rok_RB w3
          simp only [List.drop_succ_cons, List.drop_zero, List.take_succ_cons, List.take_zero]
          repeat (go_big_quiet_step (fail))
          exact wpQuiet_nil rfl
        refine wpAnyRS_done (by kernel_rfl) ?_
        intro w6 h6
        replace hh := rok_RB.trans hh h6
        replace ra := h6.aim _ ra
        clear h6
        go_wp2_with fail
        go_meet
        exact ⟨hb, rfl, rfl, ra, rp.below hh.below hlt, hu.next hh.below⟩
      · simp only [List.drop_succ_cons, List.drop_zero, List.take_succ_cons, List.take_zero]
        unfold bools at rh
        have hss := Lib.hid (RB.has (t0 := true) (t1 := false) (t2 := false) (t3 := false) (t4 := false) hs1 rh)
        obtain ⟨y0, y1, y2, y3, y4, z0, z1, z2, z3, z4⟩ := rh.c5
        go_wp2_with fail
        refine ⟨.inr hss.out.1, ?_⟩
        have ra := hss.out.2
        replace hh := rok_RB.trans hh hss.out.1
        refine wpAnyRS_some 7 [] 2 (by rfl) (by kernel_rfl) (by kernel_rfl) ?_
        clear hss
        intro w1 h1
        replace hh := rok_RB.trans hh h1
        replace ra := h1.aim _ ra
        clear h1
        refine ⟨?_, trivial⟩
        simp only [List.drop_succ_cons, List.drop_zero, List.take_succ_cons, List.take_zero]
        go_wp2_with fail
        replace ra := ra.alloc (.cells #[.int .u8 1] 5)
        have bc := (RowAt.made w1 5 [.int .u8 1]).cell 0 (by simp)
        have hs2 : w9.heap.size ≤ w1.heap.size := hh.below.size
        refine ⟨.inr (RB.up hs2 ((Up.refl w1).alloc _)), ?_⟩
        replace hh := rok_RB.trans hh (RB.up hs2 ((Up.refl w1).alloc (.cells #[.int .u8 1] 5)))
        simp only [List.getElem_cons_zero] at bc
        refine wpAnyRS_quiet 8 1 1 81 (by rfl) (by kernel_rfl) (fun _ _ _ _ _ h => h) (by kernel_rfl) (by kernel_rfl) ?_
        apply Exists.intro
        refine ⟨fun w3 hw3 => ?_, ?_⟩
        · have lb := LaterRB.byte bc hw3
          have hne := laterR_ne (R := RB w9.heap.size true false false false false) rok_RB w3
          simp only [List.drop_succ_cons, List.drop_zero, List.take_succ_cons, List.take_zero]
          repeat (go_big_quiet_step (fail))
          exact wpQuiet_nil rfl
        clear bc
        refine wpAnyRS_quiet 11 1 0 81 (by rfl) (by kernel_rfl) (fun _ _ _ _ _ h => h) (by kernel_rfl) (by kernel_rfl) ?_
        apply Exists.intro
        refine ⟨fun w3 hw3 => ?_, ?_⟩
        · have hne := laterR_ne (R := RB w9.heap.size true false false false false) rok_RB w3
          simp only [List.drop_succ_cons, List.drop_zero, List.take_succ_cons, List.take_zero]
          repeat (go_big_quiet_step (fail))
          exact wpQuiet_nil rfl
        refine wpAnyRS_done (by kernel_rfl) ?_
        intro w6 h6
        replace hh := rok_RB.trans hh h6
        replace ra := h6.aim _ ra
        clear h6
        go_wp2_with fail
        go_meet
        exact ⟨hb, rfl, rfl, ra, rp.below hh.below hlt, hu.next hh.below⟩
  case rest =>
  clear rp hu hlt
  obtain ⟨h, rfl, rfl, rh, rp, hu⟩ := hcut
  unfold bools at rh
  obtain ⟨y0, y1, y2, y3, y4, -⟩ := rh.c5
  obtain ⟨p0, p1, p2, p3, p4, p5, p6, p7, -⟩ := rp.c8
  clear C1 C4 hix
  rw [show str [1] = str [UInt8.ofNat (1 : Int).toNat] from rfl]
  generalize str [UInt8.ofNat (1 : Int).toNat] = S0 at *
  generalize str (numL t 6) = N1 at *
  have hz : ¬ 9223372036854775807 < S0.size + N1.size := by omega
  go_wp2_with (((with_reducible refine (C5.out _).mono ?_); rintro e w9 ⟨rfl, hw⟩; replace rp := rp.up hw; replace rh := rh.up hw; obtain ⟨y0, y1, y2, y3, y4, -⟩ := rh.c5; obtain ⟨p0, p1, p2, p3, p4, p5, p6, p7, -⟩ := rp.c8; replace hu := hu.next hw; clear hw))
  go_loopw [4, 66] (fun v4 v wr => v4 = .string (str (RecD.encL ⟨1, t, key, val, p, u, n, l⟩)) ∧ v = .int .i64 0 ∧ Up w wr) (fun _ v _ => 0)
  case atStart => exact ⟨congrArg _ HE.out, rfl, hu⟩
  case round =>
    clear rp rh hu p0 p1 p2 p3 p4 p5 p6 p7 y0 y1 y2 y3 y4
    obtain ⟨rfl, rfl, hu⟩ := hrel
    go_wp2_with fail
    go_ret
    exact ⟨rfl, hu⟩
set_option maxHeartbeats 1000000 in
set_option maxRecDepth 100000 in
theorem enc4 (t : Int) (key val : ByteArray) (p u n : Int) (l : List PairD) (pa : Option Addr) (ca : Nat) (w : World) (hA : PairsAt w pa l) (la : l.length ≤ 1099511627776) (hR : RecD.rightR ⟨4, t, key, val, p, u, n, l⟩ = true) :
    Calls Try.prog 14 #[.agg #[.int .i64 4, .int .i64 t, .string key, .string val, .int .i64 p, .int .i64 u, .int .i64 n, .slice pa l.length ca]] w fun e w' => e = .returned (.string (str (RecD.encL ⟨4, t, key, val, p, u, n, l⟩))) ∧ Below w.heap.size w w' := by
  have c1 : ∀ w1, Up w w1 → Calls Try.prog 11 #[.agg #[.int .i64 4, .int .i64 t, .string key, .string val, .int .i64 p, .int .i64 u, .int .i64 n, .slice pa l.length ca]] w1 fun e w' => e = .returned (.bool true) ∧ Below w1.heap.size w1 w' := fun w1 h => by
    have := rec_Right ⟨4, t, key, val, p, u, n, l⟩ pa ca w1 (hA.up h) la
    rw [hR] at this
    exact this
  have C1 := Lib.hid c1; clear c1
  have C4 := Lib.hid rec_kinds
  have hix : ∀ w, (Instr.index 51 (.agg kindsA) (.int .i64 4)).run Try.prog w = .ok (.agg #[.bool true, .bool false, .bool false, .bool false, .bool false]) w := fun _ => by kernel_rfl
  have o := RecD.ok hR
  have hu := Up.refl w
  have ht := o.t1 rfl
  simp only at ht
  have C5 := Lib.hid (show ∀ w, Calls Try.prog 31 #[.int .i64 t, .int .i64 6] w fun e w' => e = .returned (.string (str (numL t 6))) ∧ Below w.heap.size w w' from fun w => rec_num t 6 (by omega) (by omega) (by omega) (by omega) (by omega) w)
  have HE := Lib.hid (encL_1 4 (by simp) t key val p u n l)
  have z1 : (str [UInt8.ofNat (4 : Int).toNat]).size = 1 := rfl
  have z2 : (str (numL t 6)).size = 6 := numS_size t 6
  have hl0 : l = [] := o.l0 rfl
  have hl : (l.length : Int) = 0 := by rw [hl0]; rfl
  have hlf : ¬ (0 : Int) < (l.length : Int) := by omega
  clear hl0
  clear hA la hR o ht
  go_enter Try.func14, Try.ntmps14
  go_upto_region 1 with fail
  have rp := RowAt.made w 24 [.int .i64 4, .int .i64 t, .string key, .string val, .int .i64 p, .int .i64 u, .int .i64 n, .slice pa l.length ca]
  replace hu := hu.alloc (.cells #[.int .i64 4, .int .i64 t, .string key, .string val, .int .i64 p, .int .i64 u, .int .i64 n, .slice pa l.length ca] 24)
  generalize w.alloc (.cells #[.int .i64 4, .int .i64 t, .string key, .string val, .int .i64 p, .int .i64 u, .int .i64 n, .slice pa l.length ca] 24) = w1 at *
  obtain ⟨p0, p1, p2, p3, p4, p5, p6, p7, -⟩ := rp.c8
  go_upto_region 3 with ((with_reducible refine (C1.out _ hu).mono ?_); rintro e w9 ⟨rfl, hw⟩; replace rp := rp.up hw; replace hu := hu.next hw; clear hw)
  clear p0 p1 p2 p3 p4 p5 p6 p7
  have hlt := rp.lt
  go_cut [3, 4] (fun v3 v4 wx => ∃ h : Nat, v3 = .pointer (some ⟨h, 0, none⟩) ∧ v4 = .string (str [4]) ∧ RowAt wx h (bools true false false false false) ∧ RowAt wx w.heap.size [.int .i64 4, .int .i64 t, .string key, .string val, .int .i64 p, .int .i64 u, .int .i64 n, .slice pa l.length ca] ∧ Up w wx)
  case first =>
    obtain ⟨p0, -⟩ := rp.c8
    have hcv := str_one 4 4 rfl
    refine wp_region_rel (RB w9.heap.size true false false false false) rok_RB (by kernel_rfl) (by kernel_rfl) (by kernel_rfl) ?_
    refine wpAnyRS_quiet 0 7 5 81 (by rfl) (by kernel_rfl) (fun _ _ _ _ _ h => h) (by kernel_rfl) (by kernel_rfl) ?_
    apply Exists.intro
    refine ⟨fun w1 hw1 => ?_, ?_⟩
    · have l0 := LaterRB.of_base (p := ⟨w.heap.size, 0, none⟩) hlt (show w9.drew.cell? ⟨w.heap.size, 0, none⟩ = _ from p0) hw1
      have hs1 : w9.heap.size ≤ w1.heap.size := hw1.below.size
      have hne := laterR_ne (R := RB w9.heap.size true false false false false) rok_RB w1
      simp only [List.drop_zero, List.take_succ_cons, List.take_zero]
      repeat (go_big_quiet_step ((go_at_call 27; with_reducible exact Calls.laterRB hs1 (C4.out _))))
      exact wpQuiet_nil rfl
    clear p0
    have hdr : RB w9.heap.size true false false false false w9 w9.drew := RB.up (Nat.le_refl _) (Up.refl w9).drew
    refine wpAnyRS_some 7 [9] 4 (by rfl) (by kernel_rfl) (by kernel_rfl) ?_
    intro w1 h1
    have hh := rok_RB.trans hdr h1
    clear h1 hdr
    refine ⟨?_, ?_, trivial⟩
    · simp only [List.drop_succ_cons, List.drop_zero, List.take_succ_cons, List.take_zero]
      go_wp2_with fail
      have bc := (RowAt.made w1 5 [.int .u8 4]).cell 0 (by simp)
      have hs2 : w9.heap.size ≤ w1.heap.size := hh.below.size
      refine ⟨.inr (RB.up hs2 ((Up.refl w1).alloc _)), ?_⟩
      replace hh := rok_RB.trans hh (RB.up hs2 ((Up.refl w1).alloc (.cells #[.int .u8 4] 5)))
      simp only [List.getElem_cons_zero] at bc
      refine wpAnyRS_quiet 8 1 3 81 (by rfl) (by kernel_rfl) (fun _ _ _ _ _ h => h) (by kernel_rfl) (by kernel_rfl) ?_
      apply Exists.intro
      refine ⟨fun w3 hw3 => ?_, ?_⟩
      · have lb := LaterRB.byte bc hw3
        have hne := laterR_ne (R := RB w9.heap.size true false false false false) rok_RB w3
        simp only [List.drop_succ_cons, List.drop_zero, List.take_succ_cons, List.take_zero]
        repeat (go_big_quiet_step (fail))
        exact wpQuiet_nil rfl
      clear bc
      refine wpAnyRS_some 9 [] 2 (by rfl) (by kernel_rfl) (by kernel_rfl) ?_
      intro w1 h1
      replace hh := rok_RB.trans hh h1
      refine ⟨?_, trivial⟩
      clear h1
      simp only [List.drop_succ_cons, List.drop_zero, List.take_succ_cons, List.take_zero]
      go_wp2_with fail
      have hs1 : w9.heap.size ≤ w1.heap.size := hh.below.size
      have rh : RowAt (w1.alloc (.cells #[.bool false, .bool false, .bool false, .bool false, .bool false] 50)) w1.heap.size (bools false false false false false) := RowAt.made w1 _ _
      refine ⟨.inr (RB.up hs1 ((Up.refl w1).alloc _)), ?_⟩
      replace hh := rok_RB.trans hh (RB.up hs1 ((Up.refl w1).alloc (.cells #[.bool false, .bool false, .bool false, .bool false, .bool false] 50)))
      generalize w1.heap.size = hb at *
      generalize w1.alloc (.cells #[.bool false, .bool false, .bool false, .bool false, .bool false] 50) = wc at *
      refine wpAnyRS_some 10 [] 1 (by rfl) (by kernel_rfl) (by kernel_rfl) ?_
      intro w1 h1
      replace hh := rok_RB.trans hh h1
      refine ⟨?_, trivial⟩
      obtain ⟨_, _, _, _, _, rh⟩ := h1.row _ _ _ _ _ _ rh
      clear h1
      simp only [List.drop_succ_cons, List.drop_zero, List.take_succ_cons, List.take_zero]
      unfold bools at rh
      have hss := Lib.hid (RB.has (t0 := true) (t1 := false) (t2 := false) (t3 := false) (t4 := false) hs1 rh)
      obtain ⟨y0, y1, y2, y3, y4, z0, z1, z2, z3, z4⟩ := rh.c5
      go_wp2_with fail
      refine ⟨.inr hss.out.1, ?_⟩
      have ra := hss.out.2
      replace hh := rok_RB.trans hh hss.out.1
      refine wpAnyRS_quiet 11 1 0 81 (by rfl) (by kernel_rfl) (fun _ _ _ _ _ h => h) (by kernel_rfl) (by kernel_rfl) ?_
      apply Exists.intro
      refine ⟨fun w3 hw3 => ?_, ?_⟩
      · have hne := laterR_ne (R := RB w9.heap.size true false false false false) rok_RB w3
        simp only [List.drop_succ_cons, List.drop_zero, List.take_succ_cons, List.take_zero]
        repeat (go_big_quiet_step (fail))
        exact wpQuiet_nil rfl
      refine wpAnyRS_done (by kernel_rfl) ?_
      intro w6 h6
      replace hh := rok_RB.trans hh h6
      replace ra := h6.aim _ ra
      clear h6
      go_wp2_with fail
      go_meet
      exact ⟨hb, rfl, rfl, ra, rp.below hh.below hlt, hu.next hh.below⟩
    · simp only [List.drop_succ_cons, List.drop_zero, List.take_succ_cons, List.take_zero]
      go_wp2_with fail
      have hs1 : w9.heap.size ≤ w1.heap.size := hh.below.size
      have rh : RowAt (w1.alloc (.cells #[.bool false, .bool false, .bool false, .bool false, .bool false] 50)) w1.heap.size (bools false false false false false) := RowAt.made w1 _ _
      refine ⟨.inr (RB.up hs1 ((Up.refl w1).alloc _)), ?_⟩
      replace hh := rok_RB.trans hh (RB.up hs1 ((Up.refl w1).alloc (.cells #[.bool false, .bool false, .bool false, .bool false, .bool false] 50)))
      generalize w1.heap.size = hb at *
      generalize w1.alloc (.cells #[.bool false, .bool false, .bool false, .bool false, .bool false] 50) = wc at *
      refine wpAnyRS_some 7 [10] 3 (by rfl) (by kernel_rfl) (by kernel_rfl) ?_
      intro w1 h1
      replace hh := rok_RB.trans hh h1
      obtain ⟨_, _, _, _, _, rh⟩ := h1.row _ _ _ _ _ _ rh
      clear h1
      refine ⟨?_, ?_, trivial⟩
      · simp only [List.drop_succ_cons, List.drop_zero, List.take_succ_cons, List.take_zero]
        go_wp2_with fail
        have rh := rh.alloc (.cells #[.int .u8 4] 5)
        have bc := (RowAt.made w1 5 [.int .u8 4]).cell 0 (by simp)
        have hs2 : w9.heap.size ≤ w1.heap.size := hh.below.size
        refine ⟨.inr (RB.up hs2 ((Up.refl w1).alloc _)), ?_⟩
        replace hh := rok_RB.trans hh (RB.up hs2 ((Up.refl w1).alloc (.cells #[.int .u8 4] 5)))
        simp only [List.getElem_cons_zero] at bc
        refine wpAnyRS_quiet 8 1 2 81 (by rfl) (by kernel_rfl) (fun _ _ _ _ _ h => h) (by kernel_rfl) (by kernel_rfl) ?_
        apply Exists.intro
        refine ⟨fun w3 hw3 => ?_, ?_⟩
        · have lb := LaterRB.byte bc hw3
          have hne := laterR_ne (R := RB w9.heap.size true false false false false) rok_RB w3
          simp only [List.drop_succ_cons, List.drop_zero, List.take_succ_cons, List.take_zero]
          repeat (go_big_quiet_step (fail))
          exact wpQuiet_nil rfl
        clear bc
        refine wpAnyRS_some 10 [] 1 (by rfl) (by kernel_rfl) (by kernel_rfl) ?_
        intro w2 h1
        replace hh := rok_RB.trans hh h1
        refine ⟨?_, trivial⟩
        obtain ⟨_, _, _, _, _, rh⟩ := h1.row _ _ _ _ _ _ rh
        clear h1
        simp only [List.drop_succ_cons, List.drop_zero, List.take_succ_cons, List.take_zero]
        unfold bools at rh
        have hss := Lib.hid (RB.has (t0 := true) (t1 := false) (t2 := false) (t3 := false) (t4 := false) hs1 rh)
        obtain ⟨y0, y1, y2, y3, y4, z0, z1, z2, z3, z4⟩ := rh.c5
        go_wp2_with fail
        refine ⟨.inr hss.out.1, ?_⟩
        have ra := hss.out.2
        replace hh := rok_RB.trans hh hss.out.1
        refine wpAnyRS_quiet 11 1 0 81 (by rfl) (by kernel_rfl) (fun _ _ _ _ _ h => h) (by kernel_rfl) (by kernel_rfl) ?_
        apply Exists.intro
        refine ⟨fun w3 hw3 => ?_, ?_⟩
        · have hne := laterR_ne (R := RB w9.heap.size true false false false false) rok_RB w3
          simp only [List.drop_succ_cons, List.drop_zero, List.take_succ_cons, List.take_zero]
          repeat (go_big_quiet_step (fail))
          exact wpQuiet_nil rfl
        refine wpAnyRS_done (by kernel_rfl) ?_
        intro w6 h6
        replace hh := rok_RB.trans hh h6
        replace ra := h6.aim _ ra
        clear h6
        go_wp2_with fail
        go_meet
        exact ⟨hb, rfl, rfl, ra, rp.below hh.below hlt, hu.next hh.below⟩
      · simp only [List.drop_succ_cons, List.drop_zero, List.take_succ_cons, List.take_zero]
        unfold bools at rh
        have hss := Lib.hid (RB.has (t0 := true) (t1 := false) (t2 := false) (t3 := false) (t4 := false) hs1 rh)
        obtain ⟨y0, y1, y2, y3, y4, z0, z1, z2, z3, z4⟩ := rh.c5
        go_wp2_with fail
        refine ⟨.inr hss.out.1, ?_⟩
        have ra := hss.out.2
        replace hh := rok_RB.trans hh hss.out.1
        refine wpAnyRS_some 7 [] 2 (by rfl) (by kernel_rfl) (by kernel_rfl) ?_
        clear hss
        intro w1 h1
        replace hh := rok_RB.trans hh h1
        replace ra := h1.aim _ ra
        clear h1
        refine ⟨?_, trivial⟩
        simp only [List.drop_succ_cons, List.drop_zero, List.take_succ_cons, List.take_zero]
        go_wp2_with fail
        replace ra := ra.alloc (.cells #[.int .u8 4] 5)
        have bc := (RowAt.made w1 5 [.int .u8 4]).cell 0 (by simp)
        have hs2 : w9.heap.size ≤ w1.heap.size := hh.below.size
        refine ⟨.inr (RB.up hs2 ((Up.refl w1).alloc _)), ?_⟩
        replace hh := rok_RB.trans hh (RB.up hs2 ((Up.refl w1).alloc (.cells #[.int .u8 4] 5)))
        simp only [List.getElem_cons_zero] at bc
        refine wpAnyRS_quiet 8 1 1 81 (by rfl) (by kernel_rfl) (fun _ _ _ _ _ h => h) (by kernel_rfl) (by kernel_rfl) ?_
        apply Exists.intro
        refine ⟨fun w3 hw3 => ?_, ?_⟩
        · have lb := LaterRB.byte bc hw3
          have hne := laterR_ne (R := RB w9.heap.size true false false false false) rok_RB w3
          simp only [List.drop_succ_cons, List.drop_zero, List.take_succ_cons, List.take_zero]
          repeat (go_big_quiet_step (fail))
          exact wpQuiet_nil rfl
        clear bc
        refine wpAnyRS_quiet 11 1 0 81 (by rfl) (by kernel_rfl) (fun _ _ _ _ _ h => h) (by kernel_rfl) (by kernel_rfl) ?_
        apply Exists.intro
        refine ⟨fun w3 hw3 => ?_, ?_⟩
        · have hne := laterR_ne (R := RB w9.heap.size true false false false false) rok_RB w3
          simp only [List.drop_succ_cons, List.drop_zero, List.take_succ_cons, List.take_zero]
          repeat (go_big_quiet_step (fail))
          exact wpQuiet_nil rfl
        refine wpAnyRS_done (by kernel_rfl) ?_
        intro w6 h6
        replace hh := rok_RB.trans hh h6
        replace ra := h6.aim _ ra
        clear h6
        go_wp2_with fail
        go_meet
        exact ⟨hb, rfl, rfl, ra, rp.below hh.below hlt, hu.next hh.below⟩
  case rest =>
  clear rp hu hlt
  obtain ⟨h, rfl, rfl, rh, rp, hu⟩ := hcut
  unfold bools at rh
  obtain ⟨y0, y1, y2, y3, y4, -⟩ := rh.c5
  obtain ⟨p0, p1, p2, p3, p4, p5, p6, p7, -⟩ := rp.c8
  clear C1 C4 hix
  rw [show str [4] = str [UInt8.ofNat (4 : Int).toNat] from rfl]
  generalize str [UInt8.ofNat (4 : Int).toNat] = S0 at *
  generalize str (numL t 6) = N1 at *
  have hz : ¬ 9223372036854775807 < S0.size + N1.size := by omega
  go_wp2_with (((with_reducible refine (C5.out _).mono ?_); rintro e w9 ⟨rfl, hw⟩; replace rp := rp.up hw; replace rh := rh.up hw; obtain ⟨y0, y1, y2, y3, y4, -⟩ := rh.c5; obtain ⟨p0, p1, p2, p3, p4, p5, p6, p7, -⟩ := rp.c8; replace hu := hu.next hw; clear hw))
  go_loopw [4, 66] (fun v4 v wr => v4 = .string (str (RecD.encL ⟨4, t, key, val, p, u, n, l⟩)) ∧ v = .int .i64 0 ∧ Up w wr) (fun _ v _ => 0)
  case atStart => exact ⟨congrArg _ HE.out, rfl, hu⟩
  case round =>
    clear rp rh hu p0 p1 p2 p3 p4 p5 p6 p7 y0 y1 y2 y3 y4
    obtain ⟨rfl, rfl, hu⟩ := hrel
    go_wp2_with fail
    go_ret
    exact ⟨rfl, hu⟩
set_option maxHeartbeats 1000000 in
set_option maxRecDepth 100000 in
theorem enc5 (t : Int) (key val : ByteArray) (p u n : Int) (l : List PairD) (pa : Option Addr) (ca : Nat) (w : World) (hA : PairsAt w pa l) (la : l.length ≤ 1099511627776) (hR : RecD.rightR ⟨5, t, key, val, p, u, n, l⟩ = true) :
    Calls Try.prog 14 #[.agg #[.int .i64 5, .int .i64 t, .string key, .string val, .int .i64 p, .int .i64 u, .int .i64 n, .slice pa l.length ca]] w fun e w' => e = .returned (.string (str (RecD.encL ⟨5, t, key, val, p, u, n, l⟩))) ∧ Below w.heap.size w w' := by
  have c1 : ∀ w1, Up w w1 → Calls Try.prog 11 #[.agg #[.int .i64 5, .int .i64 t, .string key, .string val, .int .i64 p, .int .i64 u, .int .i64 n, .slice pa l.length ca]] w1 fun e w' => e = .returned (.bool true) ∧ Below w1.heap.size w1 w' := fun w1 h => by
    have := rec_Right ⟨5, t, key, val, p, u, n, l⟩ pa ca w1 (hA.up h) la
    rw [hR] at this
    exact this
  have C1 := Lib.hid c1; clear c1
  have C4 := Lib.hid rec_kinds
  have hix : ∀ w, (Instr.index 51 (.agg kindsA) (.int .i64 5)).run Try.prog w = .ok (.agg #[.bool true, .bool false, .bool false, .bool false, .bool false]) w := fun _ => by kernel_rfl
  have o := RecD.ok hR
  have hu := Up.refl w
  have ht := o.t1 rfl
  simp only at ht
  have C5 := Lib.hid (show ∀ w, Calls Try.prog 31 #[.int .i64 t, .int .i64 6] w fun e w' => e = .returned (.string (str (numL t 6))) ∧ Below w.heap.size w w' from fun w => rec_num t 6 (by omega) (by omega) (by omega) (by omega) (by omega) w)
  have HE := Lib.hid (encL_1 5 (by simp) t key val p u n l)
  have z1 : (str [UInt8.ofNat (5 : Int).toNat]).size = 1 := rfl
  have z2 : (str (numL t 6)).size = 6 := numS_size t 6
  have hl0 : l = [] := o.l0 rfl
  have hl : (l.length : Int) = 0 := by rw [hl0]; rfl
  have hlf : ¬ (0 : Int) < (l.length : Int) := by omega
  clear hl0
  clear hA la hR o ht
  go_enter Try.func14, Try.ntmps14
  go_upto_region 1 with fail
  have rp := RowAt.made w 24 [.int .i64 5, .int .i64 t, .string key, .string val, .int .i64 p, .int .i64 u, .int .i64 n, .slice pa l.length ca]
  replace hu := hu.alloc (.cells #[.int .i64 5, .int .i64 t, .string key, .string val, .int .i64 p, .int .i64 u, .int .i64 n, .slice pa l.length ca] 24)
  generalize w.alloc (.cells #[.int .i64 5, .int .i64 t, .string key, .string val, .int .i64 p, .int .i64 u, .int .i64 n, .slice pa l.length ca] 24) = w1 at *
  obtain ⟨p0, p1, p2, p3, p4, p5, p6, p7, -⟩ := rp.c8
  go_upto_region 3 with ((with_reducible refine (C1.out _ hu).mono ?_); rintro e w9 ⟨rfl, hw⟩; replace rp := rp.up hw; replace hu := hu.next hw; clear hw)
  clear p0 p1 p2 p3 p4 p5 p6 p7
  have hlt := rp.lt
  go_cut [3, 4] (fun v3 v4 wx => ∃ h : Nat, v3 = .pointer (some ⟨h, 0, none⟩) ∧ v4 = .string (str [5]) ∧ RowAt wx h (bools true false false false false) ∧ RowAt wx w.heap.size [.int .i64 5, .int .i64 t, .string key, .string val, .int .i64 p, .int .i64 u, .int .i64 n, .slice pa l.length ca] ∧ Up w wx)
  case first =>
    obtain ⟨p0, -⟩ := rp.c8
    have hcv := str_one 5 5 rfl
    refine wp_region_rel (RB w9.heap.size true false false false false) rok_RB (by kernel_rfl) (by kernel_rfl) (by kernel_rfl) ?_
    refine wpAnyRS_quiet 0 7 5 81 (by rfl) (by kernel_rfl) (fun _ _ _ _ _ h => h) (by kernel_rfl) (by kernel_rfl) ?_
    apply Exists.intro
    refine ⟨fun w1 hw1 => ?_, ?_⟩
    · have l0 := LaterRB.of_base (p := ⟨w.heap.size, 0, none⟩) hlt (show w9.drew.cell? ⟨w.heap.size, 0, none⟩ = _ from p0) hw1
      have hs1 : w9.heap.size ≤ w1.heap.size := hw1.below.size
      have hne := laterR_ne (R := RB w9.heap.size true false false false false) rok_RB w1
      simp only [List.drop_zero, List.take_succ_cons, List.take_zero]
      repeat (go_big_quiet_step ((go_at_call 27; with_reducible exact Calls.laterRB hs1 (C4.out _))))
      exact wpQuiet_nil rfl
    clear p0
    have hdr : RB w9.heap.size true false false false false w9 w9.drew := RB.up (Nat.le_refl _) (Up.refl w9).drew
    refine wpAnyRS_some 7 [9] 4 (by rfl) (by kernel_rfl) (by kernel_rfl) ?_
    intro w1 h1
    have hh := rok_RB.trans hdr h1
    clear h1 hdr
    refine ⟨?_, ?_, trivial⟩
    · simp only [List.drop_succ_cons, List.drop_zero, List.take_succ_cons, List.take_zero]
      go_wp2_with fail
      have bc := (RowAt.made w1 5 [.int .u8 5]).cell 0 (by simp)
      have hs2 : w9.heap.size ≤ w1.heap.size := hh.below.size
      refine ⟨.inr (RB.up hs2 ((Up.refl w1).alloc _)), ?_⟩
      replace hh := rok_RB.trans hh (RB.up hs2 ((Up.refl w1).alloc (.cells #[.int .u8 5] 5)))
      simp only [List.getElem_cons_zero] at bc
      refine wpAnyRS_quiet 8 1 3 81 (by rfl) (by kernel_rfl) (fun _ _ _ _ _ h => h) (by kernel_rfl) (by kernel_rfl) ?_
      apply Exists.intro
      refine ⟨fun w3 hw3 => ?_, ?_⟩
      · have lb := LaterRB.byte bc hw3
        have hne := laterR_ne (R := RB w9.heap.size true false false false false) rok_RB w3
        simp only [List.drop_succ_cons, List.drop_zero, List.take_succ_cons, List.take_zero]
        repeat (go_big_quiet_step (fail))
        exact wpQuiet_nil rfl
      clear bc
      refine wpAnyRS_some 9 [] 2 (by rfl) (by kernel_rfl) (by kernel_rfl) ?_
      intro w1 h1
      replace hh := rok_RB.trans hh h1
      refine ⟨?_, trivial⟩
      clear h1
      simp only [List.drop_succ_cons, List.drop_zero, List.take_succ_cons, List.take_zero]
      go_wp2_with fail
      have hs1 : w9.heap.size ≤ w1.heap.size := hh.below.size
      have rh : RowAt (w1.alloc (.cells #[.bool false, .bool false, .bool false, .bool false, .bool false] 50)) w1.heap.size (bools false false false false false) := RowAt.made w1 _ _
      refine ⟨.inr (RB.up hs1 ((Up.refl w1).alloc _)), ?_⟩
      replace hh := rok_RB.trans hh (RB.up hs1 ((Up.refl w1).alloc (.cells #[.bool false, .bool false, .bool false, .bool false, .bool false] 50)))
      generalize w1.heap.size = hb at *
      generalize w1.alloc (.cells #[.bool false, .bool false, .bool false, .bool false, .bool false] 50) = wc at *
      refine wpAnyRS_some 10 [] 1 (by rfl) (by kernel_rfl) (by kernel_rfl) ?_
      intro w1 h1
      replace hh := rok_RB.trans hh h1
      refine ⟨?_, trivial⟩
      obtain ⟨_, _, _, _, _, rh⟩ := h1.row _ _ _ _ _ _ rh
      clear h1
      simp only [List.drop_succ_cons, List.drop_zero, List.take_succ_cons, List.take_zero]
      unfold bools at rh
      have hss := Lib.hid (RB.has (t0 := true) (t1 := false) (t2 := false) (t3 := false) (t4 := false) hs1 rh)
      obtain ⟨y0, y1, y2, y3, y4, z0, z1, z2, z3, z4⟩ := rh.c5
      go_wp2_with fail
      refine ⟨.inr hss.out.1, ?_⟩
      have ra := hss.out.2
      replace hh := rok_RB.trans hh hss.out.1
      refine wpAnyRS_quiet 11 1 0 81 (by rfl) (by kernel_rfl) (fun _ _ _ _ _ h => h) (by kernel_rfl) (by kernel_rfl) ?_
      apply Exists.intro
      refine ⟨fun w3 hw3 => ?_, ?_⟩
      · have hne := laterR_ne (R := RB w9.heap.size true false false false false) rok_RB w3
        simp only [List.drop_succ_cons, List.drop_zero, List.take_succ_cons, List.take_zero]
        repeat (go_big_quiet_step (fail))
        exact wpQuiet_nil rfl
      refine wpAnyRS_done (by kernel_rfl) ?_
      intro w6 h6
      replace hh := rok_RB.trans hh h6
      replace ra := h6.aim _ ra
      clear h6
      go_wp2_with fail
      go_meet
      exact ⟨hb, rfl, rfl, ra, rp.below hh.below hlt, hu.next hh.below⟩
    · simp only [List.drop_succ_cons, List.drop_zero, List.take_succ_cons, List.take_zero]
      go_wp2_with fail
      have hs1 : w9.heap.size ≤ w1.heap.size := hh.below.size
      have rh : RowAt (w1.alloc (.cells #[.bool false, .bool false, .bool false, .bool false, .bool false] 50)) w1.heap.size (bools false false false false false) := RowAt.made w1 _ _
      refine ⟨.inr (RB.up hs1 ((Up.refl w1).alloc _)), ?_⟩
      replace hh := rok_RB.trans hh (RB.up hs1 ((Up.refl w1).alloc (.cells #[.bool false, .bool false, .bool false, .bool false, .bool false] 50)))
      generalize w1.heap.size = hb at *
      generalize w1.alloc (.cells #[.bool false, .bool false, .bool false, .bool false, .bool false] 50) = wc at *
      refine wpAnyRS_some 7 [10] 3 (by rfl) (by kernel_rfl) (by kernel_rfl) ?_
      intro w1 h1
      replace hh := rok_RB.trans hh h1
      obtain ⟨_, _, _, _, _, rh⟩ := h1.row _ _ _ _ _ _ rh
      clear h1
      refine ⟨?_, ?_, trivial⟩
      · simp only [List.drop_succ_cons, List.drop_zero, List.take_succ_cons, List.take_zero]
        go_wp2_with fail
        have rh := rh.alloc (.cells #[.int .u8 5] 5)
        have bc := (RowAt.made w1 5 [.int .u8 5]).cell 0 (by simp)
        have hs2 : w9.heap.size ≤ w1.heap.size := hh.below.size
        refine ⟨.inr (RB.up hs2 ((Up.refl w1).alloc _)), ?_⟩
        replace hh := rok_RB.trans hh (RB.up hs2 ((Up.refl w1).alloc (.cells #[.int .u8 5] 5)))
        simp only [List.getElem_cons_zero] at bc
        refine wpAnyRS_quiet 8 1 2 81 (by rfl) (by kernel_rfl) (fun _ _ _ _ _ h => h) (by kernel_rfl) (by kernel_rfl) ?_
        apply Exists.intro
        refine ⟨fun w3 hw3 => ?_, ?_⟩
        · have lb := LaterRB.byte bc hw3
          have hne := laterR_ne (R := RB w9.heap.size true false false false false) rok_RB w3
          simp only [List.drop_succ_cons, List.drop_zero, List.take_succ_cons, List.take_zero]
          repeat (go_big_quiet_step (fail))
          exact wpQuiet_nil rfl
        clear bc
        refine wpAnyRS_some 10 [] 1 (by rfl) (by kernel_rfl) (by kernel_rfl) ?_
        intro w2 h1
        replace hh := rok_RB.trans hh h1
        refine ⟨?_, trivial⟩
        obtain ⟨_, _, _, _, _, rh⟩ := h1.row _ _ _ _ _ _ rh
        clear h1
        simp only [List.drop_succ_cons, List.drop_zero, List.take_succ_cons, List.take_zero]
        unfold bools at rh
        have hss := Lib.hid (RB.has (t0 := true) (t1 := false) (t2 := false) (t3 := false) (t4 := false) hs1 rh)
        obtain ⟨y0, y1, y2, y3, y4, z0, z1, z2, z3, z4⟩ := rh.c5
        go_wp2_with fail
        refine ⟨.inr hss.out.1, ?_⟩
        have ra := hss.out.2
        replace hh := rok_RB.trans hh hss.out.1
        refine wpAnyRS_quiet 11 1 0 81 (by rfl) (by kernel_rfl) (fun _ _ _ _ _ h => h) (by kernel_rfl) (by kernel_rfl) ?_
        apply Exists.intro
        refine ⟨fun w3 hw3 => ?_, ?_⟩
        · have hne := laterR_ne (R := RB w9.heap.size true false false false false) rok_RB w3
          simp only [List.drop_succ_cons, List.drop_zero, List.take_succ_cons, List.take_zero]
          repeat (go_big_quiet_step (fail))
          exact wpQuiet_nil rfl
        refine wpAnyRS_done (by kernel_rfl) ?_
        intro w6 h6
        replace hh := rok_RB.trans hh h6
        replace ra := h6.aim _ ra
        clear h6
        go_wp2_with fail
        go_meet
        exact ⟨hb, rfl, rfl, ra, rp.below hh.below hlt, hu.next hh.below⟩
      · simp only [List.drop_succ_cons, List.drop_zero, List.take_succ_cons, List.take_zero]
        unfold bools at rh
        have hss := Lib.hid (RB.has (t0 := true) (t1 := false) (t2 := false) (t3 := false) (t4 := false) hs1 rh)
        obtain ⟨y0, y1, y2, y3, y4, z0, z1, z2, z3, z4⟩ := rh.c5
        go_wp2_with fail
        refine ⟨.inr hss.out.1, ?_⟩
        have ra := hss.out.2
        replace hh := rok_RB.trans hh hss.out.1
        refine wpAnyRS_some 7 [] 2 (by rfl) (by kernel_rfl) (by kernel_rfl) ?_
        clear hss
        intro w1 h1
        replace hh := rok_RB.trans hh h1
        replace ra := h1.aim _ ra
        clear h1
        refine ⟨?_, trivial⟩
        simp only [List.drop_succ_cons, List.drop_zero, List.take_succ_cons, List.take_zero]
        go_wp2_with fail
        replace ra := ra.alloc (.cells #[.int .u8 5] 5)
        have bc := (RowAt.made w1 5 [.int .u8 5]).cell 0 (by simp)
        have hs2 : w9.heap.size ≤ w1.heap.size := hh.below.size
        refine ⟨.inr (RB.up hs2 ((Up.refl w1).alloc _)), ?_⟩
        replace hh := rok_RB.trans hh (RB.up hs2 ((Up.refl w1).alloc (.cells #[.int .u8 5] 5)))
        simp only [List.getElem_cons_zero] at bc
        refine wpAnyRS_quiet 8 1 1 81 (by rfl) (by kernel_rfl) (fun _ _ _ _ _ h => h) (by kernel_rfl) (by kernel_rfl) ?_
        apply Exists.intro
        refine ⟨fun w3 hw3 => ?_, ?_⟩
        · have lb := LaterRB.byte bc hw3
          have hne := laterR_ne (R := RB w9.heap.size true false false false false) rok_RB w3
          simp only [List.drop_succ_cons, List.drop_zero, List.take_succ_cons, List.take_zero]
          repeat (go_big_quiet_step (fail))
          exact wpQuiet_nil rfl
        clear bc
        refine wpAnyRS_quiet 11 1 0 81 (by rfl) (by kernel_rfl) (fun _ _ _ _ _ h => h) (by kernel_rfl) (by kernel_rfl) ?_
        apply Exists.intro
        refine ⟨fun w3 hw3 => ?_, ?_⟩
        · have hne := laterR_ne (R := RB w9.heap.size true false false false false) rok_RB w3
          simp only [List.drop_succ_cons, List.drop_zero, List.take_succ_cons, List.take_zero]
          repeat (go_big_quiet_step (fail))
          exact wpQuiet_nil rfl
        refine wpAnyRS_done (by kernel_rfl) ?_
        intro w6 h6
        replace hh := rok_RB.trans hh h6
        replace ra := h6.aim _ ra
        clear h6
        go_wp2_with fail
        go_meet
        exact ⟨hb, rfl, rfl, ra, rp.below hh.below hlt, hu.next hh.below⟩
  case rest =>
  clear rp hu hlt
  obtain ⟨h, rfl, rfl, rh, rp, hu⟩ := hcut
  unfold bools at rh
  obtain ⟨y0, y1, y2, y3, y4, -⟩ := rh.c5
  obtain ⟨p0, p1, p2, p3, p4, p5, p6, p7, -⟩ := rp.c8
  clear C1 C4 hix
  rw [show str [5] = str [UInt8.ofNat (5 : Int).toNat] from rfl]
  generalize str [UInt8.ofNat (5 : Int).toNat] = S0 at *
  generalize str (numL t 6) = N1 at *
  have hz : ¬ 9223372036854775807 < S0.size + N1.size := by omega
  go_wp2_with (((with_reducible refine (C5.out _).mono ?_); rintro e w9 ⟨rfl, hw⟩; replace rp := rp.up hw; replace rh := rh.up hw; obtain ⟨y0, y1, y2, y3, y4, -⟩ := rh.c5; obtain ⟨p0, p1, p2, p3, p4, p5, p6, p7, -⟩ := rp.c8; replace hu := hu.next hw; clear hw))
  go_loopw [4, 66] (fun v4 v wr => v4 = .string (str (RecD.encL ⟨5, t, key, val, p, u, n, l⟩)) ∧ v = .int .i64 0 ∧ Up w wr) (fun _ v _ => 0)
  case atStart => exact ⟨congrArg _ HE.out, rfl, hu⟩
  case round =>
    clear rp rh hu p0 p1 p2 p3 p4 p5 p6 p7 y0 y1 y2 y3 y4
    obtain ⟨rfl, rfl, hu⟩ := hrel
    go_wp2_with fail
    go_ret
    exact ⟨rfl, hu⟩
set_option maxHeartbeats 1000000 in
set_option maxRecDepth 100000 in
theorem enc3 (t : Int) (key val : ByteArray) (p u n : Int) (l : List PairD) (pa : Option Addr) (ca : Nat) (w : World) (hA : PairsAt w pa l) (la : l.length ≤ 1099511627776) (hR : RecD.rightR ⟨3, t, key, val, p, u, n, l⟩ = true) :
    Calls Try.prog 14 #[.agg #[.int .i64 3, .int .i64 t, .string key, .string val, .int .i64 p, .int .i64 u, .int .i64 n, .slice pa l.length ca]] w fun e w' => e = .returned (.string (str (RecD.encL ⟨3, t, key, val, p, u, n, l⟩))) ∧ Below w.heap.size w w' := by
  have c1 : ∀ w1, Up w w1 → Calls Try.prog 11 #[.agg #[.int .i64 3, .int .i64 t, .string key, .string val, .int .i64 p, .int .i64 u, .int .i64 n, .slice pa l.length ca]] w1 fun e w' => e = .returned (.bool true) ∧ Below w1.heap.size w1 w' := fun w1 h => by
    have := rec_Right ⟨3, t, key, val, p, u, n, l⟩ pa ca w1 (hA.up h) la
    rw [hR] at this
    exact this
  have C1 := Lib.hid c1; clear c1
  have C4 := Lib.hid rec_kinds
  have hix : ∀ w, (Instr.index 51 (.agg kindsA) (.int .i64 3)).run Try.prog w = .ok (.agg #[.bool true, .bool true, .bool false, .bool false, .bool false]) w := fun _ => by kernel_rfl
  have o := RecD.ok hR
  have hu := Up.refl w
  have ht := o.t1 rfl
  have hk := o.key1 rfl
  simp only at ht hk
  have C5 := Lib.hid (show ∀ w, Calls Try.prog 31 #[.int .i64 t, .int .i64 6] w fun e w' => e = .returned (.string (str (numL t 6))) ∧ Below w.heap.size w w' from fun w => rec_num t 6 (by omega) (by omega) (by omega) (by omega) (by omega) w)
  have C6 := Lib.hid (show ∀ w, Calls Try.prog 32 #[.string key] w fun e w' => e = .returned (.string (str (textL key))) ∧ Below w.heap.size w w' from fun w => rec_text key w (by omega))
  have HE := Lib.hid (encL_3 t key val p u n l)
  have z1 : (str [UInt8.ofNat (3 : Int).toNat]).size = 1 := rfl
  have z2 : (str (numL t 6)).size = 6 := numS_size t 6
  have z3 : (str (textL key)).size ≤ 17 := by rw [textS_size]; omega
  have hl0 : l = [] := o.l0 rfl
  have hl : (l.length : Int) = 0 := by rw [hl0]; rfl
  have hlf : ¬ (0 : Int) < (l.length : Int) := by omega
  clear hl0
  clear hA la hR o ht hk
  go_enter Try.func14, Try.ntmps14
  go_upto_region 1 with fail
  have rp := RowAt.made w 24 [.int .i64 3, .int .i64 t, .string key, .string val, .int .i64 p, .int .i64 u, .int .i64 n, .slice pa l.length ca]
  replace hu := hu.alloc (.cells #[.int .i64 3, .int .i64 t, .string key, .string val, .int .i64 p, .int .i64 u, .int .i64 n, .slice pa l.length ca] 24)
  generalize w.alloc (.cells #[.int .i64 3, .int .i64 t, .string key, .string val, .int .i64 p, .int .i64 u, .int .i64 n, .slice pa l.length ca] 24) = w1 at *
  obtain ⟨p0, p1, p2, p3, p4, p5, p6, p7, -⟩ := rp.c8
  go_upto_region 3 with ((with_reducible refine (C1.out _ hu).mono ?_); rintro e w9 ⟨rfl, hw⟩; replace rp := rp.up hw; replace hu := hu.next hw; clear hw)
  clear p0 p1 p2 p3 p4 p5 p6 p7
  have hlt := rp.lt
  go_cut [3, 4] (fun v3 v4 wx => ∃ h : Nat, v3 = .pointer (some ⟨h, 0, none⟩) ∧ v4 = .string (str [3]) ∧ RowAt wx h (bools true true false false false) ∧ RowAt wx w.heap.size [.int .i64 3, .int .i64 t, .string key, .string val, .int .i64 p, .int .i64 u, .int .i64 n, .slice pa l.length ca] ∧ Up w wx)
  case first =>
    obtain ⟨p0, -⟩ := rp.c8
    have hcv := str_one 3 3 rfl
    refine wp_region_rel (RB w9.heap.size true true false false false) rok_RB (by kernel_rfl) (by kernel_rfl) (by kernel_rfl) ?_
    refine wpAnyRS_quiet 0 7 5 81 (by rfl) (by kernel_rfl) (fun _ _ _ _ _ h => h) (by kernel_rfl) (by kernel_rfl) ?_
    apply Exists.intro
    refine ⟨fun w1 hw1 => ?_, ?_⟩
    · have l0 := LaterRB.of_base (p := ⟨w.heap.size, 0, none⟩) hlt (show w9.drew.cell? ⟨w.heap.size, 0, none⟩ = _ from p0) hw1
      have hs1 : w9.heap.size ≤ w1.heap.size := hw1.below.size
      have hne := laterR_ne (R := RB w9.heap.size true true false false false) rok_RB w1
      simp only [List.drop_zero, List.take_succ_cons, List.take_zero]
      repeat (go_big_quiet_step ((go_at_call 27; with_reducible exact Calls.laterRB hs1 (C4.out _))))
      exact wpQuiet_nil rfl
    clear p0
    have hdr : RB w9.heap.size true true false false false w9 w9.drew := RB.up (Nat.le_refl _) (Up.refl w9).drew
    refine wpAnyRS_some 7 [9] 4 (by rfl) (by kernel_rfl) (by kernel_rfl) ?_
    intro w1 h1
    have hh := rok_RB.trans hdr h1
    clear h1 hdr
    refine ⟨?_, ?_, trivial⟩
    · simp only [List.drop_succ_cons, List.drop_zero, List.take_succ_cons, List.take_zero]
      go_wp2_with fail
      have bc := (RowAt.made w1 5 [.int .u8 3]).cell 0 (by simp)
      have hs2 : w9.heap.size ≤ w1.heap.size := hh.below.size
      refine ⟨.inr (RB.up hs2 ((Up.refl w1).alloc _)), ?_⟩
      replace hh := rok_RB.trans hh (RB.up hs2 ((Up.refl w1).alloc (.cells #[.int .u8 3] 5)))
      simp only [List.getElem_cons_zero] at bc
      refine wpAnyRS_quiet 8 1 3 81 (by rfl) (by kernel_rfl) (fun _ _ _ _ _ h => h) (by kernel_rfl) (by kernel_rfl) ?_
      apply Exists.intro
      refine ⟨fun w3 hw3 => ?_, ?_⟩
      · have lb := LaterRB.byte bc hw3
        have hne := laterR_ne (R := RB w9.heap.size true true false false false) rok_RB w3
        simp only [List.drop_succ_cons, List.drop_zero, List.take_succ_cons, List.take_zero]
        repeat (go_big_quiet_step (fail))
        exact wpQuiet_nil rfl
      clear bc
      refine wpAnyRS_some 9 [] 2 (by rfl) (by kernel_rfl) (by kernel_rfl) ?_
      intro w1 h1
      replace hh := rok_RB.trans hh h1
      refine ⟨?_, trivial⟩
      clear h1
      simp only [List.drop_succ_cons, List.drop_zero, List.take_succ_cons, List.take_zero]
      go_wp2_with fail
      have hs1 : w9.heap.size ≤ w1.heap.size := hh.below.size
      have rh : RowAt (w1.alloc (.cells #[.bool false, .bool false, .bool false, .bool false, .bool false] 50)) w1.heap.size (bools false false false false false) := RowAt.made w1 _ _
      refine ⟨.inr (RB.up hs1 ((Up.refl w1).alloc _)), ?_⟩
      replace hh := rok_RB.trans hh (RB.up hs1 ((Up.refl w1).alloc (.cells #[.bool false, .bool false, .bool false, .bool false, .bool false] 50)))
      generalize w1.heap.size = hb at *
      generalize w1.alloc (.cells #[.bool false, .bool false, .bool false, .bool false, .bool false] 50) = wc at *
      refine wpAnyRS_some 10 [] 1 (by rfl) (by kernel_rfl) (by kernel_rfl) ?_
      intro w1 h1
      replace hh := rok_RB.trans hh h1
      refine ⟨?_, trivial⟩
      obtain ⟨_, _, _, _, _, rh⟩ := h1.row _ _ _ _ _ _ rh
      clear h1
      simp only [List.drop_succ_cons, List.drop_zero, List.take_succ_cons, List.take_zero]
      unfold bools at rh
      have hss := Lib.hid (RB.has (t0 := true) (t1 := true) (t2 := false) (t3 := false) (t4 := false) hs1 rh)
      obtain ⟨y0, y1, y2, y3, y4, z0, z1, z2, z3, z4⟩ := rh.c5
      go_wp2_with fail
      refine ⟨.inr hss.out.1, ?_⟩
      have ra := hss.out.2
      replace hh := rok_RB.trans hh hss.out.1
      refine wpAnyRS_quiet 11 1 0 81 (by rfl) (by kernel_rfl) (fun _ _ _ _ _ h => h) (by kernel_rfl) (by kernel_rfl) ?_
      apply Exists.intro
      refine ⟨fun w3 hw3 => ?_, ?_⟩
      · have hne := laterR_ne (R := RB w9.heap.size true true false false false) rok_RB w3
        simp only [List.drop_succ_cons, List.drop_zero, List.take_succ_cons, List.take_zero]
        repeat (go_big_quiet_step (fail))
        exact wpQuiet_nil rfl
      refine wpAnyRS_done (by kernel_rfl) ?_
      intro w6 h6
      replace hh := rok_RB.trans hh h6
      replace ra := h6.aim _ ra
      clear h6
      go_wp2_with fail
      go_meet
      exact ⟨hb, rfl, rfl, ra, rp.below hh.below hlt, hu.next hh.below⟩
    · simp only [List.drop_succ_cons, List.drop_zero, List.take_succ_cons, List.take_zero]
      go_wp2_with fail
      have hs1 : w9.heap.size ≤ w1.heap.size := hh.below.size
      have rh : RowAt (w1.alloc (.cells #[.bool false, .bool false, .bool false, .bool false, .bool false] 50)) w1.heap.size (bools false false false false false) := RowAt.made w1 _ _
      refine ⟨.inr (RB.up hs1 ((Up.refl w1).alloc _)), ?_⟩
      replace hh := rok_RB.trans hh (RB.up hs1 ((Up.refl w1).alloc (.cells #[.bool false, .bool false, .bool false, .bool false, .bool false] 50)))
      generalize w1.heap.size = hb at *
      generalize w1.alloc (.cells #[.bool false, .bool false, .bool false, .bool false, .bool false] 50) = wc at *
      refine wpAnyRS_some 7 [10] 3 (by rfl) (by kernel_rfl) (by kernel_rfl) ?_
      intro w1 h1
      replace hh := rok_RB.trans hh h1
      obtain ⟨_, _, _, _, _, rh⟩ := h1.row _ _ _ _ _ _ rh
      clear h1
      refine ⟨?_, ?_, trivial⟩
      · simp only [List.drop_succ_cons, List.drop_zero, List.take_succ_cons, List.take_zero]
        go_wp2_with fail
        have rh := rh.alloc (.cells #[.int .u8 3] 5)
        have bc := (RowAt.made w1 5 [.int .u8 3]).cell 0 (by simp)
        have hs2 : w9.heap.size ≤ w1.heap.size := hh.below.size
        refine ⟨.inr (RB.up hs2 ((Up.refl w1).alloc _)), ?_⟩
        replace hh := rok_RB.trans hh (RB.up hs2 ((Up.refl w1).alloc (.cells #[.int .u8 3] 5)))
        simp only [List.getElem_cons_zero] at bc
        refine wpAnyRS_quiet 8 1 2 81 (by rfl) (by kernel_rfl) (fun _ _ _ _ _ h => h) (by kernel_rfl) (by kernel_rfl) ?_
        apply Exists.intro
        refine ⟨fun w3 hw3 => ?_, ?_⟩
        · have lb := LaterRB.byte bc hw3
          have hne := laterR_ne (R := RB w9.heap.size true true false false false) rok_RB w3
          simp only [List.drop_succ_cons, List.drop_zero, List.take_succ_cons, List.take_zero]
          repeat (go_big_quiet_step (fail))
          exact wpQuiet_nil rfl
        clear bc
        refine wpAnyRS_some 10 [] 1 (by rfl) (by kernel_rfl) (by kernel_rfl) ?_
        intro w2 h1
        replace hh := rok_RB.trans hh h1
        refine ⟨?_, trivial⟩
        obtain ⟨_, _, _, _, _, rh⟩ := h1.row _ _ _ _ _ _ rh
        clear h1
        simp only [List.drop_succ_cons, List.drop_zero, List.take_succ_cons, List.take_zero]
        unfold bools at rh
        have hss := Lib.hid (RB.has (t0 := true) (t1 := true) (t2 := false) (t3 := false) (t4 := false) hs1 rh)
        obtain ⟨y0, y1, y2, y3, y4, z0, z1, z2, z3, z4⟩ := rh.c5
        go_wp2_with fail
        refine ⟨.inr hss.out.1, ?_⟩
        have ra := hss.out.2
        replace hh := rok_RB.trans hh hss.out.1
        refine wpAnyRS_quiet 11 1 0 81 (by rfl) (by kernel_rfl) (fun _ _ _ _ _ h => h) (by kernel_rfl) (by kernel_rfl) ?_
        apply Exists.intro
        refine ⟨fun w3 hw3 => ?_, ?_⟩
        · have hne := laterR_ne (R := RB w9.heap.size true true false false false) rok_RB w3
          simp only [List.drop_succ_cons, List.drop_zero, List.take_succ_cons, List.take_zero]
          repeat (go_big_quiet_step (fail))
          exact wpQuiet_nil rfl
        refine wpAnyRS_done (by kernel_rfl) ?_
        intro w6 h6
        replace hh := rok_RB.trans hh h6
        replace ra := h6.aim _ ra
        clear h6
        go_wp2_with fail
        go_meet
        exact ⟨hb, rfl, rfl, ra, rp.below hh.below hlt, hu.next hh.below⟩
      · simp only [List.drop_succ_cons, List.drop_zero, List.take_succ_cons, List.take_zero]
        unfold bools at rh
        have hss := Lib.hid (RB.has (t0 := true) (t1 := true) (t2 := false) (t3 := false) (t4 := false) hs1 rh)
        obtain ⟨y0, y1, y2, y3, y4, z0, z1, z2, z3, z4⟩ := rh.c5
        go_wp2_with fail
        refine ⟨.inr hss.out.1, ?_⟩
        have ra := hss.out.2
        replace hh := rok_RB.trans hh hss.out.1
        refine wpAnyRS_some 7 [] 2 (by rfl) (by kernel_rfl) (by kernel_rfl) ?_
        clear hss
        intro w1 h1
        replace hh := rok_RB.trans hh h1
        replace ra := h1.aim _ ra
        clear h1
        refine ⟨?_, trivial⟩
        simp only [List.drop_succ_cons, List.drop_zero, List.take_succ_cons, List.take_zero]
        go_wp2_with fail
        replace ra := ra.alloc (.cells #[.int .u8 3] 5)
        have bc := (RowAt.made w1 5 [.int .u8 3]).cell 0 (by simp)
        have hs2 : w9.heap.size ≤ w1.heap.size := hh.below.size
        refine ⟨.inr (RB.up hs2 ((Up.refl w1).alloc _)), ?_⟩
        replace hh := rok_RB.trans hh (RB.up hs2 ((Up.refl w1).alloc (.cells #[.int .u8 3] 5)))
        simp only [List.getElem_cons_zero] at bc
        refine wpAnyRS_quiet 8 1 1 81 (by rfl) (by kernel_rfl) (fun _ _ _ _ _ h => h) (by kernel_rfl) (by kernel_rfl) ?_
        apply Exists.intro
        refine ⟨fun w3 hw3 => ?_, ?_⟩
        · have lb := LaterRB.byte bc hw3
          have hne := laterR_ne (R := RB w9.heap.size true true false false false) rok_RB w3
          simp only [List.drop_succ_cons, List.drop_zero, List.take_succ_cons, List.take_zero]
          repeat (go_big_quiet_step (fail))
          exact wpQuiet_nil rfl
        clear bc
        refine wpAnyRS_quiet 11 1 0 81 (by rfl) (by kernel_rfl) (fun _ _ _ _ _ h => h) (by kernel_rfl) (by kernel_rfl) ?_
        apply Exists.intro
        refine ⟨fun w3 hw3 => ?_, ?_⟩
        · have hne := laterR_ne (R := RB w9.heap.size true true false false false) rok_RB w3
          simp only [List.drop_succ_cons, List.drop_zero, List.take_succ_cons, List.take_zero]
          repeat (go_big_quiet_step (fail))
          exact wpQuiet_nil rfl
        refine wpAnyRS_done (by kernel_rfl) ?_
        intro w6 h6
        replace hh := rok_RB.trans hh h6
        replace ra := h6.aim _ ra
        clear h6
        go_wp2_with fail
        go_meet
        exact ⟨hb, rfl, rfl, ra, rp.below hh.below hlt, hu.next hh.below⟩
  case rest =>
  clear rp hu hlt
  obtain ⟨h, rfl, rfl, rh, rp, hu⟩ := hcut
  unfold bools at rh
  obtain ⟨y0, y1, y2, y3, y4, -⟩ := rh.c5
  obtain ⟨p0, p1, p2, p3, p4, p5, p6, p7, -⟩ := rp.c8
  clear C1 C4 hix
  rw [show str [3] = str [UInt8.ofNat (3 : Int).toNat] from rfl]
  generalize str [UInt8.ofNat (3 : Int).toNat] = S0 at *
  generalize str (numL t 6) = N1 at *
  generalize str (textL key) = N2 at *
  have hz : ¬ 9223372036854775807 < S0.size + N1.size := by omega
  have hz2 : ¬ 9223372036854775807 < S0.size + N1.size + N2.size := by omega
  have hz3 : ¬ 9223372036854775807 < 7 + N2.size := by omega
  go_wp2_with (first | ((with_reducible refine (C5.out _).mono ?_); rintro e w9 ⟨rfl, hw⟩; replace rp := rp.up hw; replace rh := rh.up hw; obtain ⟨y0, y1, y2, y3, y4, -⟩ := rh.c5; obtain ⟨p0, p1, p2, p3, p4, p5, p6, p7, -⟩ := rp.c8; replace hu := hu.next hw; clear hw) | ((with_reducible refine (C6.out _).mono ?_); rintro e w9 ⟨rfl, hw⟩; replace rp := rp.up hw; replace rh := rh.up hw; obtain ⟨y0, y1, y2, y3, y4, -⟩ := rh.c5; obtain ⟨p0, p1, p2, p3, p4, p5, p6, p7, -⟩ := rp.c8; replace hu := hu.next hw; clear hw))
  go_loopw [4, 66] (fun v4 v wr => v4 = .string (str (RecD.encL ⟨3, t, key, val, p, u, n, l⟩)) ∧ v = .int .i64 0 ∧ Up w wr) (fun _ v _ => 0)
  case atStart => exact ⟨congrArg _ HE.out, rfl, hu⟩
  case round =>
    clear rp rh hu p0 p1 p2 p3 p4 p5 p6 p7 y0 y1 y2 y3 y4
    obtain ⟨rfl, rfl, hu⟩ := hrel
    go_wp2_with fail
    go_ret
    exact ⟨rfl, hu⟩
set_option maxHeartbeats 1000000 in
set_option maxRecDepth 100000 in
theorem enc2 (t : Int) (key val : ByteArray) (p u n : Int) (l : List PairD) (pa : Option Addr) (ca : Nat) (w : World) (hA : PairsAt w pa l) (la : l.length ≤ 1099511627776) (hR : RecD.rightR ⟨2, t, key, val, p, u, n, l⟩ = true) :
    Calls Try.prog 14 #[.agg #[.int .i64 2, .int .i64 t, .string key, .string val, .int .i64 p, .int .i64 u, .int .i64 n, .slice pa l.length ca]] w fun e w' => e = .returned (.string (str (RecD.encL ⟨2, t, key, val, p, u, n, l⟩))) ∧ Below w.heap.size w w' := by
  have c1 : ∀ w1, Up w w1 → Calls Try.prog 11 #[.agg #[.int .i64 2, .int .i64 t, .string key, .string val, .int .i64 p, .int .i64 u, .int .i64 n, .slice pa l.length ca]] w1 fun e w' => e = .returned (.bool true) ∧ Below w1.heap.size w1 w' := fun w1 h => by
    have := rec_Right ⟨2, t, key, val, p, u, n, l⟩ pa ca w1 (hA.up h) la
    rw [hR] at this
    exact this
  have C1 := Lib.hid c1; clear c1
  have C4 := Lib.hid rec_kinds
  have hix : ∀ w, (Instr.index 51 (.agg kindsA) (.int .i64 2)).run Try.prog w = .ok (.agg #[.bool true, .bool true, .bool true, .bool false, .bool false]) w := fun _ => by kernel_rfl
  have o := RecD.ok hR
  have hu := Up.refl w
  have ht := o.t1 rfl
  have hk := o.key1 rfl
  have hv := o.val1
  simp only at ht hk hv
  have C5 := Lib.hid (show ∀ w, Calls Try.prog 31 #[.int .i64 t, .int .i64 6] w fun e w' => e = .returned (.string (str (numL t 6))) ∧ Below w.heap.size w w' from fun w => rec_num t 6 (by omega) (by omega) (by omega) (by omega) (by omega) w)
  have C6 := Lib.hid (show ∀ w, Calls Try.prog 32 #[.string key] w fun e w' => e = .returned (.string (str (textL key))) ∧ Below w.heap.size w w' from fun w => rec_text key w (by omega))
  have C7 := Lib.hid (show ∀ w, Calls Try.prog 32 #[.string val] w fun e w' => e = .returned (.string (str (textL val))) ∧ Below w.heap.size w w' from fun w => rec_text val w (by omega))
  have HE := Lib.hid (encL_2 t key val p u n l)
  have z1 : (str [UInt8.ofNat (2 : Int).toNat]).size = 1 := rfl
  have z2 : (str (numL t 6)).size = 6 := numS_size t 6
  have z3 : (str (textL key)).size ≤ 17 := by rw [textS_size]; omega
  have z4 : (str (textL val)).size ≤ 33 := by rw [textS_size]; omega
  have hl0 : l = [] := o.l0 rfl
  have hl : (l.length : Int) = 0 := by rw [hl0]; rfl
  have hlf : ¬ (0 : Int) < (l.length : Int) := by omega
  clear hl0
  clear hA la hR o ht hk hv
  go_enter Try.func14, Try.ntmps14
  go_upto_region 1 with fail
  have rp := RowAt.made w 24 [.int .i64 2, .int .i64 t, .string key, .string val, .int .i64 p, .int .i64 u, .int .i64 n, .slice pa l.length ca]
  replace hu := hu.alloc (.cells #[.int .i64 2, .int .i64 t, .string key, .string val, .int .i64 p, .int .i64 u, .int .i64 n, .slice pa l.length ca] 24)
  generalize w.alloc (.cells #[.int .i64 2, .int .i64 t, .string key, .string val, .int .i64 p, .int .i64 u, .int .i64 n, .slice pa l.length ca] 24) = w1 at *
  obtain ⟨p0, p1, p2, p3, p4, p5, p6, p7, -⟩ := rp.c8
  go_upto_region 3 with ((with_reducible refine (C1.out _ hu).mono ?_); rintro e w9 ⟨rfl, hw⟩; replace rp := rp.up hw; replace hu := hu.next hw; clear hw)
  clear p0 p1 p2 p3 p4 p5 p6 p7
  have hlt := rp.lt
  go_cut [3, 4] (fun v3 v4 wx => ∃ h : Nat, v3 = .pointer (some ⟨h, 0, none⟩) ∧ v4 = .string (str [2]) ∧ RowAt wx h (bools true true true false false) ∧ RowAt wx w.heap.size [.int .i64 2, .int .i64 t, .string key, .string val, .int .i64 p, .int .i64 u, .int .i64 n, .slice pa l.length ca] ∧ Up w wx)
  case first =>
    obtain ⟨p0, -⟩ := rp.c8
    have hcv := str_one 2 2 rfl
    refine wp_region_rel (RB w9.heap.size true true true false false) rok_RB (by kernel_rfl) (by kernel_rfl) (by kernel_rfl) ?_
    refine wpAnyRS_quiet 0 7 5 81 (by rfl) (by kernel_rfl) (fun _ _ _ _ _ h => h) (by kernel_rfl) (by kernel_rfl) ?_
    apply Exists.intro
    refine ⟨fun w1 hw1 => ?_, ?_⟩
    · have l0 := LaterRB.of_base (p := ⟨w.heap.size, 0, none⟩) hlt (show w9.drew.cell? ⟨w.heap.size, 0, none⟩ = _ from p0) hw1
      have hs1 : w9.heap.size ≤ w1.heap.size := hw1.below.size
      have hne := laterR_ne (R := RB w9.heap.size true true true false false) rok_RB w1
      simp only [List.drop_zero, List.take_succ_cons, List.take_zero]
      repeat (go_big_quiet_step ((go_at_call 27; with_reducible exact Calls.laterRB hs1 (C4.out _))))
      exact wpQuiet_nil rfl
    clear p0
    have hdr : RB w9.heap.size true true true false false w9 w9.drew := RB.up (Nat.le_refl _) (Up.refl w9).drew
    refine wpAnyRS_some 7 [9] 4 (by rfl) (by kernel_rfl) (by kernel_rfl) ?_
    intro w1 h1
    have hh := rok_RB.trans hdr h1
    clear h1 hdr
    refine ⟨?_, ?_, trivial⟩
    · simp only [List.drop_succ_cons, List.drop_zero, List.take_succ_cons, List.take_zero]
      go_wp2_with fail
      have bc := (RowAt.made w1 5 [.int .u8 2]).cell 0 (by simp)
      have hs2 : w9.heap.size ≤ w1.heap.size := hh.below.size
      refine ⟨.inr (RB.up hs2 ((Up.refl w1).alloc _)), ?_⟩
      replace hh := rok_RB.trans hh (RB.up hs2 ((Up.refl w1).alloc (.cells #[.int .u8 2] 5)))
      simp only [List.getElem_cons_zero] at bc
      refine wpAnyRS_quiet 8 1 3 81 (by rfl) (by kernel_rfl) (fun _ _ _ _ _ h => h) (by kernel_rfl) (by kernel_rfl) ?_
      apply Exists.intro
      refine ⟨fun w3 hw3 => ?_, ?_⟩
      · have lb := LaterRB.byte bc hw3
        have hne := laterR_ne (R := RB w9.heap.size true true true false false) rok_RB w3
        simp only [List.drop_succ_cons, List.drop_zero, List.take_succ_cons, List.take_zero]
        repeat (go_big_quiet_step (fail))
        exact wpQuiet_nil rfl
      clear bc
      refine wpAnyRS_some 9 [] 2 (by rfl) (by kernel_rfl) (by kernel_rfl) ?_
      intro w1 h1
      replace hh := rok_RB.trans hh h1
      refine ⟨?_, trivial⟩
      clear h1
      simp only [List.drop_succ_cons, List.drop_zero, List.take_succ_cons, List.take_zero]
      go_wp2_with fail
      have hs1 : w9.heap.size ≤ w1.heap.size := hh.below.size
      have rh : RowAt (w1.alloc (.cells #[.bool false, .bool false, .bool false, .bool false, .bool false] 50)) w1.heap.size (bools false false false false false) := RowAt.made w1 _ _
      refine ⟨.inr (RB.up hs1 ((Up.refl w1).alloc _)), ?_⟩
      replace hh := rok_RB.trans hh (RB.up hs1 ((Up.refl w1).alloc (.cells #[.bool false, .bool false, .bool false, .bool false, .bool false] 50)))
      generalize w1.heap.size = hb at *
      generalize w1.alloc (.cells #[.bool false, .bool false, .bool false, .bool false, .bool false] 50) = wc at *
      refine wpAnyRS_some 10 [] 1 (by rfl) (by kernel_rfl) (by kernel_rfl) ?_
      intro w1 h1
      replace hh := rok_RB.trans hh h1
      refine ⟨?_, trivial⟩
      obtain ⟨_, _, _, _, _, rh⟩ := h1.row _ _ _ _ _ _ rh
      clear h1
      simp only [List.drop_succ_cons, List.drop_zero, List.take_succ_cons, List.take_zero]
      unfold bools at rh
      have hss := Lib.hid (RB.has (t0 := true) (t1 := true) (t2 := true) (t3 := false) (t4 := false) hs1 rh)
      obtain ⟨y0, y1, y2, y3, y4, z0, z1, z2, z3, z4⟩ := rh.c5
      go_wp2_with fail
      refine ⟨.inr hss.out.1, ?_⟩
      have ra := hss.out.2
      replace hh := rok_RB.trans hh hss.out.1
      refine wpAnyRS_quiet 11 1 0 81 (by rfl) (by kernel_rfl) (fun _ _ _ _ _ h => h) (by kernel_rfl) (by kernel_rfl) ?_
      apply Exists.intro
      refine ⟨fun w3 hw3 => ?_, ?_⟩
      · have hne := laterR_ne (R := RB w9.heap.size true true true false false) rok_RB w3
        simp only [List.drop_succ_cons, List.drop_zero, List.take_succ_cons, List.take_zero]
        repeat (go_big_quiet_step (fail))
        exact wpQuiet_nil rfl
      refine wpAnyRS_done (by kernel_rfl) ?_
      intro w6 h6
      replace hh := rok_RB.trans hh h6
      replace ra := h6.aim _ ra
      clear h6
      go_wp2_with fail
      go_meet
      exact ⟨hb, rfl, rfl, ra, rp.below hh.below hlt, hu.next hh.below⟩
    · simp only [List.drop_succ_cons, List.drop_zero, List.take_succ_cons, List.take_zero]
      go_wp2_with fail
      have hs1 : w9.heap.size ≤ w1.heap.size := hh.below.size
      have rh : RowAt (w1.alloc (.cells #[.bool false, .bool false, .bool false, .bool false, .bool false] 50)) w1.heap.size (bools false false false false false) := RowAt.made w1 _ _
      refine ⟨.inr (RB.up hs1 ((Up.refl w1).alloc _)), ?_⟩
      replace hh := rok_RB.trans hh (RB.up hs1 ((Up.refl w1).alloc (.cells #[.bool false, .bool false, .bool false, .bool false, .bool false] 50)))
      generalize w1.heap.size = hb at *
      generalize w1.alloc (.cells #[.bool false, .bool false, .bool false, .bool false, .bool false] 50) = wc at *
      refine wpAnyRS_some 7 [10] 3 (by rfl) (by kernel_rfl) (by kernel_rfl) ?_
      intro w1 h1
      replace hh := rok_RB.trans hh h1
      obtain ⟨_, _, _, _, _, rh⟩ := h1.row _ _ _ _ _ _ rh
      clear h1
      refine ⟨?_, ?_, trivial⟩
      · simp only [List.drop_succ_cons, List.drop_zero, List.take_succ_cons, List.take_zero]
        go_wp2_with fail
        have rh := rh.alloc (.cells #[.int .u8 2] 5)
        have bc := (RowAt.made w1 5 [.int .u8 2]).cell 0 (by simp)
        have hs2 : w9.heap.size ≤ w1.heap.size := hh.below.size
        refine ⟨.inr (RB.up hs2 ((Up.refl w1).alloc _)), ?_⟩
        replace hh := rok_RB.trans hh (RB.up hs2 ((Up.refl w1).alloc (.cells #[.int .u8 2] 5)))
        simp only [List.getElem_cons_zero] at bc
        refine wpAnyRS_quiet 8 1 2 81 (by rfl) (by kernel_rfl) (fun _ _ _ _ _ h => h) (by kernel_rfl) (by kernel_rfl) ?_
        apply Exists.intro
        refine ⟨fun w3 hw3 => ?_, ?_⟩
        · have lb := LaterRB.byte bc hw3
          have hne := laterR_ne (R := RB w9.heap.size true true true false false) rok_RB w3
          simp only [List.drop_succ_cons, List.drop_zero, List.take_succ_cons, List.take_zero]
          repeat (go_big_quiet_step (fail))
          exact wpQuiet_nil rfl
        clear bc
        refine wpAnyRS_some 10 [] 1 (by rfl) (by kernel_rfl) (by kernel_rfl) ?_
        intro w2 h1
        replace hh := rok_RB.trans hh h1
        refine ⟨?_, trivial⟩
        obtain ⟨_, _, _, _, _, rh⟩ := h1.row _ _ _ _ _ _ rh
        clear h1
        simp only [List.drop_succ_cons, List.drop_zero, List.take_succ_cons, List.take_zero]
        unfold bools at rh
        have hss := Lib.hid (RB.has (t0 := true) (t1 := true) (t2 := true) (t3 := false) (t4 := false) hs1 rh)
        obtain ⟨y0, y1, y2, y3, y4, z0, z1, z2, z3, z4⟩ := rh.c5
        go_wp2_with fail
        refine ⟨.inr hss.out.1, ?_⟩
        have ra := hss.out.2
        replace hh := rok_RB.trans hh hss.out.1
        refine wpAnyRS_quiet 11 1 0 81 (by rfl) (by kernel_rfl) (fun _ _ _ _ _ h => h) (by kernel_rfl) (by kernel_rfl) ?_
        apply Exists.intro
        refine ⟨fun w3 hw3 => ?_, ?_⟩
        · have hne := laterR_ne (R := RB w9.heap.size true true true false false) rok_RB w3
          simp only [List.drop_succ_cons, List.drop_zero, List.take_succ_cons, List.take_zero]
          repeat (go_big_quiet_step (fail))
          exact wpQuiet_nil rfl
        refine wpAnyRS_done (by kernel_rfl) ?_
        intro w6 h6
        replace hh := rok_RB.trans hh h6
        replace ra := h6.aim _ ra
        clear h6
        go_wp2_with fail
        go_meet
        exact ⟨hb, rfl, rfl, ra, rp.below hh.below hlt, hu.next hh.below⟩
      · simp only [List.drop_succ_cons, List.drop_zero, List.take_succ_cons, List.take_zero]
        unfold bools at rh
        have hss := Lib.hid (RB.has (t0 := true) (t1 := true) (t2 := true) (t3 := false) (t4 := false) hs1 rh)
        obtain ⟨y0, y1, y2, y3, y4, z0, z1, z2, z3, z4⟩ := rh.c5
        go_wp2_with fail
        refine ⟨.inr hss.out.1, ?_⟩
        have ra := hss.out.2
        replace hh := rok_RB.trans hh hss.out.1
        refine wpAnyRS_some 7 [] 2 (by rfl) (by kernel_rfl) (by kernel_rfl) ?_
        clear hss
        intro w1 h1
        replace hh := rok_RB.trans hh h1
        replace ra := h1.aim _ ra
        clear h1
        refine ⟨?_, trivial⟩
        simp only [List.drop_succ_cons, List.drop_zero, List.take_succ_cons, List.take_zero]
        go_wp2_with fail
        replace ra := ra.alloc (.cells #[.int .u8 2] 5)
        have bc := (RowAt.made w1 5 [.int .u8 2]).cell 0 (by simp)
        have hs2 : w9.heap.size ≤ w1.heap.size := hh.below.size
        refine ⟨.inr (RB.up hs2 ((Up.refl w1).alloc _)), ?_⟩
        replace hh := rok_RB.trans hh (RB.up hs2 ((Up.refl w1).alloc (.cells #[.int .u8 2] 5)))
        simp only [List.getElem_cons_zero] at bc
        refine wpAnyRS_quiet 8 1 1 81 (by rfl) (by kernel_rfl) (fun _ _ _ _ _ h => h) (by kernel_rfl) (by kernel_rfl) ?_
        apply Exists.intro
        refine ⟨fun w3 hw3 => ?_, ?_⟩
        · have lb := LaterRB.byte bc hw3
          have hne := laterR_ne (R := RB w9.heap.size true true true false false) rok_RB w3
          simp only [List.drop_succ_cons, List.drop_zero, List.take_succ_cons, List.take_zero]
          repeat (go_big_quiet_step (fail))
          exact wpQuiet_nil rfl
        clear bc
        refine wpAnyRS_quiet 11 1 0 81 (by rfl) (by kernel_rfl) (fun _ _ _ _ _ h => h) (by kernel_rfl) (by kernel_rfl) ?_
        apply Exists.intro
        refine ⟨fun w3 hw3 => ?_, ?_⟩
        · have hne := laterR_ne (R := RB w9.heap.size true true true false false) rok_RB w3
          simp only [List.drop_succ_cons, List.drop_zero, List.take_succ_cons, List.take_zero]
          repeat (go_big_quiet_step (fail))
          exact wpQuiet_nil rfl
        refine wpAnyRS_done (by kernel_rfl) ?_
        intro w6 h6
        replace hh := rok_RB.trans hh h6
        replace ra := h6.aim _ ra
        clear h6
        go_wp2_with fail
        go_meet
        exact ⟨hb, rfl, rfl, ra, rp.below hh.below hlt, hu.next hh.below⟩
  case rest =>
  clear rp hu hlt
  obtain ⟨h, rfl, rfl, rh, rp, hu⟩ := hcut
  unfold bools at rh
  obtain ⟨y0, y1, y2, y3, y4, -⟩ := rh.c5
  obtain ⟨p0, p1, p2, p3, p4, p5, p6, p7, -⟩ := rp.c8
  clear C1 C4 hix
  rw [show str [2] = str [UInt8.ofNat (2 : Int).toNat] from rfl]
  generalize str [UInt8.ofNat (2 : Int).toNat] = S0 at *
  generalize str (numL t 6) = N1 at *
  generalize str (textL key) = N2 at *
  generalize str (textL val) = N3 at *
  have hz : ¬ 9223372036854775807 < S0.size + N1.size := by omega
  have hz2 : ¬ 9223372036854775807 < S0.size + N1.size + N2.size := by omega
  have hz3 : ¬ 9223372036854775807 < 7 + N2.size := by omega
  have hz4 : ¬ 9223372036854775807 < 7 + N2.size + N3.size := by omega
  go_wp2_with (first | ((with_reducible refine (C5.out _).mono ?_); rintro e w9 ⟨rfl, hw⟩; replace rp := rp.up hw; replace rh := rh.up hw; obtain ⟨y0, y1, y2, y3, y4, -⟩ := rh.c5; obtain ⟨p0, p1, p2, p3, p4, p5, p6, p7, -⟩ := rp.c8; replace hu := hu.next hw; clear hw) | ((with_reducible refine (C6.out _).mono ?_); rintro e w9 ⟨rfl, hw⟩; replace rp := rp.up hw; replace rh := rh.up hw; obtain ⟨y0, y1, y2, y3, y4, -⟩ := rh.c5; obtain ⟨p0, p1, p2, p3, p4, p5, p6, p7, -⟩ := rp.c8; replace hu := hu.next hw; clear hw) | ((with_reducible refine (C7.out _).mono ?_); rintro e w9 ⟨rfl, hw⟩; replace rp := rp.up hw; replace rh := rh.up hw; obtain ⟨y0, y1, y2, y3, y4, -⟩ := rh.c5; obtain ⟨p0, p1, p2, p3, p4, p5, p6, p7, -⟩ := rp.c8; replace hu := hu.next hw; clear hw))
  go_loopw [4, 66] (fun v4 v wr => v4 = .string (str (RecD.encL ⟨2, t, key, val, p, u, n, l⟩)) ∧ v = .int .i64 0 ∧ Up w wr) (fun _ v _ => 0)
  case atStart => exact ⟨congrArg _ HE.out, rfl, hu⟩
  case round =>
    clear rp rh hu p0 p1 p2 p3 p4 p5 p6 p7 y0 y1 y2 y3 y4
    obtain ⟨rfl, rfl, hu⟩ := hrel
    go_wp2_with fail
    go_ret
    exact ⟨rfl, hu⟩
set_option maxHeartbeats 1000000 in
set_option maxRecDepth 100000 in
theorem enc6 (t : Int) (key val : ByteArray) (p u n : Int) (l : List PairD) (pa : Option Addr) (ca : Nat) (w : World) (hA : PairsAt w pa l) (la : l.length ≤ 1099511627776) (hR : RecD.rightR ⟨6, t, key, val, p, u, n, l⟩ = true) :
    Calls Try.prog 14 #[.agg #[.int .i64 6, .int .i64 t, .string key, .string val, .int .i64 p, .int .i64 u, .int .i64 n, .slice pa l.length ca]] w fun e w' => e = .returned (.string (str (RecD.encL ⟨6, t, key, val, p, u, n, l⟩))) ∧ Below w.heap.size w w' := by
  have c1 : ∀ w1, Up w w1 → Calls Try.prog 11 #[.agg #[.int .i64 6, .int .i64 t, .string key, .string val, .int .i64 p, .int .i64 u, .int .i64 n, .slice pa l.length ca]] w1 fun e w' => e = .returned (.bool true) ∧ Below w1.heap.size w1 w' := fun w1 h => by
    have := rec_Right ⟨6, t, key, val, p, u, n, l⟩ pa ca w1 (hA.up h) la
    rw [hR] at this
    exact this
  have C1 := Lib.hid c1; clear c1
  have C4 := Lib.hid rec_kinds
  have hix : ∀ w, (Instr.index 51 (.agg kindsA) (.int .i64 6)).run Try.prog w = .ok (.agg #[.bool false, .bool false, .bool false, .bool true, .bool false]) w := fun _ => by kernel_rfl
  have o := RecD.ok hR
  have hu := Up.refl w
  have hp := o.p1; have hu1 := o.u1; have hn := o.n1
  simp only at hp hu1 hn
  have C5 := Lib.hid (show ∀ w, Calls Try.prog 31 #[.int .i64 p, .int .i64 6] w fun e w' => e = .returned (.string (str (numL p 6))) ∧ Below w.heap.size w w' from fun w => rec_num p 6 (by omega) (by omega) (by omega) (by omega) (by omega) w)
  have C6 := Lib.hid (show ∀ w, Calls Try.prog 31 #[.int .i64 u, .int .i64 6] w fun e w' => e = .returned (.string (str (numL u 6))) ∧ Below w.heap.size w w' from fun w => rec_num u 6 (by omega) (by omega) (by omega) (by omega) (by omega) w)
  have C7 := Lib.hid (show ∀ w, Calls Try.prog 31 #[.int .i64 n, .int .i64 6] w fun e w' => e = .returned (.string (str (numL n 6))) ∧ Below w.heap.size w w' from fun w => rec_num n 6 (by omega) (by omega) (by omega) (by omega) (by omega) w)
  have z1 : (str [UInt8.ofNat (6 : Int).toNat]).size = 1 := rfl
  have z2 : (str (numL p 6)).size = 6 := numS_size p 6
  have z3 : (str (numL u 6)).size = 6 := numS_size u 6
  have z4 : (str (numL n 6)).size = 6 := numS_size n 6
  clear hp hu1 hn
  have HE := Lib.hid (encL_6 t key val p u n l)
  have hl0 : l = [] := o.l0 rfl
  have hl : (l.length : Int) = 0 := by rw [hl0]; rfl
  have hlf : ¬ (0 : Int) < (l.length : Int) := by omega
  clear hl0
  clear hA la hR o
  go_enter Try.func14, Try.ntmps14
  go_upto_region 1 with fail
  have rp := RowAt.made w 24 [.int .i64 6, .int .i64 t, .string key, .string val, .int .i64 p, .int .i64 u, .int .i64 n, .slice pa l.length ca]
  replace hu := hu.alloc (.cells #[.int .i64 6, .int .i64 t, .string key, .string val, .int .i64 p, .int .i64 u, .int .i64 n, .slice pa l.length ca] 24)
  generalize w.alloc (.cells #[.int .i64 6, .int .i64 t, .string key, .string val, .int .i64 p, .int .i64 u, .int .i64 n, .slice pa l.length ca] 24) = w1 at *
  obtain ⟨p0, p1, p2, p3, p4, p5, p6, p7, -⟩ := rp.c8
  go_upto_region 3 with ((with_reducible refine (C1.out _ hu).mono ?_); rintro e w9 ⟨rfl, hw⟩; replace rp := rp.up hw; replace hu := hu.next hw; clear hw)
  clear p0 p1 p2 p3 p4 p5 p6 p7
  have hlt := rp.lt
  go_cut [3, 4] (fun v3 v4 wx => ∃ h : Nat, v3 = .pointer (some ⟨h, 0, none⟩) ∧ v4 = .string (str [6]) ∧ RowAt wx h (bools false false false true false) ∧ RowAt wx w.heap.size [.int .i64 6, .int .i64 t, .string key, .string val, .int .i64 p, .int .i64 u, .int .i64 n, .slice pa l.length ca] ∧ Up w wx)
  case first =>
    obtain ⟨p0, -⟩ := rp.c8
    have hcv := str_one 6 6 rfl
    refine wp_region_rel (RB w9.heap.size false false false true false) rok_RB (by kernel_rfl) (by kernel_rfl) (by kernel_rfl) ?_
    refine wpAnyRS_quiet 0 7 5 81 (by rfl) (by kernel_rfl) (fun _ _ _ _ _ h => h) (by kernel_rfl) (by kernel_rfl) ?_
    apply Exists.intro
    refine ⟨fun w1 hw1 => ?_, ?_⟩
    · have l0 := LaterRB.of_base (p := ⟨w.heap.size, 0, none⟩) hlt (show w9.drew.cell? ⟨w.heap.size, 0, none⟩ = _ from p0) hw1
      have hs1 : w9.heap.size ≤ w1.heap.size := hw1.below.size
      have hne := laterR_ne (R := RB w9.heap.size false false false true false) rok_RB w1
      simp only [List.drop_zero, List.take_succ_cons, List.take_zero]
      repeat (go_big_quiet_step ((go_at_call 27; with_reducible exact Calls.laterRB hs1 (C4.out _))))
      exact wpQuiet_nil rfl
    clear p0
    have hdr : RB w9.heap.size false false false true false w9 w9.drew := RB.up (Nat.le_refl _) (Up.refl w9).drew
    refine wpAnyRS_some 7 [9] 4 (by rfl) (by kernel_rfl) (by kernel_rfl) ?_
    intro w1 h1
    have hh := rok_RB.trans hdr h1
    clear h1 hdr
    refine ⟨?_, ?_, trivial⟩
    · simp only [List.drop_succ_cons, List.drop_zero, List.take_succ_cons, List.take_zero]
      go_wp2_with fail
      have bc := (RowAt.made w1 5 [.int .u8 6]).cell 0 (by simp)
      have hs2 : w9.heap.size ≤ w1.heap.size := hh.below.size
      refine ⟨.inr (RB.up hs2 ((Up.refl w1).alloc _)), ?_⟩
      replace hh := rok_RB.trans hh (RB.up hs2 ((Up.refl w1).alloc (.cells #[.int .u8 6] 5)))
      simp only [List.getElem_cons_zero] at bc
      refine wpAnyRS_quiet 8 1 3 81 (by rfl) (by kernel_rfl) (fun _ _ _ _ _ h => h) (by kernel_rfl) (by kernel_rfl) ?_
      apply Exists.intro
      refine ⟨fun w3 hw3 => ?_, ?_⟩
      · have lb := LaterRB.byte bc hw3
        have hne := laterR_ne (R := RB w9.heap.size false false false true false) rok_RB w3
        simp only [List.drop_succ_cons, List.drop_zero, List.take_succ_cons, List.take_zero]
        repeat (go_big_quiet_step (fail))
        exact wpQuiet_nil rfl
      clear bc
      refine wpAnyRS_some 9 [] 2 (by rfl) (by kernel_rfl) (by kernel_rfl) ?_
      intro w1 h1
      replace hh := rok_RB.trans hh h1
      refine ⟨?_, trivial⟩
      clear h1
      simp only [List.drop_succ_cons, List.drop_zero, List.take_succ_cons, List.take_zero]
      go_wp2_with fail
      have hs1 : w9.heap.size ≤ w1.heap.size := hh.below.size
      have rh : RowAt (w1.alloc (.cells #[.bool false, .bool false, .bool false, .bool false, .bool false] 50)) w1.heap.size (bools false false false false false) := RowAt.made w1 _ _
      refine ⟨.inr (RB.up hs1 ((Up.refl w1).alloc _)), ?_⟩
      replace hh := rok_RB.trans hh (RB.up hs1 ((Up.refl w1).alloc (.cells #[.bool false, .bool false, .bool false, .bool false, .bool false] 50)))
      generalize w1.heap.size = hb at *
      generalize w1.alloc (.cells #[.bool false, .bool false, .bool false, .bool false, .bool false] 50) = wc at *
      refine wpAnyRS_some 10 [] 1 (by rfl) (by kernel_rfl) (by kernel_rfl) ?_
      intro w1 h1
      replace hh := rok_RB.trans hh h1
      refine ⟨?_, trivial⟩
      obtain ⟨_, _, _, _, _, rh⟩ := h1.row _ _ _ _ _ _ rh
      clear h1
      simp only [List.drop_succ_cons, List.drop_zero, List.take_succ_cons, List.take_zero]
      unfold bools at rh
      have hss := Lib.hid (RB.has (t0 := false) (t1 := false) (t2 := false) (t3 := true) (t4 := false) hs1 rh)
      obtain ⟨y0, y1, y2, y3, y4, z0, z1, z2, z3, z4⟩ := rh.c5
      go_wp2_with fail
      refine ⟨.inr hss.out.1, ?_⟩
      have ra := hss.out.2
      replace hh := rok_RB.trans hh hss.out.1
      refine wpAnyRS_quiet 11 1 0 81 (by rfl) (by kernel_rfl) (fun _ _ _ _ _ h => h) (by kernel_rfl) (by kernel_rfl) ?_
      apply Exists.intro
      refine ⟨fun w3 hw3 => ?_, ?_⟩
      · have hne := laterR_ne (R := RB w9.heap.size false false false true false) rok_RB w3
        simp only [List.drop_succ_cons, List.drop_zero, List.take_succ_cons, List.take_zero]
        repeat (go_big_quiet_step (fail))
        exact wpQuiet_nil rfl
      refine wpAnyRS_done (by kernel_rfl) ?_
      intro w6 h6
      replace hh := rok_RB.trans hh h6
      replace ra := h6.aim _ ra
      clear h6
      go_wp2_with fail
      go_meet
      exact ⟨hb, rfl, rfl, ra, rp.below hh.below hlt, hu.next hh.below⟩
    · simp only [List.drop_succ_cons, List.drop_zero, List.take_succ_cons, List.take_zero]
      go_wp2_with fail
      have hs1 : w9.heap.size ≤ w1.heap.size := hh.below.size
      have rh : RowAt (w1.alloc (.cells #[.bool false, .bool false, .bool false, .bool false, .bool false] 50)) w1.heap.size (bools false false false false false) := RowAt.made w1 _ _
      refine ⟨.inr (RB.up hs1 ((Up.refl w1).alloc _)), ?_⟩
      replace hh := rok_RB.trans hh (RB.up hs1 ((Up.refl w1).alloc (.cells #[.bool false, .bool false, .bool false, .bool false, .bool false] 50)))
      generalize w1.heap.size = hb at *
      generalize w1.alloc (.cells #[.bool false, .bool false, .bool false, .bool false, .bool false] 50) = wc at *
      refine wpAnyRS_some 7 [10] 3 (by rfl) (by kernel_rfl) (by kernel_rfl) ?_
      intro w1 h1
      replace hh := rok_RB.trans hh h1
      obtain ⟨_, _, _, _, _, rh⟩ := h1.row _ _ _ _ _ _ rh
      clear h1
      refine ⟨?_, ?_, trivial⟩
      · simp only [List.drop_succ_cons, List.drop_zero, List.take_succ_cons, List.take_zero]
        go_wp2_with fail
        have rh := rh.alloc (.cells #[.int .u8 6] 5)
        have bc := (RowAt.made w1 5 [.int .u8 6]).cell 0 (by simp)
        have hs2 : w9.heap.size ≤ w1.heap.size := hh.below.size
        refine ⟨.inr (RB.up hs2 ((Up.refl w1).alloc _)), ?_⟩
        replace hh := rok_RB.trans hh (RB.up hs2 ((Up.refl w1).alloc (.cells #[.int .u8 6] 5)))
        simp only [List.getElem_cons_zero] at bc
        refine wpAnyRS_quiet 8 1 2 81 (by rfl) (by kernel_rfl) (fun _ _ _ _ _ h => h) (by kernel_rfl) (by kernel_rfl) ?_
        apply Exists.intro
        refine ⟨fun w3 hw3 => ?_, ?_⟩
        · have lb := LaterRB.byte bc hw3
          have hne := laterR_ne (R := RB w9.heap.size false false false true false) rok_RB w3
          simp only [List.drop_succ_cons, List.drop_zero, List.take_succ_cons, List.take_zero]
          repeat (go_big_quiet_step (fail))
          exact wpQuiet_nil rfl
        clear bc
        refine wpAnyRS_some 10 [] 1 (by rfl) (by kernel_rfl) (by kernel_rfl) ?_
        intro w2 h1
        replace hh := rok_RB.trans hh h1
        refine ⟨?_, trivial⟩
        obtain ⟨_, _, _, _, _, rh⟩ := h1.row _ _ _ _ _ _ rh
        clear h1
        simp only [List.drop_succ_cons, List.drop_zero, List.take_succ_cons, List.take_zero]
        unfold bools at rh
        have hss := Lib.hid (RB.has (t0 := false) (t1 := false) (t2 := false) (t3 := true) (t4 := false) hs1 rh)
        obtain ⟨y0, y1, y2, y3, y4, z0, z1, z2, z3, z4⟩ := rh.c5
        go_wp2_with fail
        refine ⟨.inr hss.out.1, ?_⟩
        have ra := hss.out.2
        replace hh := rok_RB.trans hh hss.out.1
        refine wpAnyRS_quiet 11 1 0 81 (by rfl) (by kernel_rfl) (fun _ _ _ _ _ h => h) (by kernel_rfl) (by kernel_rfl) ?_
        apply Exists.intro
        refine ⟨fun w3 hw3 => ?_, ?_⟩
        · have hne := laterR_ne (R := RB w9.heap.size false false false true false) rok_RB w3
          simp only [List.drop_succ_cons, List.drop_zero, List.take_succ_cons, List.take_zero]
          repeat (go_big_quiet_step (fail))
          exact wpQuiet_nil rfl
        refine wpAnyRS_done (by kernel_rfl) ?_
        intro w6 h6
        replace hh := rok_RB.trans hh h6
        replace ra := h6.aim _ ra
        clear h6
        go_wp2_with fail
        go_meet
        exact ⟨hb, rfl, rfl, ra, rp.below hh.below hlt, hu.next hh.below⟩
      · simp only [List.drop_succ_cons, List.drop_zero, List.take_succ_cons, List.take_zero]
        unfold bools at rh
        have hss := Lib.hid (RB.has (t0 := false) (t1 := false) (t2 := false) (t3 := true) (t4 := false) hs1 rh)
        obtain ⟨y0, y1, y2, y3, y4, z0, z1, z2, z3, z4⟩ := rh.c5
        go_wp2_with fail
        refine ⟨.inr hss.out.1, ?_⟩
        have ra := hss.out.2
        replace hh := rok_RB.trans hh hss.out.1
        refine wpAnyRS_some 7 [] 2 (by rfl) (by kernel_rfl) (by kernel_rfl) ?_
        clear hss
        intro w1 h1
        replace hh := rok_RB.trans hh h1
        replace ra := h1.aim _ ra
        clear h1
        refine ⟨?_, trivial⟩
        simp only [List.drop_succ_cons, List.drop_zero, List.take_succ_cons, List.take_zero]
        go_wp2_with fail
        replace ra := ra.alloc (.cells #[.int .u8 6] 5)
        have bc := (RowAt.made w1 5 [.int .u8 6]).cell 0 (by simp)
        have hs2 : w9.heap.size ≤ w1.heap.size := hh.below.size
        refine ⟨.inr (RB.up hs2 ((Up.refl w1).alloc _)), ?_⟩
        replace hh := rok_RB.trans hh (RB.up hs2 ((Up.refl w1).alloc (.cells #[.int .u8 6] 5)))
        simp only [List.getElem_cons_zero] at bc
        refine wpAnyRS_quiet 8 1 1 81 (by rfl) (by kernel_rfl) (fun _ _ _ _ _ h => h) (by kernel_rfl) (by kernel_rfl) ?_
        apply Exists.intro
        refine ⟨fun w3 hw3 => ?_, ?_⟩
        · have lb := LaterRB.byte bc hw3
          have hne := laterR_ne (R := RB w9.heap.size false false false true false) rok_RB w3
          simp only [List.drop_succ_cons, List.drop_zero, List.take_succ_cons, List.take_zero]
          repeat (go_big_quiet_step (fail))
          exact wpQuiet_nil rfl
        clear bc
        refine wpAnyRS_quiet 11 1 0 81 (by rfl) (by kernel_rfl) (fun _ _ _ _ _ h => h) (by kernel_rfl) (by kernel_rfl) ?_
        apply Exists.intro
        refine ⟨fun w3 hw3 => ?_, ?_⟩
        · have hne := laterR_ne (R := RB w9.heap.size false false false true false) rok_RB w3
          simp only [List.drop_succ_cons, List.drop_zero, List.take_succ_cons, List.take_zero]
          repeat (go_big_quiet_step (fail))
          exact wpQuiet_nil rfl
        refine wpAnyRS_done (by kernel_rfl) ?_
        intro w6 h6
        replace hh := rok_RB.trans hh h6
        replace ra := h6.aim _ ra
        clear h6
        go_wp2_with fail
        go_meet
        exact ⟨hb, rfl, rfl, ra, rp.below hh.below hlt, hu.next hh.below⟩
  case rest =>
  clear rp hu hlt
  obtain ⟨h, rfl, rfl, rh, rp, hu⟩ := hcut
  unfold bools at rh
  obtain ⟨y0, y1, y2, y3, y4, -⟩ := rh.c5
  obtain ⟨p0, p1, p2, p3, p4, p5, p6, p7, -⟩ := rp.c8
  clear C1 C4 hix
  rw [show str [6] = str [UInt8.ofNat (6 : Int).toNat] from rfl]
  generalize str [UInt8.ofNat (6 : Int).toNat] = S0 at *
  generalize str (numL p 6) = N1 at *
  generalize str (numL u 6) = N2 at *
  generalize str (numL n 6) = N3 at *
  have hz : ¬ 9223372036854775807 < N1.size + N2.size := by omega
  have hz2 : ¬ 9223372036854775807 < (N1 ++ N2).size + N3.size := by rw [ByteArray.size_append]; omega
  have hz3 : ¬ 9223372036854775807 < S0.size + (N1 ++ N2 ++ N3).size := by rw [ByteArray.size_append, ByteArray.size_append]; omega
  have hz5 : ¬ 9223372036854775807 < S0.size + (N1.size + N2.size + N3.size) := by omega
  go_upto_region 7 with fail
  have l4 := Later.cell_of p4; have l5 := Later.cell_of p5; have l6 := Later.cell_of p6
  have hne := later_ne wc
  refine wp_region_later (by kernel_rfl) (by kernel_rfl) ?_
  repeat (go_big_quiet_step (first
    | (go_at_call 31; with_reducible exact Calls.later (C5.out _))
    | (go_at_call 31; with_reducible exact Calls.later (C6.out _))
    | (go_at_call 31; with_reducible exact Calls.later (C7.out _))))
  refine wpQuiet_nil ?_
  intro w9 hw9
  obtain ⟨u9, rfl⟩ := hw9
  replace rp := rp.up u9.up; replace rh := rh.up u9.up; replace hu := hu.trans u9.up
  clear hne l4 l5 l6 p0 p1 p2 p3 p4 p5 p6 p7 y0 y1 y2 y3 y4
  generalize u9.world = w8 at *
  obtain ⟨y0, y1, y2, y3, y4, -⟩ := rh.c5
  obtain ⟨p0, p1, p2, p3, p4, p5, p6, p7, -⟩ := rp.c8
  go_wp2_with fail
  go_loopw [4, 66] (fun v4 v wr => v4 = .string (str (RecD.encL ⟨6, t, key, val, p, u, n, l⟩)) ∧ v = .int .i64 0 ∧ Up w wr) (fun _ v _ => 0)
  case atStart => exact ⟨congrArg _ HE.out, rfl, hu⟩
  case round =>
    clear rp rh hu p0 p1 p2 p3 p4 p5 p6 p7 y0 y1 y2 y3 y4
    obtain ⟨rfl, rfl, hu⟩ := hrel
    go_wp2_with fail
    go_ret
    exact ⟨rfl, hu⟩
end Go.Proofs.Ytibeeomeafakgaa
