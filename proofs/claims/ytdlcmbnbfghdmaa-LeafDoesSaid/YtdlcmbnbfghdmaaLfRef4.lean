/- Layer 10, the document's answer: text, Encode. -/
import Derived.Test.YtdlcmbnbfghdmaaLfRef3
import Derived.Test.YtdlcmbnbfghdmaaLfWalk7
namespace Go.Proofs.Ytdlcmbnbfghdmaa
open Go.RowKit Bw
set_option linter.unusedVariables false
theorem byte_size10 (s : ByteArray) : (s.size : Int) % 256 = (((UInt8.ofNat s.size).toNat : Nat) : Int) := by
  have : (UInt8.ofNat s.size).toNat = s.size % 256 := UInt8.toNat_ofNat'
  rw [this]; omega
theorem bytes_one10 (w : World) (e : TypeId) (b : UInt8) : BytesAt (w.alloc (.cells #[.int .u8 (b.toNat : Int)] e)) w.heap.size 0 [b] := by
  have h := RowAt.made w e [.int .u8 (b.toNat : Int)]
  refine ⟨fun j hj => ?_, fun j hj => ?_⟩
  · obtain rfl : j = 0 := by simp at hj; omega
    exact h.cell 0 (by simp)
  · obtain rfl : j = 0 := by simp at hj; omega
    exact h.free 0 (by simp)
set_option maxHeartbeats 400000 in
theorem ref10_text (s : ByteArray) (w : World) (hs : s.size ≤ 1000) :
    Calls Try.prog 50 #[.string s] w fun e w' => e = .returned (.string (str (textL s))) ∧ Below w.heap.size w w' := by
  have HR := Lib.hid (show str [UInt8.ofNat s.size] ++ s = str (textL s) by
    have : str [UInt8.ofNat s.size] ++ str (lst s) = str (textL s) := by rw [str_append]; rfl
    rw [str_lst] at this; exact this)
  generalize str (textL s) = R at *
  have hone := fun w e => bytes_one10 w e (UInt8.ofNat s.size)
  rw [← byte_size10] at hone
  have HO := Lib.hid hone; clear hone
  generalize UInt8.ofNat s.size = B at *
  have hu := Up.refl w
  go_enter Try.func50, Try.ntmps50
  have hz : ¬ 9223372036854775807 < (str [B]).size + s.size := by rw [size_str]; simp only [List.length_cons, List.length_nil]; omega
  go_wp2_with (with_reducible refine wpList_toString rfl _ 78 9 5 rfl Try.underlying78 Try.underlying9 Try.underlying5 [B] w.heap.size 0 1 1 rfl (by simp) (HO.out _ _) ?_)
  go_ret
  exact ⟨congrArg _ (congrArg _ HR.out), hu.alloc _⟩
theorem str_three (b0 b1 b2 : UInt8) (v0 v1 v2 : Int) (h0 : v0 = (b0.toNat : Int)) (h1 : v1 = (b1.toNat : Int)) (h2 : v2 = (b2.toNat : Int)) : ∀ (h : Nat) (wx : World), wx.cell? ⟨h, 0, none⟩ = some (.int .u8 v0) → wx.cell? ⟨h, 1, none⟩ = some (.int .u8 v1) → wx.cell? ⟨h, 2, none⟩ = some (.int .u8 v2) →
    (convert 78 9 (.slice (some ⟨h, 0, none⟩) 3 3)).run Try.prog wx = .ok (.string (str [b0, b1, b2])) wx := fun h wx c0 c1 c2 => by
  subst h0 h1 h2
  exact run_convert_bytes_back (P := Try.prog) wx 78 9 5 ⟨h, 0, none⟩ 3 [b0, b1, b2] Try.underlying78 Try.underlying5 Try.underlying9 (fun j hj => by
    have hj0 : j = 0 ∨ j = 1 ∨ j = 2 := by simp only [List.length_cons, List.length_nil] at hj; omega
    rcases hj0 with rfl | rfl | rfl
    · rw [add_none]; exact c0
    · rw [add_none]; exact c1
    · rw [add_none]; exact c2)
set_option maxHeartbeats 4000000 in
set_option maxRecDepth 100000 in
theorem ref10_Encode (x : LfD) (hx : x.Sm) (q : Option Addr) (c : Nat) (w : World) (hA : PairsAt w q x.l) :
    Calls Try.prog 19 #[lfV x q c] w fun e w' => e = .returned (.string x.enc) ∧ Below w.heap.size w w' := by
  have CR := Lib.hid (fun w hA => ref10_Right x hx q c w hA)
  cases h1 : x.right
  · have HS := Lib.hid (show x.enc = ⟨#[]⟩ by simp [LfD.enc, h1]; rfl)
    rw [h1] at CR
    clear h1 hx
    generalize x.enc = EN at *
    obtain ⟨L, H, N⟩ := x
    simp only [lfV] at *
    replace hA : PairsAt w q L := hA
    have hD := (Hold.start w).madeRow (.slice q L.length c) [.string H, .int .i64 N] 29
    have HA := Lib.hid (hA.up hD.up)
    clear hA
    obtain ⟨t0, t1, t2, f0, f1, f2⟩ := RowAt.c3 (hD.get 0 rfl)
    go_enter Try.func19, Try.ntmps19
    go_upto_region 1 with fail
    generalize w.alloc _ = w0 at *
    go_wp2_with ((with_reducible refine (CR.out _ HA.out).mono ?_); rintro e wn ⟨rfl, hwn⟩; replace hD := hD.next hwn; clear hwn)
    go_ret
    exact ⟨by rw [HS.out]; rfl, hD.up⟩
  have hsm := right_sm h1
  have hrow := right_row h1
  have hlen := encL_length x
  have hsz : x.encL.length ≤ 1000 := by have := hrow.2.2.2; have := hsm.2.1; rw [LfD.size] at hlen; omega
  rw [h1] at CR
  have HE := Lib.hid (show x.enc = str (encB x x.l.length) by
    have h2 : x.encL = encB x x.l.length := by rw [encL_hd, encB, List.take_length]
    rw [LfD.enc, if_pos h1, h2])
  have HZ := Lib.hid (show ∀ k, (str (encB x k)).size ≤ 1000 from fun k => by rw [size_str]; have := encB_le x k; omega)
  have HSU := Lib.hid (show ∀ k (hk : k < x.l.length), str (encB x (k + 1)) = str (encB x k) ++ (str (textL x.l[k].1) ++ str (textL x.l[k].2)) from fun k hk => by rw [encB_succ x k hk, str_append, str_append, List.append_assoc])
  obtain ⟨N', hN⟩ := Int.eq_ofNat_of_zero_le hrow.2.2.1.1
  have hN2 : N' ≤ 1024 := by have := hrow.2.2.1.2; omega
  have HB3 := Lib.hid (show str (encB x 0) = str [76] ++ str [UInt8.ofNat x.l.length, UInt8.ofNat (N' % 256), UInt8.ofNat (N' / 256)] ++ str (textL x.high) by
    rw [str_append, str_append]
    have h8 : UInt8.ofNat (N' % 256) = UInt8.ofNat N' := by
      apply UInt8.toNat_inj.1
      rw [UInt8.toNat_ofNat', UInt8.toNat_ofNat']; omega
    rw [h8]
    simp [encB, hdL, numL, hN, pairsL, toLE])
  have hcv := str_three (UInt8.ofNat x.l.length) (UInt8.ofNat (N' % 256)) (UInt8.ofNat (N' / 256)) (x.l.length : Int) (x.next % 256) (x.next / 256) (by rw [UInt8.toNat_ofNat']; omega) (by rw [hN, UInt8.toNat_ofNat']; omega) (by rw [hN, UInt8.toNat_ofNat']; omega)
  have hB : (str [UInt8.ofNat x.l.length, UInt8.ofNat (N' % 256), UInt8.ofNat (N' / 256)]).size = 3 := by rw [size_str]; rfl
  generalize str [UInt8.ofNat x.l.length, UInt8.ofNat (N' % 256), UInt8.ofNat (N' / 256)] = B3 at *
  have HCV := Lib.hid hcv
  have hTH : (str (textL x.high)).size ≤ 17 := by rw [size_str, textL_length]; omega
  have CT := Lib.hid (fun w => ref10_text x.high w (by omega))
  generalize str (textL x.high) = TH at *
  have hll : x.l.length ≤ 77 := hsm.1
  have HSM := Lib.hid hsm.2.2
  have n1 : 0 ≤ x.next := hrow.2.2.1.1
  have n2 : x.next ≤ 1024 := hrow.2.2.1.2
  rw [HE.out]
  obtain ⟨SK, hSK⟩ : ∃ f : Nat → ByteArray, ∀ k, str (encB x k) = f k := ⟨_, fun _ => rfl⟩
  simp only [hSK] at HZ HSU HB3 ⊢
  clear hSK HE hN hrow hlen hsm hcv h1 hx hsz
  obtain ⟨L, H, N⟩ := x
  simp only [lfV] at *
  replace hA : PairsAt w q L := hA
  have HA := Lib.hid hA
  have hD := (Hold.start w).madeRow (.slice q L.length c) [.string H, .int .i64 N] 29
  rw [List.nil_append] at hD
  clear hA
  have b1 : (L.length : Int) ≤ 77 := by omega
  have b0 : (0 : Int) ≤ (L.length : Int) := by omega
  have h76 : (⟨#[76]⟩ : ByteArray).size = 1 := rfl
  have hz1 : ¬ 9223372036854775807 < (⟨#[76]⟩ : ByteArray).size + B3.size := by omega
  have hz2 : ¬ 9223372036854775807 < ((⟨#[76]⟩ : ByteArray) ++ B3).size + TH.size := by rw [ByteArray.size_append]; omega
  have hz3 : ¬ 9223372036854775807 < (⟨#[76]⟩ : ByteArray).size + B3.size + TH.size := by omega
  have hz4 : ¬ 9223372036854775807 < 1 + B3.size := by omega
  have hz5 : ¬ 9223372036854775807 < 1 + B3.size + TH.size := by omega
  clear h76
  go_enter Try.func19, Try.ntmps19
  go_upto_region 1 with fail
  generalize w.alloc _ = w0 at *
  obtain ⟨t0, t1, t2, -⟩ := RowAt.c3 (hD.get 0 rfl)
  go_upto_region 3 with ((with_reducible refine (CR.out _ (HA.out.up hD.up)).mono ?_); rintro e wn ⟨rfl, hwn⟩; replace hD := hD.next hwn; clear hwn t0 t1 t2; obtain ⟨t0, t1, t2, -⟩ := RowAt.c3 (hD.get 0 rfl))
  clear CR
  go_cut [3] (fun v3 wx => v3 = .string (SK 0) ∧ Hold w wx [rowR w.heap.size (.slice q L.length c) [.string H, .int .i64 N]])
  case first =>
    refine wp_region_ssa (by kernel_rfl) (by kernel_rfl) (by kernel_rfl) ?_
    refine wpAnyS_quiet 0 12 8 52 (by rfl) (by kernel_rfl) (fun _ _ _ _ _ h => h) (by kernel_rfl) (by kernel_rfl) ?_
    apply Exists.intro
    refine ⟨fun w1 hw1 => ?_, ?_⟩
    · have l0 := Later.of_base t0 hw1
      have l2 := Later.of_base t2 hw1
      have hne := later_ne w1
      simp only [List.drop_zero, List.take_succ_cons, List.take_zero]
      repeat (go_big_quiet_step (fail))
      exact wpQuiet_nil rfl
    refine wpAnyS_quiet 15 3 5 52 (by rfl) (by kernel_rfl) (fun _ _ _ _ _ h => h) (by kernel_rfl) (by kernel_rfl) ?_
    apply Exists.intro
    refine ⟨fun w1 hw1 => ?_, ?_⟩
    · have l1 := Later.of_base t1 hw1
      have hne := later_ne w1
      simp only [List.drop_succ_cons, List.drop_zero, List.take_succ_cons, List.take_zero]
      repeat (go_big_quiet_step ((go_at_call 50; with_reducible exact Calls.later (CT.out _))))
      exact wpQuiet_nil rfl
    clear t0 t1 t2
    refine wpAnyS_one 12 4 (by rfl) (by kernel_rfl) (by kernel_rfl) ?_
    intro w1 hw1
    simp only [List.drop_succ_cons, List.drop_zero, List.take_succ_cons, List.take_zero]
    go_wp2_with fail
    refine ⟨(Up.refl w1).alloc _, ?_⟩
    have bc := RowAt.made w1 5 [.int .u8 (L.length : Int), .int .u8 (N % 256), .int .u8 (N / 256)]
    obtain ⟨c0, c1, c2, -⟩ := bc.c3
    have hcv := HCV.out
    replace hD := (hD.next hw1).next ((Below.refl _ w1).alloc (Nat.le_refl _) (.cells #[.int .u8 (L.length : Int), .int .u8 (N % 256), .int .u8 (N / 256)] 5))
    change (w1.alloc (.cells #[.int .u8 (L.length : Int), .int .u8 (N % 256), .int .u8 (N / 256)] 5)).cell? _ = _ at c0 c1 c2
    clear bc
    generalize w1.heap.size = g1 at *
    generalize w1.alloc _ = w2 at *
    refine wpAnyS_quiet 13 2 2 52 (by rfl) (by kernel_rfl) (fun _ _ _ _ _ h => h) (by kernel_rfl) (by kernel_rfl) ?_
    apply Exists.intro
    refine ⟨fun w3 hw3 => ?_, ?_⟩
    · have l0 := Later.of_base c0 hw3
      have l1 := Later.of_base c1 hw3
      have l2 := Later.of_base c2 hw3
      have hne := later_ne w3
      simp only [List.drop_succ_cons, List.drop_zero, List.take_succ_cons, List.take_zero]
      repeat (go_big_quiet_step (fail))
      exact wpQuiet_nil rfl
    clear c0 c1 c2 hcv
    refine wpAnyS_quiet 18 2 0 52 (by rfl) (by kernel_rfl) (fun _ _ _ _ _ h => h) (by kernel_rfl) (by kernel_rfl) ?_
    apply Exists.intro
    refine ⟨fun w3 hw3 => ?_, ?_⟩
    · have hne := later_ne w3
      simp only [List.drop_succ_cons, List.drop_zero, List.take_succ_cons, List.take_zero]
      repeat (go_big_quiet_step (fail))
      exact wpQuiet_nil rfl
    refine wpAnyS_done (by kernel_rfl) ?_
    intro w3 hw3
    replace hD := hD.next hw3
    go_wp2_with fail
    go_meet
    exact ⟨by rw [HB3.out]; rfl, hD⟩
  case rest =>
  clear hD HCV HB3 CT hz1 hz2 hz3 hz4 hz5 hTH hB
  obtain ⟨rfl, hD⟩ := hcut
  go_wp2_with fail
  go_loopw [3, 4] (fun v3 v wr => ∃ k : Nat, k ≤ L.length ∧ v3 = .string (SK k) ∧ v = .int .i64 k ∧ Hold w wr [rowR w.heap.size (.slice q L.length c) [.string H, .int .i64 N]]) (fun _ v _ => L.length - (intOf v).toNat)
  case atStart => exact ⟨0, by omega, rfl, rfl, hD⟩
  case round =>
  clear hD t0 t1 t2
  obtain ⟨k, hk, rfl, rfl, hD⟩ := hrel
  obtain ⟨t0, t1, t2, -⟩ := RowAt.c3 (hD.get 0 rfl)
  have i0 : (0 : Int) ≤ (k : Int) := by omega
  by_cases hlt : k < L.length
  · have i1 : (k : Int) < (L.length : Int) := by omega
    obtain ⟨g, o, rfl, a1, a2⟩ := (HA.out.up hD.up) k hlt
    have hsz := HSM.out _ (List.getElem_mem hlt)
    have HN := Lib.hid (HSU.out k hlt)
    have hz := HZ.out k
    generalize L[k] = p at *
    obtain ⟨pk, pv⟩ := p
    simp only at a1 a2 hsz HN
    have C5 := Lib.hid (fun w => ref10_text pk w (by omega))
    have C6 := Lib.hid (fun w => ref10_text pv w (by omega))
    have z2 : (str (textL pk)).size ≤ 17 := by rw [size_str, textL_length]; omega
    have z3 : (str (textL pv)).size ≤ 33 := by rw [size_str, textL_length]; omega
    generalize str (textL pk) = T1 at *
    generalize str (textL pv) = T2 at *
    obtain ⟨S2, hS2⟩ : ∃ S2, S2 = SK (k + 1) := ⟨_, rfl⟩
    have HS2 := Lib.hid (hS2.trans HN.out)
    have HS3 := Lib.hid hS2
    clear HN hS2
    obtain ⟨S1, hS1⟩ : ∃ S1, S1 = SK k := ⟨_, rfl⟩
    rw [← hS1] at hz HS2 ⊢
    clear hS1
    have hz1 : ¬ 9223372036854775807 < T1.size + T2.size := by omega
    have hz2 : ¬ 9223372036854775807 < S1.size + (T1 ++ T2).size := by rw [ByteArray.size_append]; omega
    have hz3 : ¬ 9223372036854775807 < S1.size + (T1.size + T2.size) := by omega
    go_upto_region 7 with fail
    have l0 := Later.cell_of t0; have l1 := Later.cell_of a1; have l2 := Later.cell_of a2
    have hne := later_ne wr
    clear t0 t1 t2 a1 a2 hsz
    refine wp_region_later (by kernel_rfl) (by kernel_rfl) ?_
    repeat (go_big_quiet_step (first
      | (go_at_call 50; with_reducible exact Calls.later (C5.out _))
      | (go_at_call 50; with_reducible exact Calls.later (C6.out _))))
    refine wpQuiet_nil ?_
    intro w9 hw9
    obtain ⟨u9, rfl⟩ := hw9
    replace hD := hD.next u9.up
    clear hne l0 l1 l2
    generalize u9.world = w8 at *
    go_wp2_with fail
    exact ⟨⟨k + 1, by omega, by rw [← HS3.out, HS2.out], by go_num, hD⟩, by simp [intOf]; omega⟩
  · have i1 : ¬ (k : Int) < (L.length : Int) := by omega
    obtain rfl : k = L.length := by omega
    go_wp2_with fail
    go_ret
    exact ⟨rfl, hD.up⟩
end Go.Proofs.Ytdlcmbnbfghdmaa
