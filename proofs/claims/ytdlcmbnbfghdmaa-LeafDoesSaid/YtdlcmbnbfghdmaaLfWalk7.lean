/- Layer 10: Encode. -/
import Derived.Test.YtdlcmbnbfghdmaaLfWalk3
import Derived.Test.YtdlcmbnbfghdmaaLfPureA
import Derived.Test.YtdlcmbnbfghdmaaFieldWalkA
import Derived.Test.YtdlcmbnbfghdmaaAllR
import Derived.Test.YtdlcmbnbfghdmaaUpA
namespace Go.Proofs.Ytdlcmbnbfghdmaa
open Go.RowKit Bw
set_option linter.unusedVariables false
theorem putText_at (A : List UInt8) (m : Nat) (t : ByteArray) (ht : t.size ≤ 255) (hm : t.size + 1 ≤ m) (hA : A.length + m ≤ 1000) (w : World) :
    Calls Try.prog 49 #[.string (str (A ++ zL m)), .int .i64 A.length, .string t] w fun e w' => e = .returned (.tuple #[.string (str (A ++ textL t ++ zL (m - (t.size + 1)))), .int .i64 ((A.length : Int) + t.size + 1), .int .i64 0]) ∧ Below w.heap.size w w' := by
  have h := field_PutText (str (A ++ zL m)) A.length t w (by rw [size_str, List.length_append, zL_length]; omega) (by omega)
  obtain ⟨e1, e2, e3⟩ := pt_at (A := A) ht hm
  rw [e1, e2, e3] at h
  exact h
theorem put_at' (A : List UInt8) (m k n : Nat) (h1 : 1 ≤ k) (h8 : k ≤ 8) (hk : k ≤ m) (hn : n < 256 ^ k) (hn2 : n < 18446744073709551616) (hA : A.length + m ≤ 1000) (w : World) :
    Calls Try.prog 48 #[.string (str (A ++ zL m)), .int .i64 A.length, .int .i64 k, .int .u64 n] w fun e w' => e = .returned (.tuple #[.string (str (A ++ toLE n k ++ zL (m - k))), .int .i64 0]) ∧ Below w.heap.size w w' := by
  have h := field_Put (str (A ++ zL m)) A.length k n w (by rw [size_str, List.length_append, zL_length]; omega) (by omega) (by omega)
  obtain ⟨e1, e2⟩ := put_at (A := A) h1 h8 hk hn
  rw [e1, e2] at h
  exact h
theorem str_one (b : UInt8) (v : Int) (hv : v = (b.toNat : Int)) : ∀ (h : Nat) (wx : World), wx.cell? ⟨h, 0, none⟩ = some (.int .u8 v) → (convert 78 9 (.slice (some ⟨h, 0, none⟩) 1 1)).run Try.prog wx = .ok (.string (str [b])) wx := fun h wx hc => by
  subst hv
  exact run_convert_bytes_back (P := Try.prog) wx 78 9 5 ⟨h, 0, none⟩ 1 [b] Try.underlying78 Try.underlying5 Try.underlying9 (fun j hj => by
    have hj0 : j = 0 := by simp only [List.length_cons, List.length_nil] at hj; omega
    subst hj0
    rw [add_none]; exact hc)
def encB (x : LfD) (k : Nat) : List UInt8 := hdL x ++ pairsL (x.l.take k)
def encS (x : LfD) (k : Nat) : ByteArray := str (encB x k ++ zL (x.encL.length - (encB x k).length))
theorem encB_length (x : LfD) (k : Nat) : ((encB x k).length : Int) = 5 + x.high.size + wtL (x.l.take k) := by
  have := pairsL_length (x.l.take k)
  rw [encB, List.length_append, hdL_length]; omega
theorem encB_le (x : LfD) (k : Nat) : (encB x k).length + (pairsL (x.l.drop k)).length = x.encL.length := by
  rw [encL_hd, encB, List.length_append, List.length_append, Nat.add_assoc, ← List.length_append, ← pairsL_append, List.take_append_drop]
theorem encB_succ (x : LfD) (k : Nat) (hk : k < x.l.length) : encB x (k + 1) = encB x k ++ textL x.l[k].1 ++ textL x.l[k].2 := by
  rw [encB, List.take_succ_eq_append_getElem hk, pairsL_append, encB]; simp [pairsL]
theorem enc_step (x : LfD) (hS : x.encL.length ≤ 1000) (k : Nat) (hk : k < x.l.length) (h1 : x.l[k].1.size ≤ 255) (h2 : x.l[k].2.size ≤ 255) : ∃ (s1 : ByteArray) (a1 : Int),
    (∀ w, Calls Try.prog 49 #[.string (encS x k), .int .i64 (encB x k).length, .string x.l[k].1] w fun e w' => e = .returned (.tuple #[.string s1, .int .i64 a1, .int .i64 0]) ∧ Below w.heap.size w w') ∧
    (∀ w, Calls Try.prog 49 #[.string s1, .int .i64 a1, .string x.l[k].2] w fun e w' => e = .returned (.tuple #[.string (encS x (k + 1)), .int .i64 (encB x (k + 1)).length, .int .i64 0]) ∧ Below w.heap.size w w') := by
  have hle := encB_le x (k + 1)
  have hsu := encB_succ x k hk
  have hl := congrArg List.length hsu
  simp only [List.length_append, textL_length] at hl
  refine ⟨str (encB x k ++ textL x.l[k].1 ++ zL (x.encL.length - (encB x k).length - (x.l[k].1.size + 1))), ((encB x k).length : Int) + x.l[k].1.size + 1, fun w => putText_at (encB x k) (x.encL.length - (encB x k).length) x.l[k].1 h1 (by omega) (by omega) w, fun w => ?_⟩
  have h := putText_at (encB x k ++ textL x.l[k].1) (x.encL.length - (encB x k).length - (x.l[k].1.size + 1)) x.l[k].2 h2 (by omega) (by rw [List.length_append, textL_length]; omega) w
  rw [← hsu] at h
  have e1 : (((encB x k ++ textL x.l[k].1).length : Nat) : Int) = ((encB x k).length : Int) + x.l[k].1.size + 1 := by rw [List.length_append, textL_length]; omega
  have e2 : ((encB x k).length : Int) + x.l[k].1.size + 1 + x.l[k].2.size + 1 = ((encB x (k + 1)).length : Int) := by omega
  have e3 : x.encL.length - (encB x k).length - (x.l[k].1.size + 1) - (x.l[k].2.size + 1) = x.encL.length - (encB x (k + 1)).length := by omega
  rw [e1, e2, e3] at h
  exact h
set_option maxHeartbeats 4000000 in
set_option maxRecDepth 100000 in
theorem leaf_Encode (x : LfD) (hx : x.Sm) (q : Option Addr) (c : Nat) (w : World) (hA : PairsAt w q x.l) :
    Calls Try.prog 18 #[lfV x q c] w fun e w' => e = .returned (.string x.enc) ∧ Below w.heap.size w w' := by
  have CR := Lib.hid (fun w hA => leaf_Right x hx q c w hA)
  cases h1 : x.right
  · have HS := Lib.hid (show x.enc = ⟨#[]⟩ by simp [LfD.enc, h1]; rfl)
    rw [h1] at CR
    clear h1 hx
    generalize x.enc = EN at *
    obtain ⟨L, H, N⟩ := x
    simp only [lfV] at *
    replace hA : PairsAt w q L := hA
    have hD := (Hold.start w).madeRow (.slice q L.length c) [.string H, .int .i64 N] 24
    have HA := Lib.hid (hA.up hD.up)
    clear hA
    obtain ⟨t0, t1, t2, f0, f1, f2⟩ := RowAt.c3 (hD.get 0 rfl)
    go_enter Try.func18, Try.ntmps18
    go_upto_region 1 with fail
    generalize w.alloc _ = w0 at *
    go_wp2_with ((with_reducible refine (CR.out _ HA.out).mono ?_); rintro e wn ⟨rfl, hwn⟩; replace hD := hD.next hwn; clear hwn)
    go_ret
    exact ⟨by rw [HS.out]; rfl, hD.up⟩
  have CS := Lib.hid (fun w hA => leaf_Size x hx q c w hA)
  have hsm := right_sm h1
  have hrow := right_row h1
  have hlen := encL_length x
  have hsz : x.encL.length ≤ 1000 := by have := hrow.2.2.2; have := hsm.2.1; rw [LfD.size] at hlen; omega
  have hS5 : 5 + x.high.size ≤ x.encL.length := by have := encB_le x 0; have h0 := encB_length x 0; simp [wtL] at h0; omega
  rw [← hlen] at CS
  rw [h1] at CR
  have HST := Lib.hid (fun k hk => enc_step x hsz k hk (by have := (hsm.2.2 _ (List.getElem_mem hk)).1; omega) (by have := (hsm.2.2 _ (List.getElem_mem hk)).2; omega))
  have HE := Lib.hid (show x.enc = encS x x.l.length by
    have h0 := encB_le x x.l.length
    rw [List.drop_length] at h0
    have h2 : x.encL = encB x x.l.length := by rw [encL_hd, encB, List.take_length]
    rw [LfD.enc, if_pos h1, encS, h2]; simp [zL])
  have HB0 := Lib.hid (show ((encB x 0).length : Int) = 5 + (x.high.size : Int) by have := encB_length x 0; simp [wtL] at this; omega)
  obtain ⟨N', hN⟩ := Int.eq_ofNat_of_zero_le hrow.2.2.1.1
  have hN2 : N' ≤ 1024 := by have := hrow.2.2.1.2; omega
  have CP := Lib.hid (show ∀ w, Calls Try.prog 47 #[.string (str [76]), .int .i64 x.encL.length] w fun e w' => e = .returned (.tuple #[.string (str ([76] ++ zL (x.encL.length - 1))), .int .i64 0]) ∧ Below w.heap.size w w' from fun w => by
    have h := field_Pad (str [76]) x.encL.length w (by rw [size_str]; simp)
    obtain ⟨e1, e2⟩ := pad_at (S := x.encL.length) (by omega) hsz
    rw [e1, e2] at h
    exact h)
  have C1 := Lib.hid (show ∀ w, Calls Try.prog 48 #[.string (str ([76] ++ zL (x.encL.length - 1))), .int .i64 1, .int .i64 1, .int .u64 x.l.length] w fun e w' => e = .returned (.tuple #[.string (str ([76] ++ toLE x.l.length 1 ++ zL (x.encL.length - 1 - 1))), .int .i64 0]) ∧ Below w.heap.size w w' from
    fun w => put_at' [76] (x.encL.length - 1) 1 x.l.length (by omega) (by omega) (by omega) (by omega) (by omega) (by simp; omega) w)
  have C2 := Lib.hid (show ∀ w, Calls Try.prog 48 #[.string (str ([76] ++ toLE x.l.length 1 ++ zL (x.encL.length - 1 - 1))), .int .i64 2, .int .i64 2, .int .u64 x.next] w fun e w' => e = .returned (.tuple #[.string (str ([76] ++ toLE x.l.length 1 ++ toLE N' 2 ++ zL (x.encL.length - 1 - 1 - 2))), .int .i64 0]) ∧ Below w.heap.size w w' from
    fun w => by rw [hN]; exact put_at' ([76] ++ toLE x.l.length 1) (x.encL.length - 1 - 1) 2 N' (by omega) (by omega) (by omega) (by omega) (by omega) (by simp [toLE_length]; omega) w)
  have C3 := Lib.hid (show ∀ w, Calls Try.prog 49 #[.string (str ([76] ++ toLE x.l.length 1 ++ toLE N' 2 ++ zL (x.encL.length - 1 - 1 - 2))), .int .i64 4, .string x.high] w fun e w' => e = .returned (.tuple #[.string (encS x 0), .int .i64 (encB x 0).length, .int .i64 0]) ∧ Below w.heap.size w w' from fun w => by
    have h := putText_at ([76] ++ toLE x.l.length 1 ++ toLE N' 2) (x.encL.length - 1 - 1 - 2) x.high (by omega) (by omega) (by simp [toLE_length]; omega) w
    have e1 : [76] ++ toLE x.l.length 1 ++ toLE N' 2 ++ textL x.high = encB x 0 := by simp [encB, hdL, numL, hN, pairsL, toLE]
    rw [e1] at h
    have e2 : x.encL.length - 1 - 1 - 2 - (x.high.size + 1) = x.encL.length - (encB x 0).length := by have := encB_length x 0; simp [wtL] at this; omega
    rw [e2] at h
    rw [HB0.out]
    have e3 : (([76] ++ toLE x.l.length 1 ++ toLE N' 2).length : Int) + x.high.size + 1 = 5 + (x.high.size : Int) := by simp [toLE_length]; omega
    rw [e3] at h
    exact h)
  have hN3 : 0 ≤ x.next ∧ x.next ≤ 1024 := hrow.2.2.1
  have hll : x.l.length ≤ 1000 := by omega
  clear hN hN2 hrow hsm hlen h1 hx HB0
  rw [HE.out]
  clear HE
  have hA0 := fun k => encB_length x k
  have hAB : ∀ k, ((encB x k).length : Int) ≤ 1000 := fun k => by have := encB_le x k; omega
  obtain ⟨AK, hAK⟩ : ∃ f : Nat → Int, ∀ k, ((encB x k).length : Int) = f k := ⟨_, fun _ => rfl⟩
  simp only [hAK] at *
  clear hAK hA0
  generalize encS x = SK at *
  generalize x.encL.length = S at *
  generalize str ([76] ++ zL (S - 1)) = E0 at *
  generalize str ([76] ++ toLE x.l.length 1 ++ zL (S - 1 - 1)) = E1 at *
  generalize str ([76] ++ toLE x.l.length 1 ++ toLE N' 2 ++ zL (S - 1 - 1 - 2)) = E2 at *
  obtain ⟨L, H, N⟩ := x
  simp only [lfV] at *
  replace hA : PairsAt w q L := hA
  have hD := (Hold.start w).madeRow (.slice q L.length c) [.string H, .int .i64 N] 24
  have HA0 := Lib.hid hA
  clear hA
  obtain ⟨t0, t1, t2, f0, f1, f2⟩ := RowAt.c3 (hD.get 0 rfl)
  have n1 : 0 ≤ N := hN3.1
  have n2 : N ≤ 1024 := hN3.2
  have n3 : (L.length : Int) ≤ 1000 := by omega
  clear hN3 hll hS5
  go_enter Try.func18, Try.ntmps18
  go_upto_region 1 with fail
  generalize w.alloc _ = w0 at *
  go_upto_region 3 with ((with_reducible refine (CR.out _ (HA0.out.up hD.up)).mono ?_); rintro e wn ⟨rfl, hwn⟩; replace hD := hD.next hwn; clear hwn)
  clear t0 t1 t2 f0 f1 f2
  obtain ⟨t0, t1, t2, f0, f1, f2⟩ := RowAt.c3 (hD.get 0 rfl)
  clear f0 f1 f2
  go_cut [3] (fun v3 wx => v3 = .string E0 ∧ Hold w wx [rowR w.heap.size (.slice q L.length c) [.string H, .int .i64 N]])
  case first =>
    have HA := Lib.hid (HA0.out.up hD.up)
    refine wp_region_ssa (by kernel_rfl) (by kernel_rfl) (by kernel_rfl) ?_
    refine wpAnyS_quiet 2 2 8 72 (by rfl) (by kernel_rfl) (fun _ _ _ _ _ h => h) (by kernel_rfl) (by kernel_rfl) ?_
    apply Exists.intro
    refine ⟨fun w1 hw1 => ?_, ?_⟩
    · have l0 := Later.of_base t0 hw1
      have l1 := Later.of_base t1 hw1
      have l2 := Later.of_base t2 hw1
      have hne := later_ne w1
      have HU := Lib.hid hw1
      simp only [List.drop_succ_cons, List.drop_zero, List.take_succ_cons, List.take_zero]
      repeat (go_big_quiet_step ((go_at_call 16; rename_i ul; exact Calls.later (CS.out _ (HA.out.up (HU.out.next ul.up))))))
      exact wpQuiet_nil rfl
    clear t0 t1 t2
    refine wpAnyS_one 0 7 (by rfl) (by kernel_rfl) (by kernel_rfl) ?_
    intro w1 hw1
    simp only [List.drop_zero, List.take_succ_cons, List.take_zero]
    go_wp2_with fail
    refine ⟨(Up.refl w1).alloc _, ?_⟩
    have bc := (RowAt.made w1 5 [.int .u8 76]).cell 0 (by simp)
    simp only [List.getElem_cons_zero] at bc
    have hcv := str_one 76 76 rfl
    replace hD := (hD.next hw1).next ((Below.refl _ w1).alloc (Nat.le_refl _) (.cells #[.int .u8 76] 5))
    generalize w1.heap.size = g1 at *
    generalize w1.alloc _ = w2 at *
    refine wpAnyS_quiet 1 1 6 72 (by rfl) (by kernel_rfl) (fun _ _ _ _ _ h => h) (by kernel_rfl) (by kernel_rfl) ?_
    apply Exists.intro
    refine ⟨fun w3 hw3 => ?_, ?_⟩
    · have l0 := Later.of_base bc hw3
      have hne := later_ne w3
      simp only [List.drop_succ_cons, List.drop_zero, List.take_succ_cons, List.take_zero]
      repeat (go_big_quiet_step (fail))
      exact wpQuiet_nil rfl
    clear bc hcv
    refine wpAnyS_quiet 4 6 0 72 (by rfl) (by kernel_rfl) (fun _ _ _ _ _ h => h) (by kernel_rfl) (by kernel_rfl) ?_
    apply Exists.intro
    refine ⟨fun w3 hw3 => ?_, ?_⟩
    · have hne := later_ne w3
      simp only [List.drop_succ_cons, List.drop_zero, List.take_succ_cons, List.take_zero]
      repeat (go_big_quiet_step ((go_at_call 47; with_reducible exact Calls.later (CP.out _))))
      exact wpQuiet_nil rfl
    refine wpAnyS_done (by kernel_rfl) ?_
    intro w3 hw3
    replace hD := hD.next hw3
    go_wp2_with fail
    go_meet
    exact ⟨rfl, hD⟩
  case rest =>
  clear hD CP CS CR hsz
  obtain ⟨rfl, hD⟩ := hcut
  obtain ⟨t0, t1, t2, f0, f1, f2⟩ := RowAt.c3 (hD.get 0 rfl)
  clear f0 f1 f2
  go_upto_region 7 with (first
    | ((with_reducible refine (C1.out _).mono ?_); rintro e wn ⟨rfl, hwn⟩; replace hD := hD.next hwn; clear hwn t0 t1 t2; obtain ⟨t0, t1, t2, -⟩ := RowAt.c3 (hD.get 0 rfl))
    | ((with_reducible refine (C2.out _).mono ?_); rintro e wn ⟨rfl, hwn⟩; replace hD := hD.next hwn; clear hwn t0 t1 t2; obtain ⟨t0, t1, t2, -⟩ := RowAt.c3 (hD.get 0 rfl))
    | ((with_reducible refine (C3.out _).mono ?_); rintro e wn ⟨rfl, hwn⟩; replace hD := hD.next hwn; clear hwn t0 t1 t2; obtain ⟨t0, t1, t2, -⟩ := RowAt.c3 (hD.get 0 rfl)))
  clear C1 C2 C3
  go_wp2_with fail
  clear t0 t1 t2
  go_loopw [3, 5, 48] (fun v3 v5 v wr => ∃ k : Nat, k ≤ L.length ∧ v3 = .string (SK k) ∧ v5 = .int .i64 (AK k) ∧ v = .int .i64 k ∧ Hold w wr [rowR w.heap.size (.slice q L.length c) [.string H, .int .i64 N]]) (fun _ _ v _ => L.length - (intOf v).toNat)
  case atStart => exact ⟨0, by omega, rfl, rfl, rfl, hD⟩
  case round =>
  clear hD
  obtain ⟨k, hk, rfl, rfl, rfl, hD⟩ := hrel
  by_cases hlt : k < L.length
  · have i0 : (0 : Int) ≤ (k : Int) := by omega
    have i1 : (k : Int) < (L.length : Int) := by omega
    obtain ⟨g, o, rfl, a1, a2⟩ := (HA0.out.up hD.up) k hlt
    obtain ⟨S1, A1, c1, c2⟩ := HST.out k hlt
    have C1 := Lib.hid c1
    have C2 := Lib.hid c2
    clear c1 c2
    generalize L[k] = p at *
    obtain ⟨pk, pv⟩ := p
    simp only at a1 a2 C1 C2
    generalize SK k = s0 at *
    generalize AK k = a0 at *
    have hE : Hold w (wr.alloc (.cells #[.string pk, .string pv] 44)) _ := hD.madeRow (.string pk) [.string pv] 44
    have rp := RowAt.made wr 44 [.string pk, .string pv]
    go_upto_region 10 with fail
    clear hD a1 a2
    generalize wr.heap.size = g8 at *
    generalize wr.alloc _ = w8 at *
    obtain ⟨p0, p1, -⟩ := rp.c2
    go_wp2_with (first
      | ((with_reducible refine (C1.out _).mono ?_); rintro e wn ⟨rfl, hwn⟩; replace hE := hE.next hwn; replace rp := rp.up hwn; clear hwn p0 p1; obtain ⟨p0, p1, -⟩ := rp.c2)
      | ((with_reducible refine (C2.out _).mono ?_); rintro e wn ⟨rfl, hwn⟩; replace hE := hE.next hwn; replace rp := rp.up hwn; clear hwn p0 p1; obtain ⟨p0, p1, -⟩ := rp.c2))
    exact ⟨⟨k + 1, by omega, rfl, rfl, by go_num, hE.drop⟩, by simp [intOf]; omega⟩
  · have i1 : ¬ (k : Int) < (L.length : Int) := by omega
    obtain rfl : k = L.length := by omega
    go_wp2_with fail
    go_ret
    exact ⟨rfl, hD.up⟩
end Go.Proofs.Ytdlcmbnbfghdmaa
