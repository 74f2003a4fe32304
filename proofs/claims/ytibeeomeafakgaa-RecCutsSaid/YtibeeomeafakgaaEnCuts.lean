import Derived.Test.YtibeeomeafakgaaEnLaws
namespace Go.Proofs.Ytibeeomeafakgaa
open Go.RowKit Bw
set_option linter.unusedVariables false

set_option maxHeartbeats 1000000 in
set_option maxRecDepth 100000 in
theorem cuts_no (F : RecD) (hl : F.l.length ≤ 40) (k : Int) (hR : F.rightR = false) (r0 : RecD) (p0 : Option Addr) (c0 : Nat) (w : World)
    (C0 : Hid (∀ w1, Up w w1 → Calls Try.prog 10 #[.agg #[.int .i64 (r0).k, .int .i64 (r0).t, .string (r0).key, .string (r0).val, .int .i64 (r0).p, .int .i64 (r0).u, .int .i64 (r0).n, .slice p0 r0.l.length c0]] w1 fun e w' => ∃ q d, e = .returned (.agg #[.int .i64 (F).k, .int .i64 (F).t, .string (F).key, .string (F).val, .int .i64 (F).p, .int .i64 (F).u, .int .i64 (F).n, .slice q F.l.length d]) ∧ PairsAt w' q F.l ∧ InB w1.heap.size w'.heap.size q ∧ Below w1.heap.size w1 w')) :
    Calls Try.prog 6 #[.agg #[.int .i64 (r0).k, .int .i64 (r0).t, .string (r0).key, .string (r0).val, .int .i64 (r0).p, .int .i64 (r0).u, .int .i64 (r0).n, .slice p0 r0.l.length c0], .int .i64 k] w fun e w' => e = .returned (.bool true) ∧ Below w.heap.size w w' := by
  have hE : F.enc = ⟨#[]⟩ := by rw [RecD.enc, hR]; rfl
  have C2 := Lib.hid (show ∀ w q d, PairsAt w q F.l → Calls Try.prog 11 #[.agg #[.int .i64 (F).k, .int .i64 (F).t, .string (F).key, .string (F).val, .int .i64 (F).p, .int .i64 (F).u, .int .i64 (F).n, .slice q F.l.length d]] w fun e w' => e = .returned (.bool false) ∧ Below w.heap.size w w' from fun w q d hh => by rw [← hR]; exact cRight F q d w hh (by omega))
  have C1 := Lib.hid (show ∀ w q d, PairsAt w q F.l → Calls Try.prog 14 #[.agg #[.int .i64 (F).k, .int .i64 (F).t, .string (F).key, .string (F).val, .int .i64 (F).p, .int .i64 (F).u, .int .i64 (F).n, .slice q F.l.length d]] w fun e w' => e = .returned (.string ⟨#[]⟩) ∧ Below w.heap.size w w' from fun w q d hh => by rw [← hE]; exact cEnc F q d w hh (by omega))
  have C9 := Lib.hid law5_fixed
  have hu := Up.refl w
  clear hR hE
  go_enter Try.func6, Try.ntmps6
  go_upto_region 1 with fail
  have r2 : RowAt (w.alloc (.cells #[.int .i64 (r0).k, .int .i64 (r0).t, .string (r0).key, .string (r0).val, .int .i64 (r0).p, .int .i64 (r0).u, .int .i64 (r0).n, .slice p0 r0.l.length c0] 24)) w.heap.size [.int .i64 (r0).k, .int .i64 (r0).t, .string (r0).key, .string (r0).val, .int .i64 (r0).p, .int .i64 (r0).u, .int .i64 (r0).n, .slice p0 r0.l.length c0] := RowAt.made w _ _
  replace hu := hu.alloc (.cells #[.int .i64 (r0).k, .int .i64 (r0).t, .string (r0).key, .string (r0).val, .int .i64 (r0).p, .int .i64 (r0).u, .int .i64 (r0).n, .slice p0 r0.l.length c0] 24)
  generalize w.alloc (.cells #[.int .i64 (r0).k, .int .i64 (r0).t, .string (r0).key, .string (r0).val, .int .i64 (r0).p, .int .i64 (r0).u, .int .i64 (r0).n, .slice p0 r0.l.length c0] 24) = w1 at *
  have lt2 := r2.lt
  obtain ⟨x0, x1, x2, x3, x4, x5, x6, x7, z0, z1, z2, z3, z4, z5, z6, z7⟩ := r2.c8
  go_upto_region 2 with ((with_reducible refine (C0.out _ hu).mono ?_); rintro e w2 ⟨q, d, rfl, hP, hB, hw⟩; replace r2 := r2.up hw; replace hu := hu.next hw; clear hw; clear x0 x1 x2 x3 x4 x5 x6 x7 z0 z1 z2 z3 z4 z5 z6 z7; obtain ⟨x0, x1, x2, x3, x4, x5, x6, x7, z0, z1, z2, z3, z4, z5, z6, z7⟩ := r2.c8)
  change Code.wp _ _ _ _ (set8 w2 w.heap.size F (.slice q F.l.length d))
  clear x0 x1 x2 x3 x4 x5 x6 x7 z0 z1 z2 z3 z4 z5 z6 z7 C0
  replace r2 := set8_row r2 F (.slice q F.l.length d)
  replace hP := set8_pairs hP hB F (.slice q F.l.length d) lt2
  replace hu := set8_up hu F (.slice q F.l.length d) (Nat.le_refl _)
  clear hB
  generalize set8 w2 w.heap.size F (.slice q F.l.length d) = w3 at *
  obtain ⟨x0, x1, x2, x3, x4, x5, x6, x7, -⟩ := r2.c8
  go_wp2_with (first
    | ((with_reducible refine (C1.out _ _ _ hP).mono ?_); rintro e wn ⟨rfl, hw⟩; replace r2 := r2.up hw; replace hP := PairsAt.up hP hw; replace hu := hu.next hw; clear hw; clear x0 x1 x2 x3 x4 x5 x6 x7; obtain ⟨x0, x1, x2, x3, x4, x5, x6, x7, -⟩ := r2.c8)
    | ((with_reducible refine (C2.out _ _ _ hP).mono ?_); rintro e wn ⟨rfl, hw⟩; replace r2 := r2.up hw; replace hP := PairsAt.up hP hw; replace hu := hu.next hw; clear hw; clear x0 x1 x2 x3 x4 x5 x6 x7; obtain ⟨x0, x1, x2, x3, x4, x5, x6, x7, -⟩ := r2.c8)
    | ((with_reducible refine (C9.out _).mono ?_); rintro e wn ⟨rfl, hw⟩; replace hu := hu.next hw; clear hw))
  go_ret
  exact ⟨rfl, hu⟩
theorem and_mask (k : Int) (m : Nat) (hm : m < 9223372036854775808) : ∃ n : Nat, n ≤ m ∧ bits .and .i64 k m = n := by
  refine ⟨(BitVec.ofInt 64 k).toNat &&& (BitVec.ofInt 64 (m : Int)).toNat, ?_, ?_⟩
  · refine Nat.le_trans Nat.and_le_right ?_
    rw [BitVec.ofInt_natCast, BitVec.toNat_ofNat]
    exact Nat.mod_le _ _
  · have hle : (BitVec.ofInt 64 k).toNat &&& (BitVec.ofInt 64 (m : Int)).toNat ≤ m := by
      refine Nat.le_trans Nat.and_le_right ?_
      rw [BitVec.ofInt_natCast, BitVec.toNat_ofNat]
      exact Nat.mod_le _ _
    show IntKind.i64.wrap ((BitVec.ofInt 64 k &&& BitVec.ofInt 64 (m : Int)).toNat : Int) = _
    rw [BitVec.toNat_and, IntKind.wrap_i64]
    omega
theorem byte_any (k : Int) : k % 256 = (((UInt8.ofNat (k % 256).toNat).toNat : Nat) : Int) := by
  rw [UInt8.toNat_ofNat']; omega
set_option maxHeartbeats 1000000 in
set_option maxRecDepth 100000 in
theorem cuts_yes (F : RecD) (hl : F.l.length ≤ 40) (k : Int) (hR : F.rightR = true) (P : ByteArray) (hE : F.enc = P) (hz : 0 < P.size) (hz2 : P.size ≤ 10000) (n m : Nat) (hn : bits .and .i64 k 65535 = (n : Int)) (hmm : (n : Int).tmod (P.size : Int) = (m : Int)) (hm : m < P.size) (B : UInt8) (hB : k % 256 = (B.toNat : Int)) (hd1 : (decO (P.extract 0 m)).isNone = true) (hd2 : (decO (P ++ str [B])).isNone = true) (r0 : RecD) (p0 : Option Addr) (c0 : Nat) (w : World)
    (C0 : Hid (∀ w1, Up w w1 → Calls Try.prog 10 #[.agg #[.int .i64 (r0).k, .int .i64 (r0).t, .string (r0).key, .string (r0).val, .int .i64 (r0).p, .int .i64 (r0).u, .int .i64 (r0).n, .slice p0 r0.l.length c0]] w1 fun e w' => ∃ q d, e = .returned (.agg #[.int .i64 (F).k, .int .i64 (F).t, .string (F).key, .string (F).val, .int .i64 (F).p, .int .i64 (F).u, .int .i64 (F).n, .slice q F.l.length d]) ∧ PairsAt w' q F.l ∧ InB w1.heap.size w'.heap.size q ∧ Below w1.heap.size w1 w')) :
    Calls Try.prog 6 #[.agg #[.int .i64 (r0).k, .int .i64 (r0).t, .string (r0).key, .string (r0).val, .int .i64 (r0).p, .int .i64 (r0).u, .int .i64 (r0).n, .slice p0 r0.l.length c0], .int .i64 k] w fun e w' => e = .returned (.bool true) ∧ Below w.heap.size w w' := by
  have C2 := Lib.hid (show ∀ w q d, PairsAt w q F.l → Calls Try.prog 11 #[.agg #[.int .i64 (F).k, .int .i64 (F).t, .string (F).key, .string (F).val, .int .i64 (F).p, .int .i64 (F).u, .int .i64 (F).n, .slice q F.l.length d]] w fun e w' => e = .returned (.bool true) ∧ Below w.heap.size w w' from fun w q d hh => by rw [← hR]; exact cRight F q d w hh (by omega))
  have C1 := Lib.hid (show ∀ w q d, PairsAt w q F.l → Calls Try.prog 14 #[.agg #[.int .i64 (F).k, .int .i64 (F).t, .string (F).key, .string (F).val, .int .i64 (F).p, .int .i64 (F).u, .int .i64 (F).n, .slice q F.l.length d]] w fun e w' => e = .returned (.string P) ∧ Below w.heap.size w w' from fun w q d hh => by rw [← hE]; exact cEnc F q d w hh (by omega))
  have C9 := Lib.hid law5_fixed
  have dec4 : ∀ s : ByteArray, s.size ≤ 10001 → (decO s).isNone = true → ∀ w, Calls Try.prog 23 #[.string s] w fun e w' => ∃ q c, e = .returned (.tuple #[.agg #[.int .i64 0, .int .i64 0, .string ⟨#[]⟩, .string ⟨#[]⟩, .int .i64 0, .int .i64 0, .int .i64 0, .slice q 0 c], .int .i64 4]) ∧ Below w.heap.size w w' := fun s hs hd w => by
    have := cDec s (by omega) w
    have hd := no_dec (s := s) hd
    rw [hd.1, hd.2] at this
    exact this.mono fun e w' ⟨q, c, h1, _, h3⟩ => ⟨q, c, h1, h3⟩
  have C3 := Lib.hid (dec4 (P.extract 0 m) (by rw [ByteArray.size_extract]; omega) hd1)
  have C4 := Lib.hid (dec4 (P ++ str [B]) (by rw [ByteArray.size_append, size_str, List.length_cons, List.length_nil]; omega) hd2)
  have hone := fun w e => bytes_one w e B
  rw [← hB] at hone
  have HO := Lib.hid hone
  have hu := Up.refl w
  clear hR hE dec4 hd1 hd2 hB hone
  have hP0 : ¬ (P.size : Int) = 0 := by omega
  have hP1 : ((P.size : Int) == 0) = false := beq_eq_false_iff_ne.2 hP0
  have hcat : ¬ 9223372036854775807 < P.size + (str [B]).size := by rw [size_str]; simp only [List.length_cons, List.length_nil]; omega
  have hm1 : (m : Int) ≤ (P.size : Int) := by omega
  go_enter Try.func6, Try.ntmps6
  go_upto_region 1 with fail
  have r2 : RowAt (w.alloc (.cells #[.int .i64 (r0).k, .int .i64 (r0).t, .string (r0).key, .string (r0).val, .int .i64 (r0).p, .int .i64 (r0).u, .int .i64 (r0).n, .slice p0 r0.l.length c0] 24)) w.heap.size [.int .i64 (r0).k, .int .i64 (r0).t, .string (r0).key, .string (r0).val, .int .i64 (r0).p, .int .i64 (r0).u, .int .i64 (r0).n, .slice p0 r0.l.length c0] := RowAt.made w _ _
  replace hu := hu.alloc (.cells #[.int .i64 (r0).k, .int .i64 (r0).t, .string (r0).key, .string (r0).val, .int .i64 (r0).p, .int .i64 (r0).u, .int .i64 (r0).n, .slice p0 r0.l.length c0] 24)
  generalize w.alloc (.cells #[.int .i64 (r0).k, .int .i64 (r0).t, .string (r0).key, .string (r0).val, .int .i64 (r0).p, .int .i64 (r0).u, .int .i64 (r0).n, .slice p0 r0.l.length c0] 24) = w1 at *
  have lt2 := r2.lt
  obtain ⟨x0, x1, x2, x3, x4, x5, x6, x7, z0, z1, z2, z3, z4, z5, z6, z7⟩ := r2.c8
  go_upto_region 2 with ((with_reducible refine (C0.out _ hu).mono ?_); rintro e w2 ⟨q, d, rfl, hP, hB, hw⟩; replace r2 := r2.up hw; replace hu := hu.next hw; clear hw; clear x0 x1 x2 x3 x4 x5 x6 x7 z0 z1 z2 z3 z4 z5 z6 z7; obtain ⟨x0, x1, x2, x3, x4, x5, x6, x7, z0, z1, z2, z3, z4, z5, z6, z7⟩ := r2.c8)
  change Code.wp _ _ _ _ (set8 w2 w.heap.size F (.slice q F.l.length d))
  clear x0 x1 x2 x3 x4 x5 x6 x7 z0 z1 z2 z3 z4 z5 z6 z7 C0
  replace r2 := set8_row r2 F (.slice q F.l.length d)
  replace hP := set8_pairs hP hB F (.slice q F.l.length d) lt2
  replace hu := set8_up hu F (.slice q F.l.length d) (Nat.le_refl _)
  clear hB
  generalize set8 w2 w.heap.size F (.slice q F.l.length d) = w3 at *
  obtain ⟨x0, x1, x2, x3, x4, x5, x6, x7, -⟩ := r2.c8
  go_upto_region 7 with (first
    | ((with_reducible refine (C1.out _ _ _ hP).mono ?_); rintro e wn ⟨rfl, hw⟩; replace r2 := r2.up hw; replace hP := PairsAt.up hP hw; replace hu := hu.next hw; clear hw; clear x0 x1 x2 x3 x4 x5 x6 x7; obtain ⟨x0, x1, x2, x3, x4, x5, x6, x7, -⟩ := r2.c8)
    | ((with_reducible refine (C2.out _ _ _ hP).mono ?_); rintro e wn ⟨rfl, hw⟩; replace r2 := r2.up hw; replace hP := PairsAt.up hP hw; replace hu := hu.next hw; clear hw; clear x0 x1 x2 x3 x4 x5 x6 x7; obtain ⟨x0, x1, x2, x3, x4, x5, x6, x7, -⟩ := r2.c8))
  clear x0 x1 x2 x3 x4 x5 x6 x7 r2 hP C1 C2
  go_upto_region 8 with ((with_reducible refine (C3.out _).mono ?_); rintro e wn ⟨q6, d6, rfl, hw⟩; replace hu := hu.next hw; clear hw)
  replace hu := hu.alloc (.cells #[.int .i64 0, .int .i64 0, .string ⟨#[]⟩, .string ⟨#[]⟩, .int .i64 0, .int .i64 0, .int .i64 0, .slice q6 0 d6] 24)
  generalize wn.alloc (.cells #[.int .i64 0, .int .i64 0, .string ⟨#[]⟩, .string ⟨#[]⟩, .int .i64 0, .int .i64 0, .int .i64 0, .slice q6 0 d6] 24) = w4 at *
  have hua := hu.alloc (.cells #[.int .u8 (k % 256)] 5)
  go_upto_region 9 with (first
    | (with_reducible refine wpList_toString rfl _ 43 9 5 rfl Try.underlying43 Try.underlying9 Try.underlying5 [B] w4.heap.size 0 1 1 rfl (by simp) (HO.out _ _) ?_)
    | ((with_reducible refine (C4.out _).mono ?_); rintro e wm ⟨q8, d8, rfl, hw⟩; replace hu := hua.next hw; clear hw))
  replace hu := hu.alloc (.cells #[.int .i64 0, .int .i64 0, .string ⟨#[]⟩, .string ⟨#[]⟩, .int .i64 0, .int .i64 0, .int .i64 0, .slice q8 0 d8] 24)
  generalize wm.alloc (.cells #[.int .i64 0, .int .i64 0, .string ⟨#[]⟩, .string ⟨#[]⟩, .int .i64 0, .int .i64 0, .int .i64 0, .slice q8 0 d8] 24) = w5 at *
  go_wp2_with ((with_reducible refine (C9.out _).mono ?_); rintro e wn ⟨rfl, hw⟩; replace hu := hu.next hw; clear hw)
  go_ret
  exact ⟨rfl, hu⟩

theorem cuts_law (r0 : RecD) (p0 : Option Addr) (c0 : Nat) (w : World) (hA : RecIn w r0 p0) (k : Int) (hk : (Lit.int .i64 k).wf = true) :
    Calls Try.prog 6 #[.agg #[.int .i64 (r0).k, .int .i64 (r0).t, .string (r0).key, .string (r0).val, .int .i64 (r0).p, .int .i64 (r0).u, .int .i64 (r0).n, .slice p0 r0.l.length c0], .int .i64 k] w fun e w' => e = .returned (.bool true) ∧ Below w.heap.size w w' := by
  have C0 := Lib.hid (fun w1 (h : Up w w1) => cut_call r0 p0 c0 w1 (recIn_up hA h))
  cases hR : (cutR r0).rightR
  · exact cuts_no (cutR r0) (cutR_l r0) k hR r0 p0 c0 w C0
  · have hL := cutR_l r0
    generalize cutR r0 = F at *
    obtain ⟨n, hn, hb⟩ := and_mask k 65535 (by omega)
    have hE : F.enc = str F.encL := by rw [RecD.enc, if_pos hR]
    have hsz : 0 < (str F.encL).size := by
      rw [size_str, RecD.encL, List.length_append, numL, toLE_length]; omega
    have h2 := enc_size hL
    rw [hE] at h2
    have hlen : (str F.encL).size = F.encL.length := size_str _
    refine cuts_yes F hL k hR (str F.encL) hE hsz h2 n (n % (str F.encL).size) hb ?_ (Nat.mod_lt _ hsz) _ (byte_any k) ?_ ?_ r0 p0 c0 w C0
    · rw [Int.tmod_eq_emod_of_nonneg (by omega)]; simp
    · have hm := Nat.mod_lt n hsz
      generalize n % (str F.encL).size = m at *
      have : (str F.encL).extract 0 m = str (F.encL.take m) := by
        apply lst_inj
        rw [lst_str]
        simp [lst, str, ByteArray.data_extract]
      rw [this, decO_part hR (l := F.encL.take m) (u := F.encL.drop m) (List.take_append_drop _ _).symm (by rw [Ne, List.drop_eq_nil_iff]; omega)]
      rfl
    · rw [str_append, decO_over hR _ (by simp)]
      rfl
end Go.Proofs.Ytibeeomeafakgaa
