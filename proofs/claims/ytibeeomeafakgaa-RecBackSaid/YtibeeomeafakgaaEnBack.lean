import Derived.Test.YtibeeomeafakgaaEnLaws
namespace Go.Proofs.Ytibeeomeafakgaa
open Go.RowKit Bw
set_option linter.unusedVariables false

set_option maxHeartbeats 1000000 in
set_option maxRecDepth 100000 in
theorem back_yes (F : RecD) (hl : F.l.length ≤ 40) (hR : F.rightR = true) (r0 : RecD) (p0 : Option Addr) (c0 : Nat) (s : ByteArray) (h2 : (s.extract 0 (min (s.size : Int) 600).toNat).size ≤ 600) (w : World)
    (C0 : Hid (∀ w1, Up w w1 → Calls Try.prog 10 #[.agg #[.int .i64 (r0).k, .int .i64 (r0).t, .string (r0).key, .string (r0).val, .int .i64 (r0).p, .int .i64 (r0).u, .int .i64 (r0).n, .slice p0 r0.l.length c0]] w1 fun e w' => ∃ q d, e = .returned (.agg #[.int .i64 (F).k, .int .i64 (F).t, .string (F).key, .string (F).val, .int .i64 (F).p, .int .i64 (F).u, .int .i64 (F).n, .slice q F.l.length d]) ∧ PairsAt w' q F.l ∧ InB w1.heap.size w'.heap.size q ∧ Below w1.heap.size w1 w')) :
    Calls Try.prog 5 #[.agg #[.int .i64 (r0).k, .int .i64 (r0).t, .string (r0).key, .string (r0).val, .int .i64 (r0).p, .int .i64 (r0).u, .int .i64 (r0).n, .slice p0 r0.l.length c0], .string s] w fun e w' => e = .returned (.bool true) ∧ Below w.heap.size w w' := by
  have hdec : decD F.enc = F ∧ decE F.enc = 0 := by
    have h := decO_enc hR
    exact ⟨by rw [decD, h]; rfl, by rw [decE, h]; rfl⟩
  have CE : ∀ w q d, PairsAt w q F.l → Calls Try.prog 14 #[.agg #[.int .i64 (F).k, .int .i64 (F).t, .string (F).key, .string (F).val, .int .i64 (F).p, .int .i64 (F).u, .int .i64 (F).n, .slice q F.l.length d]] w fun e w' => e = .returned (.string F.enc) ∧ Below w.heap.size w w' := fun w q d h => cEnc F q d w h (by omega)
  have CR : ∀ w q d, PairsAt w q F.l → Calls Try.prog 11 #[.agg #[.int .i64 (F).k, .int .i64 (F).t, .string (F).key, .string (F).val, .int .i64 (F).p, .int .i64 (F).u, .int .i64 (F).n, .slice q F.l.length d]] w fun e w' => e = .returned (.bool true) ∧ Below w.heap.size w w' := fun w q d h => by rw [← hR]; exact cRight F q d w h (by omega)
  have CD : ∀ w, Calls Try.prog 23 #[.string F.enc] w fun e w' => ∃ q c, e = .returned (.tuple #[.agg #[.int .i64 (F).k, .int .i64 (F).t, .string (F).key, .string (F).val, .int .i64 (F).p, .int .i64 (F).u, .int .i64 (F).n, .slice q (F).l.length c], .int .i64 0]) ∧ PairsAt w' q (F).l ∧ Below w.heap.size w w' := fun w => by
    have := cDec F.enc (by have := enc_size hl; omega) w
    rw [hdec.1, hdec.2] at this
    exact this
  have CS : ∀ w q q' d d', PairsAt w q F.l → PairsAt w q' F.l → Calls Try.prog 16 #[.agg #[.int .i64 (F).k, .int .i64 (F).t, .string (F).key, .string (F).val, .int .i64 (F).p, .int .i64 (F).u, .int .i64 (F).n, .slice q F.l.length d], .agg #[.int .i64 (F).k, .int .i64 (F).t, .string (F).key, .string (F).val, .int .i64 (F).p, .int .i64 (F).u, .int .i64 (F).n, .slice q' F.l.length d']] w fun e w' => e = .returned (.bool true) ∧ Below w.heap.size w w' := fun w q q' d d' h1 h2 => by
    have := cSame F F q q' d d' w h1 h2 (by omega) (by omega)
    rw [RecD.same_refl] at this
    exact this
  have C1 := Lib.hid CE; have C2 := Lib.hid CR; have C3 := Lib.hid CD; have C4 := Lib.hid CS
  clear CE CR CD CS hdec hR
  have hu := Up.refl w
  go_enter Try.func5, Try.ntmps5
  go_upto_region 1 with fail
  have r2 : RowAt (w.alloc (.cells #[.int .i64 (r0).k, .int .i64 (r0).t, .string (r0).key, .string (r0).val, .int .i64 (r0).p, .int .i64 (r0).u, .int .i64 (r0).n, .slice p0 r0.l.length c0] 24)) w.heap.size [.int .i64 (r0).k, .int .i64 (r0).t, .string (r0).key, .string (r0).val, .int .i64 (r0).p, .int .i64 (r0).u, .int .i64 (r0).n, .slice p0 r0.l.length c0] := RowAt.made w _ _
  replace hu := hu.alloc (.cells #[.int .i64 (r0).k, .int .i64 (r0).t, .string (r0).key, .string (r0).val, .int .i64 (r0).p, .int .i64 (r0).u, .int .i64 (r0).n, .slice p0 r0.l.length c0] 24)
  generalize w.alloc (.cells #[.int .i64 (r0).k, .int .i64 (r0).t, .string (r0).key, .string (r0).val, .int .i64 (r0).p, .int .i64 (r0).u, .int .i64 (r0).n, .slice p0 r0.l.length c0] 24) = w1 at *
  have lt2 := r2.lt
  obtain ⟨x0, x1, x2, x3, x4, x5, x6, x7, z0, z1, z2, z3, z4, z5, z6, z7⟩ := r2.c8
  go_upto_region 2 with ((with_reducible refine (C0.out _ hu).mono ?_); rintro e w2 ⟨q, d, rfl, hP, hB, hw⟩; replace r2 := r2.up hw; replace hu := hu.next hw; clear hw; clear x0 x1 x2 x3 x4 x5 x6 x7 z0 z1 z2 z3 z4 z5 z6 z7; obtain ⟨x0, x1, x2, x3, x4, x5, x6, x7, z0, z1, z2, z3, z4, z5, z6, z7⟩ := r2.c8)
  change Code.wp _ _ _ _ (set8 w2 w.heap.size F (.slice q F.l.length d))
  clear x0 x1 x2 x3 x4 x5 x6 x7 z0 z1 z2 z3 z4 z5 z6 z7 C0
  replace r2 := set8_row r2 F (.slice q F.l.length d)
  replace hP := set8_pairs hP hB F (.slice q F.l.length d) lt2
  replace hu := set8_up hu F (.slice q F.l.length d) (Nat.le_refl _)
  clear hB
  generalize set8 w2 w.heap.size F (.slice q F.l.length d) = w3 at *
  obtain ⟨x0, x1, x2, x3, x4, x5, x6, x7, -⟩ := r2.c8
  go_upto_region 3 with fail
  generalize hs2 : s.extract 0 (min (s.size : Int) 600).toNat = s2 at *
  clear hs2
  go_upto_region 4 with (((with_reducible refine (C1.out _ _ _ hP).mono ?_); rintro e wn ⟨rfl, hw⟩; replace r2 := r2.up hw; replace hP := PairsAt.up hP hw; replace hu := hu.next hw; clear hw; clear x0 x1 x2 x3 x4 x5 x6 x7; obtain ⟨x0, x1, x2, x3, x4, x5, x6, x7, -⟩ := r2.c8))
  go_upto_region 5 with ((with_reducible refine (C3.out _).mono ?_); rintro e wn ⟨q6, d6, rfl, hP6, hw⟩; replace r2 := r2.up hw; replace hP := PairsAt.up hP hw; replace hu := hu.next hw; clear hw)
  clear x0 x1 x2 x3 x4 x5 x6 x7
  have r6 : RowAt (wn.alloc (.cells #[.int .i64 (F).k, .int .i64 (F).t, .string (F).key, .string (F).val, .int .i64 (F).p, .int .i64 (F).u, .int .i64 (F).n, .slice q6 (F).l.length d6] 24)) wn.heap.size [.int .i64 (F).k, .int .i64 (F).t, .string (F).key, .string (F).val, .int .i64 (F).p, .int .i64 (F).u, .int .i64 (F).n, .slice q6 (F).l.length d6] := RowAt.made wn _ _
  replace r2 := r2.alloc (.cells #[.int .i64 (F).k, .int .i64 (F).t, .string (F).key, .string (F).val, .int .i64 (F).p, .int .i64 (F).u, .int .i64 (F).n, .slice q6 (F).l.length d6] 24)
  replace hP := PairsAt.up hP ((Up.refl _).alloc (.cells #[.int .i64 (F).k, .int .i64 (F).t, .string (F).key, .string (F).val, .int .i64 (F).p, .int .i64 (F).u, .int .i64 (F).n, .slice q6 (F).l.length d6] 24))
  replace hP6 := PairsAt.up hP6 ((Up.refl _).alloc (.cells #[.int .i64 (F).k, .int .i64 (F).t, .string (F).key, .string (F).val, .int .i64 (F).p, .int .i64 (F).u, .int .i64 (F).n, .slice q6 (F).l.length d6] 24))
  replace hu := hu.alloc (.cells #[.int .i64 (F).k, .int .i64 (F).t, .string (F).key, .string (F).val, .int .i64 (F).p, .int .i64 (F).u, .int .i64 (F).n, .slice q6 (F).l.length d6] 24)
  generalize wn.heap.size = g6 at *
  generalize wn.alloc (.cells #[.int .i64 (F).k, .int .i64 (F).t, .string (F).key, .string (F).val, .int .i64 (F).p, .int .i64 (F).u, .int .i64 (F).n, .slice q6 (F).l.length d6] 24) = w4 at *
  obtain ⟨x0, x1, x2, x3, x4, x5, x6, x7, -⟩ := r2.c8
  obtain ⟨t0, t1, t2, t3, t4, t5, t6, t7, -⟩ := r6.c8
  go_upto_region 7 with (first
    | ((with_reducible refine (C2.out _ _ _ hP).mono ?_); rintro e wn ⟨rfl, hw⟩; replace r2 := r2.up hw; replace r6 := r6.up hw; replace hP := PairsAt.up hP hw; replace hP6 := PairsAt.up hP6 hw; replace hu := hu.next hw; clear hw; clear x0 x1 x2 x3 x4 x5 x6 x7 t0 t1 t2 t3 t4 t5 t6 t7; obtain ⟨x0, x1, x2, x3, x4, x5, x6, x7, -⟩ := r2.c8; obtain ⟨t0, t1, t2, t3, t4, t5, t6, t7, -⟩ := r6.c8)
    | ((with_reducible refine (C4.out _ _ _ _ _ hP hP6).mono ?_); rintro e wn ⟨rfl, hw⟩; replace r2 := r2.up hw; replace r6 := r6.up hw; replace hP := PairsAt.up hP hw; replace hP6 := PairsAt.up hP6 hw; replace hu := hu.next hw; clear hw; clear x0 x1 x2 x3 x4 x5 x6 x7 t0 t1 t2 t3 t4 t5 t6 t7; obtain ⟨x0, x1, x2, x3, x4, x5, x6, x7, -⟩ := r2.c8; obtain ⟨t0, t1, t2, t3, t4, t5, t6, t7, -⟩ := r6.c8))
  clear C4
  clear x0 x1 x2 x3 x4 x5 x6 x7 t0 t1 t2 t3 t4 t5 t6 t7 r2 r6 hP hP6 C1 C2 C3
  have C9 := Lib.hid law5_fixed
  cases hX : decO s2 with
  | none =>
    have CD : ∀ w, Calls Try.prog 23 #[.string s2] w fun e w' => ∃ q c, e = .returned (.tuple #[.agg #[.int .i64 0, .int .i64 0, .string ⟨#[]⟩, .string ⟨#[]⟩, .int .i64 0, .int .i64 0, .int .i64 0, .slice q 0 c], .int .i64 4]) ∧ Below w.heap.size w w' := fun w => by
      have := cDec s2 (by omega) w
      have hd := no_dec (s := s2) (by rw [hX]; rfl)
      rw [hd.1, hd.2] at this
      exact this.mono fun e w' ⟨q, c, h1, _, h3⟩ => ⟨q, c, h1, h3⟩
    have CS : ∀ w q c, Calls Try.prog 16 #[.agg #[.int .i64 0, .int .i64 0, .string ⟨#[]⟩, .string ⟨#[]⟩, .int .i64 0, .int .i64 0, .int .i64 0, .slice q 0 c], .agg #[.int .i64 0, .int .i64 0, .string ⟨#[]⟩, .string ⟨#[]⟩, .int .i64 0, .int .i64 0, .int .i64 0, .slice none 0 0]] w fun e w' => e = .returned (.bool true) ∧ Below w.heap.size w w' := fun w q c => by
      have := cSame noneR noneR q none c 0 w (PairsAt.nil _ _) (PairsAt.nil _ _) (by decide) (by decide)
      rw [RecD.same_refl] at this
      exact this
    have C3 := Lib.hid CD; have C4 := Lib.hid CS
    clear CD CS hX
    go_upto_region 8 with ((with_reducible refine (C3.out _).mono ?_); rintro e wn ⟨q8, d8, rfl, hw⟩; replace hu := hu.next hw; clear hw)
    have r8 : RowAt (wn.alloc (.cells #[.int .i64 0, .int .i64 0, .string ⟨#[]⟩, .string ⟨#[]⟩, .int .i64 0, .int .i64 0, .int .i64 0, .slice q8 0 d8] 24)) wn.heap.size [.int .i64 0, .int .i64 0, .string ⟨#[]⟩, .string ⟨#[]⟩, .int .i64 0, .int .i64 0, .int .i64 0, .slice q8 0 d8] := RowAt.made wn _ _
    replace hu := hu.alloc (.cells #[.int .i64 0, .int .i64 0, .string ⟨#[]⟩, .string ⟨#[]⟩, .int .i64 0, .int .i64 0, .int .i64 0, .slice q8 0 d8] 24)
    generalize wn.heap.size = g8 at *
    generalize wn.alloc (.cells #[.int .i64 0, .int .i64 0, .string ⟨#[]⟩, .string ⟨#[]⟩, .int .i64 0, .int .i64 0, .int .i64 0, .slice q8 0 d8] 24) = w4 at *
    obtain ⟨s0, s1, s2', s3, s4, s5, s6, s7, -⟩ := r8.c8
    go_wp2_with (first
      | ((with_reducible refine (C4.out _ _ _).mono ?_); rintro e wn ⟨rfl, hw⟩; replace hu := hu.next hw; clear hw)
      | ((with_reducible refine (C9.out _).mono ?_); rintro e wn ⟨rfl, hw⟩; replace hu := hu.next hw; clear hw))
    go_ret
    exact ⟨rfl, hu⟩
  | some X =>
    obtain ⟨hXr, hXe⟩ := enc_decO hX
    have hXl := decO_len hX
    have CD : ∀ w, Calls Try.prog 23 #[.string s2] w fun e w' => ∃ q c, e = .returned (.tuple #[.agg #[.int .i64 (X).k, .int .i64 (X).t, .string (X).key, .string (X).val, .int .i64 (X).p, .int .i64 (X).u, .int .i64 (X).n, .slice q X.l.length c], .int .i64 0]) ∧ PairsAt w' q X.l ∧ Below w.heap.size w w' := fun w => by
      have := cDec s2 (by omega) w
      rw [show decD s2 = X by rw [decD, hX]; rfl, show decE s2 = 0 by rw [decE, hX]; rfl] at this
      exact this
    have CR : ∀ w q d, PairsAt w q X.l → Calls Try.prog 11 #[.agg #[.int .i64 (X).k, .int .i64 (X).t, .string (X).key, .string (X).val, .int .i64 (X).p, .int .i64 (X).u, .int .i64 (X).n, .slice q X.l.length d]] w fun e w' => e = .returned (.bool true) ∧ Below w.heap.size w w' := fun w q d h => by rw [← hXr]; exact cRight X q d w h hXl
    have CE : ∀ w q d, PairsAt w q X.l → Calls Try.prog 14 #[.agg #[.int .i64 (X).k, .int .i64 (X).t, .string (X).key, .string (X).val, .int .i64 (X).p, .int .i64 (X).u, .int .i64 (X).n, .slice q X.l.length d]] w fun e w' => e = .returned (.string s2) ∧ Below w.heap.size w w' := fun w q d h => by rw [← hXe]; exact cEnc X q d w h hXl
    have C3 := Lib.hid CD; have C4 := Lib.hid CR; have C5 := Lib.hid CE
    clear CD CR CE hX hXr hXe
    go_upto_region 8 with ((with_reducible refine (C3.out _).mono ?_); rintro e wn ⟨q8, d8, rfl, hP8, hw⟩; replace hu := hu.next hw; clear hw)
    have r8 : RowAt (wn.alloc (.cells #[.int .i64 (X).k, .int .i64 (X).t, .string (X).key, .string (X).val, .int .i64 (X).p, .int .i64 (X).u, .int .i64 (X).n, .slice q8 X.l.length d8] 24)) wn.heap.size [.int .i64 (X).k, .int .i64 (X).t, .string (X).key, .string (X).val, .int .i64 (X).p, .int .i64 (X).u, .int .i64 (X).n, .slice q8 X.l.length d8] := RowAt.made wn _ _
    replace hP8 := PairsAt.up hP8 ((Up.refl _).alloc (.cells #[.int .i64 (X).k, .int .i64 (X).t, .string (X).key, .string (X).val, .int .i64 (X).p, .int .i64 (X).u, .int .i64 (X).n, .slice q8 X.l.length d8] 24))
    replace hu := hu.alloc (.cells #[.int .i64 (X).k, .int .i64 (X).t, .string (X).key, .string (X).val, .int .i64 (X).p, .int .i64 (X).u, .int .i64 (X).n, .slice q8 X.l.length d8] 24)
    generalize wn.heap.size = g8 at *
    generalize wn.alloc (.cells #[.int .i64 (X).k, .int .i64 (X).t, .string (X).key, .string (X).val, .int .i64 (X).p, .int .i64 (X).u, .int .i64 (X).n, .slice q8 X.l.length d8] 24) = w4 at *
    obtain ⟨s0, s1, s2', s3, s4, s5, s6, s7, -⟩ := r8.c8
    have heq : (s2.toList == s2.toList) = true := by simp
    go_wp2_with (first
      | ((with_reducible refine (C4.out _ _ _ hP8).mono ?_); rintro e wn ⟨rfl, hw⟩; replace r8 := r8.up hw; replace hP8 := PairsAt.up hP8 hw; replace hu := hu.next hw; clear hw; clear s0 s1 s2' s3 s4 s5 s6 s7; obtain ⟨s0, s1, s2', s3, s4, s5, s6, s7, -⟩ := r8.c8)
      | ((with_reducible refine (C5.out _ _ _ hP8).mono ?_); rintro e wn ⟨rfl, hw⟩; replace r8 := r8.up hw; replace hP8 := PairsAt.up hP8 hw; replace hu := hu.next hw; clear hw; clear s0 s1 s2' s3 s4 s5 s6 s7; obtain ⟨s0, s1, s2', s3, s4, s5, s6, s7, -⟩ := r8.c8)
      | ((with_reducible refine (C9.out _).mono ?_); rintro e wn ⟨rfl, hw⟩; replace hu := hu.next hw; clear hw))
    go_ret
    exact ⟨rfl, hu⟩
set_option maxHeartbeats 1000000 in
set_option maxRecDepth 100000 in
theorem back_no (F : RecD) (hl : F.l.length ≤ 40) (hR : F.rightR = false) (r0 : RecD) (p0 : Option Addr) (c0 : Nat) (s : ByteArray) (h2 : (s.extract 0 (min (s.size : Int) 600).toNat).size ≤ 600) (w : World)
    (C0 : Hid (∀ w1, Up w w1 → Calls Try.prog 10 #[.agg #[.int .i64 (r0).k, .int .i64 (r0).t, .string (r0).key, .string (r0).val, .int .i64 (r0).p, .int .i64 (r0).u, .int .i64 (r0).n, .slice p0 r0.l.length c0]] w1 fun e w' => ∃ q d, e = .returned (.agg #[.int .i64 (F).k, .int .i64 (F).t, .string (F).key, .string (F).val, .int .i64 (F).p, .int .i64 (F).u, .int .i64 (F).n, .slice q F.l.length d]) ∧ PairsAt w' q F.l ∧ InB w1.heap.size w'.heap.size q ∧ Below w1.heap.size w1 w')) :
    Calls Try.prog 5 #[.agg #[.int .i64 (r0).k, .int .i64 (r0).t, .string (r0).key, .string (r0).val, .int .i64 (r0).p, .int .i64 (r0).u, .int .i64 (r0).n, .slice p0 r0.l.length c0], .string s] w fun e w' => e = .returned (.bool true) ∧ Below w.heap.size w w' := by
  have hE : F.enc = ⟨#[]⟩ := by rw [RecD.enc, hR]; rfl
  have hdec : decD F.enc = noneR ∧ decE F.enc = 4 := by rw [hE]; exact d0_dec
  have CE : ∀ w q d, PairsAt w q F.l → Calls Try.prog 14 #[.agg #[.int .i64 (F).k, .int .i64 (F).t, .string (F).key, .string (F).val, .int .i64 (F).p, .int .i64 (F).u, .int .i64 (F).n, .slice q F.l.length d]] w fun e w' => e = .returned (.string F.enc) ∧ Below w.heap.size w w' := fun w q d h => cEnc F q d w h (by omega)
  have CR : ∀ w q d, PairsAt w q F.l → Calls Try.prog 11 #[.agg #[.int .i64 (F).k, .int .i64 (F).t, .string (F).key, .string (F).val, .int .i64 (F).p, .int .i64 (F).u, .int .i64 (F).n, .slice q F.l.length d]] w fun e w' => e = .returned (.bool false) ∧ Below w.heap.size w w' := fun w q d h => by rw [← hR]; exact cRight F q d w h (by omega)
  have CD : ∀ w, Calls Try.prog 23 #[.string F.enc] w fun e w' => ∃ q c, e = .returned (.tuple #[.agg #[.int .i64 (noneR).k, .int .i64 (noneR).t, .string (noneR).key, .string (noneR).val, .int .i64 (noneR).p, .int .i64 (noneR).u, .int .i64 (noneR).n, .slice q (noneR).l.length c], .int .i64 4]) ∧ PairsAt w' q (noneR).l ∧ Below w.heap.size w w' := fun w => by
    have := cDec F.enc (by have := enc_size hl; omega) w
    rw [hdec.1, hdec.2] at this
    exact this
  rw [hE] at CE CD
  have C1 := Lib.hid CE; have C2 := Lib.hid CR; have C3 := Lib.hid CD
  clear CE CR CD hdec hR hE
  have hu := Up.refl w
  go_enter Try.func5, Try.ntmps5
  go_upto_region 1 with fail
  have r2 : RowAt (w.alloc (.cells #[.int .i64 (r0).k, .int .i64 (r0).t, .string (r0).key, .string (r0).val, .int .i64 (r0).p, .int .i64 (r0).u, .int .i64 (r0).n, .slice p0 r0.l.length c0] 24)) w.heap.size [.int .i64 (r0).k, .int .i64 (r0).t, .string (r0).key, .string (r0).val, .int .i64 (r0).p, .int .i64 (r0).u, .int .i64 (r0).n, .slice p0 r0.l.length c0] := RowAt.made w _ _
  replace hu := hu.alloc (.cells #[.int .i64 (r0).k, .int .i64 (r0).t, .string (r0).key, .string (r0).val, .int .i64 (r0).p, .int .i64 (r0).u, .int .i64 (r0).n, .slice p0 r0.l.length c0] 24)
  generalize w.alloc (.cells #[.int .i64 (r0).k, .int .i64 (r0).t, .string (r0).key, .string (r0).val, .int .i64 (r0).p, .int .i64 (r0).u, .int .i64 (r0).n, .slice p0 r0.l.length c0] 24) = w1 at *
  have lt2 := r2.lt
  obtain ⟨x0, x1, x2, x3, x4, x5, x6, x7, z0, z1, z2, z3, z4, z5, z6, z7⟩ := r2.c8
  go_upto_region 2 with ((with_reducible refine (C0.out _ hu).mono ?_); rintro e w2 ⟨q, d, rfl, hP, hB, hw⟩; replace r2 := r2.up hw; replace hu := hu.next hw; clear hw; clear x0 x1 x2 x3 x4 x5 x6 x7 z0 z1 z2 z3 z4 z5 z6 z7; obtain ⟨x0, x1, x2, x3, x4, x5, x6, x7, z0, z1, z2, z3, z4, z5, z6, z7⟩ := r2.c8)
  change Code.wp _ _ _ _ (set8 w2 w.heap.size F (.slice q F.l.length d))
  clear x0 x1 x2 x3 x4 x5 x6 x7 z0 z1 z2 z3 z4 z5 z6 z7 C0
  replace r2 := set8_row r2 F (.slice q F.l.length d)
  replace hP := set8_pairs hP hB F (.slice q F.l.length d) lt2
  replace hu := set8_up hu F (.slice q F.l.length d) (Nat.le_refl _)
  clear hB
  generalize set8 w2 w.heap.size F (.slice q F.l.length d) = w3 at *
  obtain ⟨x0, x1, x2, x3, x4, x5, x6, x7, -⟩ := r2.c8
  go_upto_region 3 with fail
  generalize hs2 : s.extract 0 (min (s.size : Int) 600).toNat = s2 at *
  clear hs2
  go_upto_region 4 with (((with_reducible refine (C1.out _ _ _ hP).mono ?_); rintro e wn ⟨rfl, hw⟩; replace r2 := r2.up hw; replace hP := PairsAt.up hP hw; replace hu := hu.next hw; clear hw; clear x0 x1 x2 x3 x4 x5 x6 x7; obtain ⟨x0, x1, x2, x3, x4, x5, x6, x7, -⟩ := r2.c8))
  go_upto_region 5 with ((with_reducible refine (C3.out _).mono ?_); rintro e wn ⟨q6, d6, rfl, hP6, hw⟩; replace r2 := r2.up hw; replace hP := PairsAt.up hP hw; replace hu := hu.next hw; clear hw)
  clear x0 x1 x2 x3 x4 x5 x6 x7
  have r6 : RowAt (wn.alloc (.cells #[.int .i64 (noneR).k, .int .i64 (noneR).t, .string (noneR).key, .string (noneR).val, .int .i64 (noneR).p, .int .i64 (noneR).u, .int .i64 (noneR).n, .slice q6 (noneR).l.length d6] 24)) wn.heap.size [.int .i64 (noneR).k, .int .i64 (noneR).t, .string (noneR).key, .string (noneR).val, .int .i64 (noneR).p, .int .i64 (noneR).u, .int .i64 (noneR).n, .slice q6 (noneR).l.length d6] := RowAt.made wn _ _
  replace r2 := r2.alloc (.cells #[.int .i64 (noneR).k, .int .i64 (noneR).t, .string (noneR).key, .string (noneR).val, .int .i64 (noneR).p, .int .i64 (noneR).u, .int .i64 (noneR).n, .slice q6 (noneR).l.length d6] 24)
  replace hP := PairsAt.up hP ((Up.refl _).alloc (.cells #[.int .i64 (noneR).k, .int .i64 (noneR).t, .string (noneR).key, .string (noneR).val, .int .i64 (noneR).p, .int .i64 (noneR).u, .int .i64 (noneR).n, .slice q6 (noneR).l.length d6] 24))
  replace hP6 := PairsAt.up hP6 ((Up.refl _).alloc (.cells #[.int .i64 (noneR).k, .int .i64 (noneR).t, .string (noneR).key, .string (noneR).val, .int .i64 (noneR).p, .int .i64 (noneR).u, .int .i64 (noneR).n, .slice q6 (noneR).l.length d6] 24))
  replace hu := hu.alloc (.cells #[.int .i64 (noneR).k, .int .i64 (noneR).t, .string (noneR).key, .string (noneR).val, .int .i64 (noneR).p, .int .i64 (noneR).u, .int .i64 (noneR).n, .slice q6 (noneR).l.length d6] 24)
  generalize wn.heap.size = g6 at *
  generalize wn.alloc (.cells #[.int .i64 (noneR).k, .int .i64 (noneR).t, .string (noneR).key, .string (noneR).val, .int .i64 (noneR).p, .int .i64 (noneR).u, .int .i64 (noneR).n, .slice q6 (noneR).l.length d6] 24) = w4 at *
  obtain ⟨x0, x1, x2, x3, x4, x5, x6, x7, -⟩ := r2.c8
  obtain ⟨t0, t1, t2, t3, t4, t5, t6, t7, -⟩ := r6.c8
  go_upto_region 7 with (first
    | ((with_reducible refine (C2.out _ _ _ hP).mono ?_); rintro e wn ⟨rfl, hw⟩; replace r2 := r2.up hw; replace r6 := r6.up hw; replace hP := PairsAt.up hP hw; replace hP6 := PairsAt.up hP6 hw; replace hu := hu.next hw; clear hw; clear x0 x1 x2 x3 x4 x5 x6 x7 t0 t1 t2 t3 t4 t5 t6 t7; obtain ⟨x0, x1, x2, x3, x4, x5, x6, x7, -⟩ := r2.c8; obtain ⟨t0, t1, t2, t3, t4, t5, t6, t7, -⟩ := r6.c8))
  clear x0 x1 x2 x3 x4 x5 x6 x7 t0 t1 t2 t3 t4 t5 t6 t7 r2 r6 hP hP6 C1 C2 C3
  have C9 := Lib.hid law5_fixed
  cases hX : decO s2 with
  | none =>
    have CD : ∀ w, Calls Try.prog 23 #[.string s2] w fun e w' => ∃ q c, e = .returned (.tuple #[.agg #[.int .i64 0, .int .i64 0, .string ⟨#[]⟩, .string ⟨#[]⟩, .int .i64 0, .int .i64 0, .int .i64 0, .slice q 0 c], .int .i64 4]) ∧ Below w.heap.size w w' := fun w => by
      have := cDec s2 (by omega) w
      have hd := no_dec (s := s2) (by rw [hX]; rfl)
      rw [hd.1, hd.2] at this
      exact this.mono fun e w' ⟨q, c, h1, _, h3⟩ => ⟨q, c, h1, h3⟩
    have CS : ∀ w q c, Calls Try.prog 16 #[.agg #[.int .i64 0, .int .i64 0, .string ⟨#[]⟩, .string ⟨#[]⟩, .int .i64 0, .int .i64 0, .int .i64 0, .slice q 0 c], .agg #[.int .i64 0, .int .i64 0, .string ⟨#[]⟩, .string ⟨#[]⟩, .int .i64 0, .int .i64 0, .int .i64 0, .slice none 0 0]] w fun e w' => e = .returned (.bool true) ∧ Below w.heap.size w w' := fun w q c => by
      have := cSame noneR noneR q none c 0 w (PairsAt.nil _ _) (PairsAt.nil _ _) (by decide) (by decide)
      rw [RecD.same_refl] at this
      exact this
    have C3 := Lib.hid CD; have C4 := Lib.hid CS
    clear CD CS hX
    go_upto_region 8 with ((with_reducible refine (C3.out _).mono ?_); rintro e wn ⟨q8, d8, rfl, hw⟩; replace hu := hu.next hw; clear hw)
    have r8 : RowAt (wn.alloc (.cells #[.int .i64 0, .int .i64 0, .string ⟨#[]⟩, .string ⟨#[]⟩, .int .i64 0, .int .i64 0, .int .i64 0, .slice q8 0 d8] 24)) wn.heap.size [.int .i64 0, .int .i64 0, .string ⟨#[]⟩, .string ⟨#[]⟩, .int .i64 0, .int .i64 0, .int .i64 0, .slice q8 0 d8] := RowAt.made wn _ _
    replace hu := hu.alloc (.cells #[.int .i64 0, .int .i64 0, .string ⟨#[]⟩, .string ⟨#[]⟩, .int .i64 0, .int .i64 0, .int .i64 0, .slice q8 0 d8] 24)
    generalize wn.heap.size = g8 at *
    generalize wn.alloc (.cells #[.int .i64 0, .int .i64 0, .string ⟨#[]⟩, .string ⟨#[]⟩, .int .i64 0, .int .i64 0, .int .i64 0, .slice q8 0 d8] 24) = w4 at *
    obtain ⟨s0, s1, s2', s3, s4, s5, s6, s7, -⟩ := r8.c8
    go_wp2_with (first
      | ((with_reducible refine (C4.out _ _ _).mono ?_); rintro e wn ⟨rfl, hw⟩; replace hu := hu.next hw; clear hw)
      | ((with_reducible refine (C9.out _).mono ?_); rintro e wn ⟨rfl, hw⟩; replace hu := hu.next hw; clear hw))
    go_ret
    exact ⟨rfl, hu⟩
  | some X =>
    obtain ⟨hXr, hXe⟩ := enc_decO hX
    have hXl := decO_len hX
    have CD : ∀ w, Calls Try.prog 23 #[.string s2] w fun e w' => ∃ q c, e = .returned (.tuple #[.agg #[.int .i64 (X).k, .int .i64 (X).t, .string (X).key, .string (X).val, .int .i64 (X).p, .int .i64 (X).u, .int .i64 (X).n, .slice q X.l.length c], .int .i64 0]) ∧ PairsAt w' q X.l ∧ Below w.heap.size w w' := fun w => by
      have := cDec s2 (by omega) w
      rw [show decD s2 = X by rw [decD, hX]; rfl, show decE s2 = 0 by rw [decE, hX]; rfl] at this
      exact this
    have CR : ∀ w q d, PairsAt w q X.l → Calls Try.prog 11 #[.agg #[.int .i64 (X).k, .int .i64 (X).t, .string (X).key, .string (X).val, .int .i64 (X).p, .int .i64 (X).u, .int .i64 (X).n, .slice q X.l.length d]] w fun e w' => e = .returned (.bool true) ∧ Below w.heap.size w w' := fun w q d h => by rw [← hXr]; exact cRight X q d w h hXl
    have CE : ∀ w q d, PairsAt w q X.l → Calls Try.prog 14 #[.agg #[.int .i64 (X).k, .int .i64 (X).t, .string (X).key, .string (X).val, .int .i64 (X).p, .int .i64 (X).u, .int .i64 (X).n, .slice q X.l.length d]] w fun e w' => e = .returned (.string s2) ∧ Below w.heap.size w w' := fun w q d h => by rw [← hXe]; exact cEnc X q d w h hXl
    have C3 := Lib.hid CD; have C4 := Lib.hid CR; have C5 := Lib.hid CE
    clear CD CR CE hX hXr hXe
    go_upto_region 8 with ((with_reducible refine (C3.out _).mono ?_); rintro e wn ⟨q8, d8, rfl, hP8, hw⟩; replace hu := hu.next hw; clear hw)
    have r8 : RowAt (wn.alloc (.cells #[.int .i64 (X).k, .int .i64 (X).t, .string (X).key, .string (X).val, .int .i64 (X).p, .int .i64 (X).u, .int .i64 (X).n, .slice q8 X.l.length d8] 24)) wn.heap.size [.int .i64 (X).k, .int .i64 (X).t, .string (X).key, .string (X).val, .int .i64 (X).p, .int .i64 (X).u, .int .i64 (X).n, .slice q8 X.l.length d8] := RowAt.made wn _ _
    replace hP8 := PairsAt.up hP8 ((Up.refl _).alloc (.cells #[.int .i64 (X).k, .int .i64 (X).t, .string (X).key, .string (X).val, .int .i64 (X).p, .int .i64 (X).u, .int .i64 (X).n, .slice q8 X.l.length d8] 24))
    replace hu := hu.alloc (.cells #[.int .i64 (X).k, .int .i64 (X).t, .string (X).key, .string (X).val, .int .i64 (X).p, .int .i64 (X).u, .int .i64 (X).n, .slice q8 X.l.length d8] 24)
    generalize wn.heap.size = g8 at *
    generalize wn.alloc (.cells #[.int .i64 (X).k, .int .i64 (X).t, .string (X).key, .string (X).val, .int .i64 (X).p, .int .i64 (X).u, .int .i64 (X).n, .slice q8 X.l.length d8] 24) = w4 at *
    obtain ⟨s0, s1, s2', s3, s4, s5, s6, s7, -⟩ := r8.c8
    have heq : (s2.toList == s2.toList) = true := by simp
    go_wp2_with (first
      | ((with_reducible refine (C4.out _ _ _ hP8).mono ?_); rintro e wn ⟨rfl, hw⟩; replace r8 := r8.up hw; replace hP8 := PairsAt.up hP8 hw; replace hu := hu.next hw; clear hw; clear s0 s1 s2' s3 s4 s5 s6 s7; obtain ⟨s0, s1, s2', s3, s4, s5, s6, s7, -⟩ := r8.c8)
      | ((with_reducible refine (C5.out _ _ _ hP8).mono ?_); rintro e wn ⟨rfl, hw⟩; replace r8 := r8.up hw; replace hP8 := PairsAt.up hP8 hw; replace hu := hu.next hw; clear hw; clear s0 s1 s2' s3 s4 s5 s6 s7; obtain ⟨s0, s1, s2', s3, s4, s5, s6, s7, -⟩ := r8.c8)
      | ((with_reducible refine (C9.out _).mono ?_); rintro e wn ⟨rfl, hw⟩; replace hu := hu.next hw; clear hw))
    go_ret
    exact ⟨rfl, hu⟩

theorem cut600_size (s : ByteArray) : (s.extract 0 (min (s.size : Int) 600).toNat).size ≤ 600 := by
  rw [ByteArray.size_extract]; omega

theorem back_law (r0 : RecD) (p0 : Option Addr) (c0 : Nat) (w : World) (hA : RecIn w r0 p0) (s : ByteArray) (hs : s.size ≤ maxLen) :
    Calls Try.prog 5 #[.agg #[.int .i64 (r0).k, .int .i64 (r0).t, .string (r0).key, .string (r0).val, .int .i64 (r0).p, .int .i64 (r0).u, .int .i64 (r0).n, .slice p0 r0.l.length c0], .string s] w fun e w' => e = .returned (.bool true) ∧ Below w.heap.size w w' := by
  have C0 := Lib.hid (fun w1 (h : Up w w1) => cut_call r0 p0 c0 w1 (recIn_up hA h))
  cases hR : (cutR r0).rightR
  · exact back_no (cutR r0) (cutR_l r0) hR r0 p0 c0 s (cut600_size s) w C0
  · exact back_yes (cutR r0) (cutR_l r0) hR r0 p0 c0 s (cut600_size s) w C0
end Go.Proofs.Ytibeeomeafakgaa
