import Derived.Test.YtibeeomeafakgaaEnLaws
namespace Go.Proofs.Ytibeeomeafakgaa
open Go.RowKit Bw
set_option linter.unusedVariables false

set_option maxHeartbeats 1000000 in
set_option maxRecDepth 100000 in
theorem own_na (F G : RecD) (hl : F.l.length ≤ 40) (hl' : G.l.length ≤ 40) (hR : F.rightR = false) (r0 r1 : RecD) (p0 p1 : Option Addr) (c0 c1 : Nat) (w : World)
    (C0 : Hid (∀ w1, Up w w1 → Calls Try.prog 10 #[.agg #[.int .i64 (r0).k, .int .i64 (r0).t, .string (r0).key, .string (r0).val, .int .i64 (r0).p, .int .i64 (r0).u, .int .i64 (r0).n, .slice p0 r0.l.length c0]] w1 fun e w' => ∃ q d, e = .returned (.agg #[.int .i64 (F).k, .int .i64 (F).t, .string (F).key, .string (F).val, .int .i64 (F).p, .int .i64 (F).u, .int .i64 (F).n, .slice q F.l.length d]) ∧ PairsAt w' q F.l ∧ InB w1.heap.size w'.heap.size q ∧ Below w1.heap.size w1 w'))
    (C1 : Hid (∀ w1, Up w w1 → Calls Try.prog 10 #[.agg #[.int .i64 (r1).k, .int .i64 (r1).t, .string (r1).key, .string (r1).val, .int .i64 (r1).p, .int .i64 (r1).u, .int .i64 (r1).n, .slice p1 r1.l.length c1]] w1 fun e w' => ∃ q d, e = .returned (.agg #[.int .i64 (G).k, .int .i64 (G).t, .string (G).key, .string (G).val, .int .i64 (G).p, .int .i64 (G).u, .int .i64 (G).n, .slice q G.l.length d]) ∧ PairsAt w' q G.l ∧ InB w1.heap.size w'.heap.size q ∧ Below w1.heap.size w1 w')) :
    Calls Try.prog 9 #[.agg #[.int .i64 (r0).k, .int .i64 (r0).t, .string (r0).key, .string (r0).val, .int .i64 (r0).p, .int .i64 (r0).u, .int .i64 (r0).n, .slice p0 r0.l.length c0], .agg #[.int .i64 (r1).k, .int .i64 (r1).t, .string (r1).key, .string (r1).val, .int .i64 (r1).p, .int .i64 (r1).u, .int .i64 (r1).n, .slice p1 r1.l.length c1]] w fun e w' => e = .returned (.bool true) ∧ Below w.heap.size w w' := by
  have C2 := Lib.hid (show ∀ w q d, PairsAt w q (F).l → Calls Try.prog 11 #[.agg #[.int .i64 (F).k, .int .i64 (F).t, .string (F).key, .string (F).val, .int .i64 (F).p, .int .i64 (F).u, .int .i64 (F).n, .slice q (F).l.length d]] w fun e w' => e = .returned (.bool false) ∧ Below w.heap.size w w' from fun w q d hh => by rw [← hR]; exact cRight F q d w hh (by omega))
  have C9 := Lib.hid law5_fixed
  have hu := Up.refl w
  clear hR
  go_enter Try.func9, Try.ntmps9
  go_upto_region 1 with fail
  have r2 := (RowAt.made w 24 [.int .i64 (r0).k, .int .i64 (r0).t, .string (r0).key, .string (r0).val, .int .i64 (r0).p, .int .i64 (r0).u, .int .i64 (r0).n, .slice p0 r0.l.length c0]).alloc (.cells #[.int .i64 (r1).k, .int .i64 (r1).t, .string (r1).key, .string (r1).val, .int .i64 (r1).p, .int .i64 (r1).u, .int .i64 (r1).n, .slice p1 r1.l.length c1] 24)
  have r3 := RowAt.made (w.alloc (.cells #[.int .i64 (r0).k, .int .i64 (r0).t, .string (r0).key, .string (r0).val, .int .i64 (r0).p, .int .i64 (r0).u, .int .i64 (r0).n, .slice p0 r0.l.length c0] 24)) 24 [.int .i64 (r1).k, .int .i64 (r1).t, .string (r1).key, .string (r1).val, .int .i64 (r1).p, .int .i64 (r1).u, .int .i64 (r1).n, .slice p1 r1.l.length c1]
  simp at r2 r3
  replace hu := (hu.alloc (.cells #[.int .i64 (r0).k, .int .i64 (r0).t, .string (r0).key, .string (r0).val, .int .i64 (r0).p, .int .i64 (r0).u, .int .i64 (r0).n, .slice p0 r0.l.length c0] 24)).alloc (.cells #[.int .i64 (r1).k, .int .i64 (r1).t, .string (r1).key, .string (r1).val, .int .i64 (r1).p, .int .i64 (r1).u, .int .i64 (r1).n, .slice p1 r1.l.length c1] 24)
  generalize (w.alloc (.cells #[.int .i64 (r0).k, .int .i64 (r0).t, .string (r0).key, .string (r0).val, .int .i64 (r0).p, .int .i64 (r0).u, .int .i64 (r0).n, .slice p0 r0.l.length c0] 24)).alloc (.cells #[.int .i64 (r1).k, .int .i64 (r1).t, .string (r1).key, .string (r1).val, .int .i64 (r1).p, .int .i64 (r1).u, .int .i64 (r1).n, .slice p1 r1.l.length c1] 24) = w1 at *
  have lt2 := r2.lt
  have lt3 := r3.lt
  obtain ⟨x0, x1, x2, x3, x4, x5, x6, x7, z0, z1, z2, z3, z4, z5, z6, z7⟩ := r2.c8
  go_upto_region 2 with ((with_reducible refine (C0.out _ hu).mono ?_); rintro e w2 ⟨q, d, rfl, hP, hB, hw⟩; have sz := Below.size hw; replace r2 := r2.up hw; replace r3 := r3.up hw; replace hu := hu.next hw; clear hw; clear x0 x1 x2 x3 x4 x5 x6 x7 z0 z1 z2 z3 z4 z5 z6 z7; obtain ⟨x0, x1, x2, x3, x4, x5, x6, x7, z0, z1, z2, z3, z4, z5, z6, z7⟩ := r2.c8)
  change Code.wp _ _ _ _ (set8 w2 w.heap.size F (.slice q F.l.length d))
  clear x0 x1 x2 x3 x4 x5 x6 x7 z0 z1 z2 z3 z4 z5 z6 z7 C0
  replace r2 := set8_row r2 F (.slice q F.l.length d)
  replace r3 := set8_other (g := w.heap.size) r3 F (.slice q F.l.length d) (by omega)
  replace hP := set8_pairs hP hB F (.slice q F.l.length d) lt2
  replace hu := set8_up hu F (.slice q F.l.length d) (Nat.le_refl _)
  have sz2 := set8_size w2 w.heap.size F (.slice q F.l.length d)
  generalize set8 w2 w.heap.size F (.slice q F.l.length d) = w3 at *
  obtain ⟨x0, x1, x2, x3, x4, x5, x6, x7, z0, z1, z2, z3, z4, z5, z6, z7⟩ := r3.c8
  go_upto_region 3 with ((with_reducible refine (C1.out _ hu).mono ?_); rintro e w4 ⟨q', d', rfl, hQ, hD, hw⟩; replace r2 := r2.up hw; replace r3 := r3.up hw; replace hP := PairsAt.up hP hw; replace hu := hu.next hw; clear hw; clear x0 x1 x2 x3 x4 x5 x6 x7 z0 z1 z2 z3 z4 z5 z6 z7; obtain ⟨x0, x1, x2, x3, x4, x5, x6, x7, z0, z1, z2, z3, z4, z5, z6, z7⟩ := r3.c8)
  change Code.wp _ _ _ _ (set8 w4 (w.heap.size + 1) G (.slice q' G.l.length d'))
  clear x0 x1 x2 x3 x4 x5 x6 x7 z0 z1 z2 z3 z4 z5 z6 z7 C1
  replace r3 := set8_row r3 G (.slice q' G.l.length d')
  replace r2 := set8_other (g := w.heap.size + 1) r2 G (.slice q' G.l.length d') (by omega)
  replace hP := set8_pairs hP hB G (.slice q' G.l.length d') lt3
  replace hQ := set8_pairs (g := w.heap.size + 1) hQ hD G (.slice q' G.l.length d') (by omega)
  replace hu := set8_up (g := w.heap.size + 1) hu G (.slice q' G.l.length d') (by omega)
  clear hB hD sz sz2
  generalize set8 w4 (w.heap.size + 1) G (.slice q' G.l.length d') = w5 at *
  obtain ⟨x0, x1, x2, x3, x4, x5, x6, x7, -⟩ := r2.c8
  obtain ⟨s0, s1, s2, s3, s4, s5, s6, s7, -⟩ := r3.c8
  go_wp2_with (first
    | ((with_reducible refine (C2.out _ _ _ hP).mono ?_); rintro e wn ⟨rfl, hw⟩; replace r2 := r2.up hw; replace r3 := r3.up hw; replace hP := PairsAt.up hP hw; replace hQ := PairsAt.up hQ hw; replace hu := hu.next hw; clear hw; clear x0 x1 x2 x3 x4 x5 x6 x7 s0 s1 s2 s3 s4 s5 s6 s7; obtain ⟨x0, x1, x2, x3, x4, x5, x6, x7, -⟩ := r2.c8; obtain ⟨s0, s1, s2, s3, s4, s5, s6, s7, -⟩ := r3.c8)
    | ((with_reducible refine (C9.out _).mono ?_); rintro e wn ⟨rfl, hw⟩; replace hu := hu.next hw; clear hw))
  go_ret
  exact ⟨rfl, hu⟩
set_option maxHeartbeats 1000000 in
set_option maxRecDepth 100000 in
theorem own_nb (F G : RecD) (hl : F.l.length ≤ 40) (hl' : G.l.length ≤ 40) (hR : F.rightR = true) (hR' : G.rightR = false) (r0 r1 : RecD) (p0 p1 : Option Addr) (c0 c1 : Nat) (w : World)
    (C0 : Hid (∀ w1, Up w w1 → Calls Try.prog 10 #[.agg #[.int .i64 (r0).k, .int .i64 (r0).t, .string (r0).key, .string (r0).val, .int .i64 (r0).p, .int .i64 (r0).u, .int .i64 (r0).n, .slice p0 r0.l.length c0]] w1 fun e w' => ∃ q d, e = .returned (.agg #[.int .i64 (F).k, .int .i64 (F).t, .string (F).key, .string (F).val, .int .i64 (F).p, .int .i64 (F).u, .int .i64 (F).n, .slice q F.l.length d]) ∧ PairsAt w' q F.l ∧ InB w1.heap.size w'.heap.size q ∧ Below w1.heap.size w1 w'))
    (C1 : Hid (∀ w1, Up w w1 → Calls Try.prog 10 #[.agg #[.int .i64 (r1).k, .int .i64 (r1).t, .string (r1).key, .string (r1).val, .int .i64 (r1).p, .int .i64 (r1).u, .int .i64 (r1).n, .slice p1 r1.l.length c1]] w1 fun e w' => ∃ q d, e = .returned (.agg #[.int .i64 (G).k, .int .i64 (G).t, .string (G).key, .string (G).val, .int .i64 (G).p, .int .i64 (G).u, .int .i64 (G).n, .slice q G.l.length d]) ∧ PairsAt w' q G.l ∧ InB w1.heap.size w'.heap.size q ∧ Below w1.heap.size w1 w')) :
    Calls Try.prog 9 #[.agg #[.int .i64 (r0).k, .int .i64 (r0).t, .string (r0).key, .string (r0).val, .int .i64 (r0).p, .int .i64 (r0).u, .int .i64 (r0).n, .slice p0 r0.l.length c0], .agg #[.int .i64 (r1).k, .int .i64 (r1).t, .string (r1).key, .string (r1).val, .int .i64 (r1).p, .int .i64 (r1).u, .int .i64 (r1).n, .slice p1 r1.l.length c1]] w fun e w' => e = .returned (.bool true) ∧ Below w.heap.size w w' := by
  have C2 := Lib.hid (show ∀ w q d, PairsAt w q (F).l → Calls Try.prog 11 #[.agg #[.int .i64 (F).k, .int .i64 (F).t, .string (F).key, .string (F).val, .int .i64 (F).p, .int .i64 (F).u, .int .i64 (F).n, .slice q (F).l.length d]] w fun e w' => e = .returned (.bool true) ∧ Below w.heap.size w w' from fun w q d hh => by rw [← hR]; exact cRight F q d w hh (by omega))
  have C3 := Lib.hid (show ∀ w q d, PairsAt w q (G).l → Calls Try.prog 11 #[.agg #[.int .i64 (G).k, .int .i64 (G).t, .string (G).key, .string (G).val, .int .i64 (G).p, .int .i64 (G).u, .int .i64 (G).n, .slice q (G).l.length d]] w fun e w' => e = .returned (.bool false) ∧ Below w.heap.size w w' from fun w q d hh => by rw [← hR']; exact cRight G q d w hh (by omega))
  have C9 := Lib.hid law5_fixed
  have hu := Up.refl w
  clear hR hR'
  go_enter Try.func9, Try.ntmps9
  go_upto_region 1 with fail
  have r2 := (RowAt.made w 24 [.int .i64 (r0).k, .int .i64 (r0).t, .string (r0).key, .string (r0).val, .int .i64 (r0).p, .int .i64 (r0).u, .int .i64 (r0).n, .slice p0 r0.l.length c0]).alloc (.cells #[.int .i64 (r1).k, .int .i64 (r1).t, .string (r1).key, .string (r1).val, .int .i64 (r1).p, .int .i64 (r1).u, .int .i64 (r1).n, .slice p1 r1.l.length c1] 24)
  have r3 := RowAt.made (w.alloc (.cells #[.int .i64 (r0).k, .int .i64 (r0).t, .string (r0).key, .string (r0).val, .int .i64 (r0).p, .int .i64 (r0).u, .int .i64 (r0).n, .slice p0 r0.l.length c0] 24)) 24 [.int .i64 (r1).k, .int .i64 (r1).t, .string (r1).key, .string (r1).val, .int .i64 (r1).p, .int .i64 (r1).u, .int .i64 (r1).n, .slice p1 r1.l.length c1]
  simp at r2 r3
  replace hu := (hu.alloc (.cells #[.int .i64 (r0).k, .int .i64 (r0).t, .string (r0).key, .string (r0).val, .int .i64 (r0).p, .int .i64 (r0).u, .int .i64 (r0).n, .slice p0 r0.l.length c0] 24)).alloc (.cells #[.int .i64 (r1).k, .int .i64 (r1).t, .string (r1).key, .string (r1).val, .int .i64 (r1).p, .int .i64 (r1).u, .int .i64 (r1).n, .slice p1 r1.l.length c1] 24)
  generalize (w.alloc (.cells #[.int .i64 (r0).k, .int .i64 (r0).t, .string (r0).key, .string (r0).val, .int .i64 (r0).p, .int .i64 (r0).u, .int .i64 (r0).n, .slice p0 r0.l.length c0] 24)).alloc (.cells #[.int .i64 (r1).k, .int .i64 (r1).t, .string (r1).key, .string (r1).val, .int .i64 (r1).p, .int .i64 (r1).u, .int .i64 (r1).n, .slice p1 r1.l.length c1] 24) = w1 at *
  have lt2 := r2.lt
  have lt3 := r3.lt
  obtain ⟨x0, x1, x2, x3, x4, x5, x6, x7, z0, z1, z2, z3, z4, z5, z6, z7⟩ := r2.c8
  go_upto_region 2 with ((with_reducible refine (C0.out _ hu).mono ?_); rintro e w2 ⟨q, d, rfl, hP, hB, hw⟩; have sz := Below.size hw; replace r2 := r2.up hw; replace r3 := r3.up hw; replace hu := hu.next hw; clear hw; clear x0 x1 x2 x3 x4 x5 x6 x7 z0 z1 z2 z3 z4 z5 z6 z7; obtain ⟨x0, x1, x2, x3, x4, x5, x6, x7, z0, z1, z2, z3, z4, z5, z6, z7⟩ := r2.c8)
  change Code.wp _ _ _ _ (set8 w2 w.heap.size F (.slice q F.l.length d))
  clear x0 x1 x2 x3 x4 x5 x6 x7 z0 z1 z2 z3 z4 z5 z6 z7 C0
  replace r2 := set8_row r2 F (.slice q F.l.length d)
  replace r3 := set8_other (g := w.heap.size) r3 F (.slice q F.l.length d) (by omega)
  replace hP := set8_pairs hP hB F (.slice q F.l.length d) lt2
  replace hu := set8_up hu F (.slice q F.l.length d) (Nat.le_refl _)
  have sz2 := set8_size w2 w.heap.size F (.slice q F.l.length d)
  generalize set8 w2 w.heap.size F (.slice q F.l.length d) = w3 at *
  obtain ⟨x0, x1, x2, x3, x4, x5, x6, x7, z0, z1, z2, z3, z4, z5, z6, z7⟩ := r3.c8
  go_upto_region 3 with ((with_reducible refine (C1.out _ hu).mono ?_); rintro e w4 ⟨q', d', rfl, hQ, hD, hw⟩; replace r2 := r2.up hw; replace r3 := r3.up hw; replace hP := PairsAt.up hP hw; replace hu := hu.next hw; clear hw; clear x0 x1 x2 x3 x4 x5 x6 x7 z0 z1 z2 z3 z4 z5 z6 z7; obtain ⟨x0, x1, x2, x3, x4, x5, x6, x7, z0, z1, z2, z3, z4, z5, z6, z7⟩ := r3.c8)
  change Code.wp _ _ _ _ (set8 w4 (w.heap.size + 1) G (.slice q' G.l.length d'))
  clear x0 x1 x2 x3 x4 x5 x6 x7 z0 z1 z2 z3 z4 z5 z6 z7 C1
  replace r3 := set8_row r3 G (.slice q' G.l.length d')
  replace r2 := set8_other (g := w.heap.size + 1) r2 G (.slice q' G.l.length d') (by omega)
  replace hP := set8_pairs hP hB G (.slice q' G.l.length d') lt3
  replace hQ := set8_pairs (g := w.heap.size + 1) hQ hD G (.slice q' G.l.length d') (by omega)
  replace hu := set8_up (g := w.heap.size + 1) hu G (.slice q' G.l.length d') (by omega)
  clear hB hD sz sz2
  generalize set8 w4 (w.heap.size + 1) G (.slice q' G.l.length d') = w5 at *
  obtain ⟨x0, x1, x2, x3, x4, x5, x6, x7, -⟩ := r2.c8
  obtain ⟨s0, s1, s2, s3, s4, s5, s6, s7, -⟩ := r3.c8
  go_wp2_with (first
    | ((with_reducible refine (C2.out _ _ _ hP).mono ?_); rintro e wn ⟨rfl, hw⟩; replace r2 := r2.up hw; replace r3 := r3.up hw; replace hP := PairsAt.up hP hw; replace hQ := PairsAt.up hQ hw; replace hu := hu.next hw; clear hw; clear x0 x1 x2 x3 x4 x5 x6 x7 s0 s1 s2 s3 s4 s5 s6 s7; obtain ⟨x0, x1, x2, x3, x4, x5, x6, x7, -⟩ := r2.c8; obtain ⟨s0, s1, s2, s3, s4, s5, s6, s7, -⟩ := r3.c8)
    | ((with_reducible refine (C3.out _ _ _ hQ).mono ?_); rintro e wn ⟨rfl, hw⟩; replace r2 := r2.up hw; replace r3 := r3.up hw; replace hP := PairsAt.up hP hw; replace hQ := PairsAt.up hQ hw; replace hu := hu.next hw; clear hw; clear x0 x1 x2 x3 x4 x5 x6 x7 s0 s1 s2 s3 s4 s5 s6 s7; obtain ⟨x0, x1, x2, x3, x4, x5, x6, x7, -⟩ := r2.c8; obtain ⟨s0, s1, s2, s3, s4, s5, s6, s7, -⟩ := r3.c8)
    | ((with_reducible refine (C9.out _).mono ?_); rintro e wn ⟨rfl, hw⟩; replace hu := hu.next hw; clear hw))
  go_ret
  exact ⟨rfl, hu⟩
set_option maxHeartbeats 1000000 in
set_option maxRecDepth 100000 in
theorem own_yes (F G : RecD) (hl : F.l.length ≤ 40) (hl' : G.l.length ≤ 40) (hR : F.rightR = true) (hR' : G.rightR = true) (S : Bool) (hS : F.same G = S) (hE : (F.enc.toList == G.enc.toList) = S) (r0 r1 : RecD) (p0 p1 : Option Addr) (c0 c1 : Nat) (w : World)
    (C0 : Hid (∀ w1, Up w w1 → Calls Try.prog 10 #[.agg #[.int .i64 (r0).k, .int .i64 (r0).t, .string (r0).key, .string (r0).val, .int .i64 (r0).p, .int .i64 (r0).u, .int .i64 (r0).n, .slice p0 r0.l.length c0]] w1 fun e w' => ∃ q d, e = .returned (.agg #[.int .i64 (F).k, .int .i64 (F).t, .string (F).key, .string (F).val, .int .i64 (F).p, .int .i64 (F).u, .int .i64 (F).n, .slice q F.l.length d]) ∧ PairsAt w' q F.l ∧ InB w1.heap.size w'.heap.size q ∧ Below w1.heap.size w1 w'))
    (C1 : Hid (∀ w1, Up w w1 → Calls Try.prog 10 #[.agg #[.int .i64 (r1).k, .int .i64 (r1).t, .string (r1).key, .string (r1).val, .int .i64 (r1).p, .int .i64 (r1).u, .int .i64 (r1).n, .slice p1 r1.l.length c1]] w1 fun e w' => ∃ q d, e = .returned (.agg #[.int .i64 (G).k, .int .i64 (G).t, .string (G).key, .string (G).val, .int .i64 (G).p, .int .i64 (G).u, .int .i64 (G).n, .slice q G.l.length d]) ∧ PairsAt w' q G.l ∧ InB w1.heap.size w'.heap.size q ∧ Below w1.heap.size w1 w')) :
    Calls Try.prog 9 #[.agg #[.int .i64 (r0).k, .int .i64 (r0).t, .string (r0).key, .string (r0).val, .int .i64 (r0).p, .int .i64 (r0).u, .int .i64 (r0).n, .slice p0 r0.l.length c0], .agg #[.int .i64 (r1).k, .int .i64 (r1).t, .string (r1).key, .string (r1).val, .int .i64 (r1).p, .int .i64 (r1).u, .int .i64 (r1).n, .slice p1 r1.l.length c1]] w fun e w' => e = .returned (.bool true) ∧ Below w.heap.size w w' := by
  have C2 := Lib.hid (show ∀ w q d, PairsAt w q (F).l → Calls Try.prog 11 #[.agg #[.int .i64 (F).k, .int .i64 (F).t, .string (F).key, .string (F).val, .int .i64 (F).p, .int .i64 (F).u, .int .i64 (F).n, .slice q (F).l.length d]] w fun e w' => e = .returned (.bool true) ∧ Below w.heap.size w w' from fun w q d hh => by rw [← hR]; exact cRight F q d w hh (by omega))
  have C3 := Lib.hid (show ∀ w q d, PairsAt w q (G).l → Calls Try.prog 11 #[.agg #[.int .i64 (G).k, .int .i64 (G).t, .string (G).key, .string (G).val, .int .i64 (G).p, .int .i64 (G).u, .int .i64 (G).n, .slice q (G).l.length d]] w fun e w' => e = .returned (.bool true) ∧ Below w.heap.size w w' from fun w q d hh => by rw [← hR']; exact cRight G q d w hh (by omega))
  have hdec : decD F.enc = F ∧ decE F.enc = 0 := by
    have h := decO_enc hR
    exact ⟨by rw [decD, h]; rfl, by rw [decE, h]; rfl⟩
  have C4 := Lib.hid (show ∀ w q d, PairsAt w q F.l → Calls Try.prog 14 #[.agg #[.int .i64 (F).k, .int .i64 (F).t, .string (F).key, .string (F).val, .int .i64 (F).p, .int .i64 (F).u, .int .i64 (F).n, .slice q F.l.length d]] w fun e w' => e = .returned (.string F.enc) ∧ Below w.heap.size w w' from fun w q d hh => cEnc F q d w hh (by omega))
  have C5 := Lib.hid (show ∀ w q d, PairsAt w q G.l → Calls Try.prog 14 #[.agg #[.int .i64 (G).k, .int .i64 (G).t, .string (G).key, .string (G).val, .int .i64 (G).p, .int .i64 (G).u, .int .i64 (G).n, .slice q G.l.length d]] w fun e w' => e = .returned (.string G.enc) ∧ Below w.heap.size w w' from fun w q d hh => cEnc G q d w hh (by omega))
  have C6 := Lib.hid (show ∀ w, Calls Try.prog 23 #[.string F.enc] w fun e w' => ∃ q c, e = .returned (.tuple #[.agg #[.int .i64 (F).k, .int .i64 (F).t, .string (F).key, .string (F).val, .int .i64 (F).p, .int .i64 (F).u, .int .i64 (F).n, .slice q F.l.length c], .int .i64 0]) ∧ PairsAt w' q F.l ∧ Below w.heap.size w w' from fun w => by
    have := cDec F.enc (by have := enc_size hl; omega) w
    rw [hdec.1, hdec.2] at this
    exact this)
  have C7 := Lib.hid (show ∀ w q q' d d', PairsAt w q F.l → PairsAt w q' G.l → Calls Try.prog 16 #[.agg #[.int .i64 (F).k, .int .i64 (F).t, .string (F).key, .string (F).val, .int .i64 (F).p, .int .i64 (F).u, .int .i64 (F).n, .slice q F.l.length d], .agg #[.int .i64 (G).k, .int .i64 (G).t, .string (G).key, .string (G).val, .int .i64 (G).p, .int .i64 (G).u, .int .i64 (G).n, .slice q' G.l.length d']] w fun e w' => e = .returned (.bool S) ∧ Below w.heap.size w w' from fun w q q' d d' h1 h2 => by
    rw [← hS]; exact cSame F G q q' d d' w h1 h2 (by omega) (by omega))
  have C9 := Lib.hid law5_fixed
  have hu := Up.refl w
  have HE := Lib.hid hE
  clear hR hR' hS hdec hE
  generalize F.enc = EF at *
  generalize G.enc = EG at *
  go_enter Try.func9, Try.ntmps9
  go_upto_region 1 with fail
  have r2 := (RowAt.made w 24 [.int .i64 (r0).k, .int .i64 (r0).t, .string (r0).key, .string (r0).val, .int .i64 (r0).p, .int .i64 (r0).u, .int .i64 (r0).n, .slice p0 r0.l.length c0]).alloc (.cells #[.int .i64 (r1).k, .int .i64 (r1).t, .string (r1).key, .string (r1).val, .int .i64 (r1).p, .int .i64 (r1).u, .int .i64 (r1).n, .slice p1 r1.l.length c1] 24)
  have r3 := RowAt.made (w.alloc (.cells #[.int .i64 (r0).k, .int .i64 (r0).t, .string (r0).key, .string (r0).val, .int .i64 (r0).p, .int .i64 (r0).u, .int .i64 (r0).n, .slice p0 r0.l.length c0] 24)) 24 [.int .i64 (r1).k, .int .i64 (r1).t, .string (r1).key, .string (r1).val, .int .i64 (r1).p, .int .i64 (r1).u, .int .i64 (r1).n, .slice p1 r1.l.length c1]
  simp at r2 r3
  replace hu := (hu.alloc (.cells #[.int .i64 (r0).k, .int .i64 (r0).t, .string (r0).key, .string (r0).val, .int .i64 (r0).p, .int .i64 (r0).u, .int .i64 (r0).n, .slice p0 r0.l.length c0] 24)).alloc (.cells #[.int .i64 (r1).k, .int .i64 (r1).t, .string (r1).key, .string (r1).val, .int .i64 (r1).p, .int .i64 (r1).u, .int .i64 (r1).n, .slice p1 r1.l.length c1] 24)
  generalize (w.alloc (.cells #[.int .i64 (r0).k, .int .i64 (r0).t, .string (r0).key, .string (r0).val, .int .i64 (r0).p, .int .i64 (r0).u, .int .i64 (r0).n, .slice p0 r0.l.length c0] 24)).alloc (.cells #[.int .i64 (r1).k, .int .i64 (r1).t, .string (r1).key, .string (r1).val, .int .i64 (r1).p, .int .i64 (r1).u, .int .i64 (r1).n, .slice p1 r1.l.length c1] 24) = w1 at *
  have lt2 := r2.lt
  have lt3 := r3.lt
  obtain ⟨x0, x1, x2, x3, x4, x5, x6, x7, z0, z1, z2, z3, z4, z5, z6, z7⟩ := r2.c8
  go_upto_region 2 with ((with_reducible refine (C0.out _ hu).mono ?_); rintro e w2 ⟨q, d, rfl, hP, hB, hw⟩; have sz := Below.size hw; replace r2 := r2.up hw; replace r3 := r3.up hw; replace hu := hu.next hw; clear hw; clear x0 x1 x2 x3 x4 x5 x6 x7 z0 z1 z2 z3 z4 z5 z6 z7; obtain ⟨x0, x1, x2, x3, x4, x5, x6, x7, z0, z1, z2, z3, z4, z5, z6, z7⟩ := r2.c8)
  change Code.wp _ _ _ _ (set8 w2 w.heap.size F (.slice q F.l.length d))
  clear x0 x1 x2 x3 x4 x5 x6 x7 z0 z1 z2 z3 z4 z5 z6 z7 C0
  replace r2 := set8_row r2 F (.slice q F.l.length d)
  replace r3 := set8_other (g := w.heap.size) r3 F (.slice q F.l.length d) (by omega)
  replace hP := set8_pairs hP hB F (.slice q F.l.length d) lt2
  replace hu := set8_up hu F (.slice q F.l.length d) (Nat.le_refl _)
  have sz2 := set8_size w2 w.heap.size F (.slice q F.l.length d)
  generalize set8 w2 w.heap.size F (.slice q F.l.length d) = w3 at *
  obtain ⟨x0, x1, x2, x3, x4, x5, x6, x7, z0, z1, z2, z3, z4, z5, z6, z7⟩ := r3.c8
  go_upto_region 3 with ((with_reducible refine (C1.out _ hu).mono ?_); rintro e w4 ⟨q', d', rfl, hQ, hD, hw⟩; replace r2 := r2.up hw; replace r3 := r3.up hw; replace hP := PairsAt.up hP hw; replace hu := hu.next hw; clear hw; clear x0 x1 x2 x3 x4 x5 x6 x7 z0 z1 z2 z3 z4 z5 z6 z7; obtain ⟨x0, x1, x2, x3, x4, x5, x6, x7, z0, z1, z2, z3, z4, z5, z6, z7⟩ := r3.c8)
  change Code.wp _ _ _ _ (set8 w4 (w.heap.size + 1) G (.slice q' G.l.length d'))
  clear x0 x1 x2 x3 x4 x5 x6 x7 z0 z1 z2 z3 z4 z5 z6 z7 C1
  replace r3 := set8_row r3 G (.slice q' G.l.length d')
  replace r2 := set8_other (g := w.heap.size + 1) r2 G (.slice q' G.l.length d') (by omega)
  replace hP := set8_pairs hP hB G (.slice q' G.l.length d') lt3
  replace hQ := set8_pairs (g := w.heap.size + 1) hQ hD G (.slice q' G.l.length d') (by omega)
  replace hu := set8_up (g := w.heap.size + 1) hu G (.slice q' G.l.length d') (by omega)
  clear hB hD sz sz2
  generalize set8 w4 (w.heap.size + 1) G (.slice q' G.l.length d') = w5 at *
  obtain ⟨x0, x1, x2, x3, x4, x5, x6, x7, -⟩ := r2.c8
  obtain ⟨s0, s1, s2, s3, s4, s5, s6, s7, -⟩ := r3.c8
  go_upto_region 5 with (first
    | ((with_reducible refine (C2.out _ _ _ hP).mono ?_); rintro e wn ⟨rfl, hw⟩; replace r2 := r2.up hw; replace r3 := r3.up hw; replace hP := PairsAt.up hP hw; replace hQ := PairsAt.up hQ hw; replace hu := hu.next hw; clear hw; clear x0 x1 x2 x3 x4 x5 x6 x7 s0 s1 s2 s3 s4 s5 s6 s7; obtain ⟨x0, x1, x2, x3, x4, x5, x6, x7, -⟩ := r2.c8; obtain ⟨s0, s1, s2, s3, s4, s5, s6, s7, -⟩ := r3.c8)
    | ((with_reducible refine (C3.out _ _ _ hQ).mono ?_); rintro e wn ⟨rfl, hw⟩; replace r2 := r2.up hw; replace r3 := r3.up hw; replace hP := PairsAt.up hP hw; replace hQ := PairsAt.up hQ hw; replace hu := hu.next hw; clear hw; clear x0 x1 x2 x3 x4 x5 x6 x7 s0 s1 s2 s3 s4 s5 s6 s7; obtain ⟨x0, x1, x2, x3, x4, x5, x6, x7, -⟩ := r2.c8; obtain ⟨s0, s1, s2, s3, s4, s5, s6, s7, -⟩ := r3.c8))
  go_upto_region 6 with (first
    | ((with_reducible refine (C4.out _ _ _ hP).mono ?_); rintro e wn ⟨rfl, hw⟩; replace r2 := r2.up hw; replace r3 := r3.up hw; replace hP := PairsAt.up hP hw; replace hQ := PairsAt.up hQ hw; replace hu := hu.next hw; clear hw; clear x0 x1 x2 x3 x4 x5 x6 x7 s0 s1 s2 s3 s4 s5 s6 s7; obtain ⟨x0, x1, x2, x3, x4, x5, x6, x7, -⟩ := r2.c8; obtain ⟨s0, s1, s2, s3, s4, s5, s6, s7, -⟩ := r3.c8)
    | ((with_reducible refine (C6.out _).mono ?_); rintro e wn ⟨q6, d6, rfl, hX, hw⟩; replace r2 := r2.up hw; replace r3 := r3.up hw; replace hP := PairsAt.up hP hw; replace hQ := PairsAt.up hQ hw; replace hu := hu.next hw; clear hw))
  clear x0 x1 x2 x3 x4 x5 x6 x7 s0 s1 s2 s3 s4 s5 s6 s7
  have r5 : RowAt (wn.alloc (.cells #[.int .i64 (F).k, .int .i64 (F).t, .string (F).key, .string (F).val, .int .i64 (F).p, .int .i64 (F).u, .int .i64 (F).n, .slice q6 F.l.length d6] 24)) wn.heap.size [.int .i64 (F).k, .int .i64 (F).t, .string (F).key, .string (F).val, .int .i64 (F).p, .int .i64 (F).u, .int .i64 (F).n, .slice q6 F.l.length d6] := RowAt.made wn _ _
  replace r2 := r2.alloc (.cells #[.int .i64 (F).k, .int .i64 (F).t, .string (F).key, .string (F).val, .int .i64 (F).p, .int .i64 (F).u, .int .i64 (F).n, .slice q6 F.l.length d6] 24)
  replace r3 := r3.alloc (.cells #[.int .i64 (F).k, .int .i64 (F).t, .string (F).key, .string (F).val, .int .i64 (F).p, .int .i64 (F).u, .int .i64 (F).n, .slice q6 F.l.length d6] 24)
  have hal := (Up.refl wn).alloc (.cells #[.int .i64 (F).k, .int .i64 (F).t, .string (F).key, .string (F).val, .int .i64 (F).p, .int .i64 (F).u, .int .i64 (F).n, .slice q6 F.l.length d6] 24)
  replace hP := PairsAt.up hP hal; replace hQ := PairsAt.up hQ hal; replace hX := PairsAt.up hX hal
  replace hu := hu.trans hal
  clear hal
  generalize wn.heap.size = g5 at *
  generalize wn.alloc (.cells #[.int .i64 (F).k, .int .i64 (F).t, .string (F).key, .string (F).val, .int .i64 (F).p, .int .i64 (F).u, .int .i64 (F).n, .slice q6 F.l.length d6] 24) = w6 at *
  have HP := Lib.hid (show ∀ u : Later w6, PairsAt u.world q F.l from fun u => PairsAt.up hP u.up)
  have HQ := Lib.hid (show ∀ u : Later w6, PairsAt u.world q' G.l from fun u => PairsAt.up hQ u.up)
  have HX := Lib.hid (show ∀ u : Later w6, PairsAt u.world q6 F.l from fun u => PairsAt.up hX u.up)
  obtain ⟨x0, x1, x2, x3, x4, x5, x6, x7, -⟩ := r2.c8
  obtain ⟨s0, s1, s2, s3, s4, s5, s6, s7, -⟩ := r3.c8
  obtain ⟨v0, v1, v2, v3, v4, v5, v6, v7, -⟩ := r5.c8
  have a0 := Later.cell_of x0; have a1 := Later.cell_of x1; have a2 := Later.cell_of x2; have a3 := Later.cell_of x3; have a4 := Later.cell_of x4; have a5 := Later.cell_of x5; have a6 := Later.cell_of x6; have a7 := Later.cell_of x7
  have b0 := Later.cell_of s0; have b1 := Later.cell_of s1; have b2 := Later.cell_of s2; have b3 := Later.cell_of s3; have b4 := Later.cell_of s4; have b5 := Later.cell_of s5; have b6 := Later.cell_of s6; have b7 := Later.cell_of s7
  have e0 := Later.cell_of v0; have e1 := Later.cell_of v1; have e2 := Later.cell_of v2; have e3 := Later.cell_of v3; have e4 := Later.cell_of v4; have e5 := Later.cell_of v5; have e6 := Later.cell_of v6; have e7 := Later.cell_of v7
  clear x0 x1 x2 x3 x4 x5 x6 x7 s0 s1 s2 s3 s4 s5 s6 s7 v0 v1 v2 v3 v4 v5 v6 v7 hP hQ hX
  have hne := later_ne w6
  have heq := HE.out
  cases S
  all_goals
    refine wp_region_later (by kernel_rfl) (by kernel_rfl) ?_
    repeat (go_big_quiet_step (first
      | (go_at_call 14; with_reducible exact Calls.later (C4.out _ _ _ (HP.out _)))
      | (go_at_call 14; with_reducible exact Calls.later (C5.out _ _ _ (HQ.out _)))
      | (go_at_call 16; with_reducible exact Calls.later (C7.out _ _ _ _ _ (HP.out _) (HQ.out _)))
      | (go_at_call 16; with_reducible exact Calls.later (C7.out _ _ _ _ _ (HX.out _) (HQ.out _)))
      | (go_at_call 22; with_reducible exact Calls.later (C9.out _))))
    refine wpQuiet_nil ?_
    intro w9 hw9
    obtain ⟨u9, rfl⟩ := hw9
    replace hu := hu.trans u9.up
    generalize u9.world = w9 at *
    go_wp2_with fail
    go_ret
    exact ⟨rfl, hu⟩

theorem own_law (r0 : RecD) (p0 : Option Addr) (c0 : Nat) (w : World) (hA : RecIn w r0 p0) (r1 : RecD) (p1 : Option Addr) (c1 : Nat) (w' : World) (hw : w' = w) (hB : RecIn w' r1 p1) :
    Calls Try.prog 9 #[.agg #[.int .i64 (r0).k, .int .i64 (r0).t, .string (r0).key, .string (r0).val, .int .i64 (r0).p, .int .i64 (r0).u, .int .i64 (r0).n, .slice p0 r0.l.length c0], .agg #[.int .i64 (r1).k, .int .i64 (r1).t, .string (r1).key, .string (r1).val, .int .i64 (r1).p, .int .i64 (r1).u, .int .i64 (r1).n, .slice p1 r1.l.length c1]] w fun e w' => e = .returned (.bool true) ∧ Below w.heap.size w w' := by
  subst hw
  have C0 := Lib.hid (fun w1 (h : Up w' w1) => cut_call r0 p0 c0 w1 (recIn_up hA h))
  have C1 := Lib.hid (fun w1 (h : Up w' w1) => cut_call r1 p1 c1 w1 (recIn_up hB h))
  cases hR : (cutR r0).rightR
  · exact own_na (cutR r0) (cutR r1) (cutR_l r0) (cutR_l r1) hR r0 r1 p0 p1 c0 c1 w' C0 C1
  · cases hR' : (cutR r1).rightR
    · exact own_nb (cutR r0) (cutR r1) (cutR_l r0) (cutR_l r1) hR hR' r0 r1 p0 p1 c0 c1 w' C0 C1
    · refine own_yes (cutR r0) (cutR r1) (cutR_l r0) (cutR_l r1) hR hR' _ rfl ?_ r0 r1 p0 p1 c0 c1 w' C0 C1
      rw [str_eqB]
      by_cases h : cutR r0 = cutR r1
      · rw [h, RecD.same_refl]; simp
      · have h1 : ¬ (cutR r0).enc = (cutR r1).enc := fun e => h ((enc_inj hR hR').1 e)
        have h2 : (cutR r0).same (cutR r1) = false := by
          cases hh : (cutR r0).same (cutR r1)
          · rfl
          · exact absurd ((RecD.same_iff _ _).1 hh) h
        rw [h2]; simp [h1]
end Go.Proofs.Ytibeeomeafakgaa
