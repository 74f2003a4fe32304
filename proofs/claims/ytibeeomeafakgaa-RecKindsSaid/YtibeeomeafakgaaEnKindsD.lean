import Derived.Test.YtibeeomeafakgaaEnKinds1
namespace Go.Proofs.Ytibeeomeafakgaa
open Go.RowKit Bw
set_option linter.unusedVariables false

set_option maxHeartbeats 4000000 in
set_option maxRecDepth 100000 in
theorem kinds2e (t : Int) (key val : ByteArray) (p u n : Int) (l : List PairD) (hl : l.length ≤ 40) (hx : val = ByteArray.empty) (hR : RecD.rightR ⟨2, t, key, val, p, u, n, l⟩ = true) (r0 : RecD) (p0 : Option Addr) (c0 : Nat) (w : World)
    (C0 : Hid (∀ w1, Up w w1 → Calls Try.prog 10 #[.agg #[.int .i64 (r0).k, .int .i64 (r0).t, .string (r0).key, .string (r0).val, .int .i64 (r0).p, .int .i64 (r0).u, .int .i64 (r0).n, .slice p0 r0.l.length c0]] w1 fun e w' => ∃ q d, e = .returned (.agg #[.int .i64 2, .int .i64 t, .string key, .string val, .int .i64 p, .int .i64 u, .int .i64 n, .slice q l.length d]) ∧ PairsAt w' q l ∧ InB w1.heap.size w'.heap.size q ∧ Below w1.heap.size w1 w')) :
    Calls Try.prog 7 #[.agg #[.int .i64 (r0).k, .int .i64 (r0).t, .string (r0).key, .string (r0).val, .int .i64 (r0).p, .int .i64 (r0).u, .int .i64 (r0).n, .slice p0 r0.l.length c0]] w fun e w' => e = .returned (.bool true) ∧ Below w.heap.size w w' := by
  have D0 := Lib.hid (show ∀ w q d, PairsAt w q l → Calls Try.prog 11 #[.agg #[.int .i64 0, .int .i64 t, .string key, .string val, .int .i64 p, .int .i64 u, .int .i64 n, .slice q l.length d]] w fun e w' => e = .returned (.bool false) ∧ Below w.heap.size w w' from fun w q d hh => by rw [← (show RecD.rightR ⟨0, t, key, val, p, u, n, l⟩ = false from (kinds_right hR 0).trans (by simp [kindsB, aloneB]))]; exact cRight ⟨0, t, key, val, p, u, n, l⟩ q d w hh (by simp only; omega))
  have D1 := Lib.hid (show ∀ w q d, PairsAt w q l → Calls Try.prog 11 #[.agg #[.int .i64 1, .int .i64 t, .string key, .string val, .int .i64 p, .int .i64 u, .int .i64 n, .slice q l.length d]] w fun e w' => e = .returned (.bool false) ∧ Below w.heap.size w w' from fun w q d hh => by rw [← (show RecD.rightR ⟨1, t, key, val, p, u, n, l⟩ = false from (kinds_right hR 1).trans (by simp [kindsB, aloneB]))]; exact cRight ⟨1, t, key, val, p, u, n, l⟩ q d w hh (by simp only; omega))
  have D2 := Lib.hid (show ∀ w q d, PairsAt w q l → Calls Try.prog 11 #[.agg #[.int .i64 2, .int .i64 t, .string key, .string val, .int .i64 p, .int .i64 u, .int .i64 n, .slice q l.length d]] w fun e w' => e = .returned (.bool true) ∧ Below w.heap.size w w' from fun w q d hh => by rw [← (show RecD.rightR ⟨2, t, key, val, p, u, n, l⟩ = true from (kinds_right hR 2).trans (by simp [kindsB, aloneB]))]; exact cRight ⟨2, t, key, val, p, u, n, l⟩ q d w hh (by simp only; omega))
  have D3 := Lib.hid (show ∀ w q d, PairsAt w q l → Calls Try.prog 11 #[.agg #[.int .i64 3, .int .i64 t, .string key, .string val, .int .i64 p, .int .i64 u, .int .i64 n, .slice q l.length d]] w fun e w' => e = .returned (.bool true) ∧ Below w.heap.size w w' from fun w q d hh => by rw [← (show RecD.rightR ⟨3, t, key, val, p, u, n, l⟩ = true from (kinds_right hR 3).trans (by simp [kindsB, aloneB, hx]))]; exact cRight ⟨3, t, key, val, p, u, n, l⟩ q d w hh (by simp only; omega))
  have D4 := Lib.hid (show ∀ w q d, PairsAt w q l → Calls Try.prog 11 #[.agg #[.int .i64 4, .int .i64 t, .string key, .string val, .int .i64 p, .int .i64 u, .int .i64 n, .slice q l.length d]] w fun e w' => e = .returned (.bool false) ∧ Below w.heap.size w w' from fun w q d hh => by rw [← (show RecD.rightR ⟨4, t, key, val, p, u, n, l⟩ = false from (kinds_right hR 4).trans (by simp [kindsB, aloneB]))]; exact cRight ⟨4, t, key, val, p, u, n, l⟩ q d w hh (by simp only; omega))
  have D5 := Lib.hid (show ∀ w q d, PairsAt w q l → Calls Try.prog 11 #[.agg #[.int .i64 5, .int .i64 t, .string key, .string val, .int .i64 p, .int .i64 u, .int .i64 n, .slice q l.length d]] w fun e w' => e = .returned (.bool false) ∧ Below w.heap.size w w' from fun w q d hh => by rw [← (show RecD.rightR ⟨5, t, key, val, p, u, n, l⟩ = false from (kinds_right hR 5).trans (by simp [kindsB, aloneB]))]; exact cRight ⟨5, t, key, val, p, u, n, l⟩ q d w hh (by simp only; omega))
  have D6 := Lib.hid (show ∀ w q d, PairsAt w q l → Calls Try.prog 11 #[.agg #[.int .i64 6, .int .i64 t, .string key, .string val, .int .i64 p, .int .i64 u, .int .i64 n, .slice q l.length d]] w fun e w' => e = .returned (.bool false) ∧ Below w.heap.size w w' from fun w q d hh => by rw [← (show RecD.rightR ⟨6, t, key, val, p, u, n, l⟩ = false from (kinds_right hR 6).trans (by simp [kindsB, aloneB]))]; exact cRight ⟨6, t, key, val, p, u, n, l⟩ q d w hh (by simp only; omega))
  have D7 := Lib.hid (show ∀ w q d, PairsAt w q l → Calls Try.prog 11 #[.agg #[.int .i64 7, .int .i64 t, .string key, .string val, .int .i64 p, .int .i64 u, .int .i64 n, .slice q l.length d]] w fun e w' => e = .returned (.bool false) ∧ Below w.heap.size w w' from fun w q d hh => by rw [← (show RecD.rightR ⟨7, t, key, val, p, u, n, l⟩ = false from (kinds_right hR 7).trans (by simp [kindsB, aloneB]))]; exact cRight ⟨7, t, key, val, p, u, n, l⟩ q d w hh (by simp only; omega))
  have D8 := Lib.hid (show ∀ w q d, PairsAt w q l → Calls Try.prog 11 #[.agg #[.int .i64 8, .int .i64 t, .string key, .string val, .int .i64 p, .int .i64 u, .int .i64 n, .slice q l.length d]] w fun e w' => e = .returned (.bool false) ∧ Below w.heap.size w w' from fun w q d hh => by rw [← (show RecD.rightR ⟨8, t, key, val, p, u, n, l⟩ = false from (kinds_right hR 8).trans (by simp [kindsB, aloneB]))]; exact cRight ⟨8, t, key, val, p, u, n, l⟩ q d w hh (by simp only; omega))
  have C2 := D2
  have C9 := Lib.hid law5_fixed
  have hu := Up.refl w
  have hvt : val.toList.isEmpty = true := by rw [str_isEmpty2]; simp [hx]
  clear hx
  clear hR
  go_enter Try.func7, Try.ntmps7
  go_upto_region 1 with fail
  have r2 : RowAt (w.alloc (.cells #[.int .i64 (r0).k, .int .i64 (r0).t, .string (r0).key, .string (r0).val, .int .i64 (r0).p, .int .i64 (r0).u, .int .i64 (r0).n, .slice p0 r0.l.length c0] 24)) w.heap.size [.int .i64 (r0).k, .int .i64 (r0).t, .string (r0).key, .string (r0).val, .int .i64 (r0).p, .int .i64 (r0).u, .int .i64 (r0).n, .slice p0 r0.l.length c0] := RowAt.made w _ _
  replace hu := hu.alloc (.cells #[.int .i64 (r0).k, .int .i64 (r0).t, .string (r0).key, .string (r0).val, .int .i64 (r0).p, .int .i64 (r0).u, .int .i64 (r0).n, .slice p0 r0.l.length c0] 24)
  generalize w.alloc (.cells #[.int .i64 (r0).k, .int .i64 (r0).t, .string (r0).key, .string (r0).val, .int .i64 (r0).p, .int .i64 (r0).u, .int .i64 (r0).n, .slice p0 r0.l.length c0] 24) = w1 at *
  have lt2 := r2.lt
  obtain ⟨x0, x1, x2, x3, x4, x5, x6, x7, z0, z1, z2, z3, z4, z5, z6, z7⟩ := r2.c8
  go_upto_region 2 with ((with_reducible refine (C0.out _ hu).mono ?_); rintro e w2 ⟨q, d, rfl, hP, hB, hw⟩; replace r2 := r2.up hw; replace hu := hu.next hw; clear hw; clear x0 x1 x2 x3 x4 x5 x6 x7 z0 z1 z2 z3 z4 z5 z6 z7; obtain ⟨x0, x1, x2, x3, x4, x5, x6, x7, z0, z1, z2, z3, z4, z5, z6, z7⟩ := r2.c8)
  change Code.wp _ _ _ _ (set8 w2 w.heap.size ⟨2, t, key, val, p, u, n, l⟩ (.slice q l.length d))
  clear x0 x1 x2 x3 x4 x5 x6 x7 z0 z1 z2 z3 z4 z5 z6 z7 C0
  replace r2 := set8_row r2 ⟨2, t, key, val, p, u, n, l⟩ (.slice q l.length d)
  replace hP := set8_pairs hP hB ⟨2, t, key, val, p, u, n, l⟩ (.slice q l.length d) lt2
  replace hu := set8_up hu ⟨2, t, key, val, p, u, n, l⟩ (.slice q l.length d) (Nat.le_refl _)
  simp only at r2
  have hq : ∀ a, q = some a → a.block ≠ w.heap.size := fun a ha => by have := (hB a ha).1; omega
  clear hB
  generalize set8 w2 w.heap.size ⟨2, t, key, val, p, u, n, l⟩ (.slice q l.length d) = w3 at *
  obtain ⟨x0, x1, x2, x3, x4, x5, x6, x7, -⟩ := r2.c8
  go_upto_region 6 with (((with_reducible refine (C2.out _ _ _ hP).mono ?_); rintro e wn ⟨rfl, hw⟩; replace r2 := r2.up hw; replace hP := PairsAt.up hP hw; replace hu := hu.next hw; clear hw; clear x0 x1 x2 x3 x4 x5 x6 x7; obtain ⟨x0, x1, x2, x3, x4, x5, x6, x7, -⟩ := r2.c8))
  clear x0 x1 x2 x3 x4 x5 x6 x7
  go_wp2_with fail
  go_loopw [4, 5, 6, 7, 8] (fun v4 v5 v6 v7 v8 wr => ∃ j kk : Int, 0 ≤ j ∧ j ≤ 9 ∧ v4 = .int .i64 j ∧ RowAt wr w.heap.size [.int .i64 kk, .int .i64 t, .string key, .string val, .int .i64 p, .int .i64 u, .int .i64 n, .slice q l.length d] ∧ PairsAt wr q l ∧ Up w wr) (fun v _ _ _ _ _ => (9 - intOf v).toNat)
  case atStart => exact ⟨0, _, by omega, by omega, rfl, r2, hP, hu⟩
  case round =>
    clear r2 hP hu
    obtain ⟨j, kk, hj0, hj9, rfl, r2, hP, hu⟩ := hrel
    obtain ⟨x0, x1, x2, x3, x4, x5, x6, x7, z0, z1, z2, z3, z4, z5, z6, z7⟩ := r2.c8
    have hj : j = 0 ∨ j = 1 ∨ j = 2 ∨ j = 3 ∨ j = 4 ∨ j = 5 ∨ j = 6 ∨ j = 7 ∨ j = 8 ∨ j = 9 := by omega
    rcases hj with rfl | rfl | rfl | rfl | rfl | rfl | rfl | rfl | rfl | rfl
    · go_upto_region 9 with fail
      replace r2 := r2.set 0 (.int .i64 0) (by simp)
      simp only [List.set_cons_zero] at r2
      have hP2 := pairsAt_out hP (i := 0) (v := .int .i64 0) hq
      replace hu := hu.setCell w.heap.size 0 (.int .i64 0) (Nat.le_refl _)
      clear hP
      have hP := hP2
      clear hP2 x0 x1 x2 x3 x4 x5 x6 x7 z0 z1 z2 z3 z4 z5 z6 z7
      generalize wr.setCell ⟨w.heap.size, 0, none⟩ (.int .i64 0) = w4 at *
      obtain ⟨x0, x1, x2, x3, x4, x5, x6, x7, -⟩ := r2.c8
      go_wp2_with (((with_reducible refine (D0.out _ _ _ hP).mono ?_); rintro e wn ⟨rfl, hw⟩; replace r2 := r2.up hw; replace hP := PairsAt.up hP hw; replace hu := hu.next hw; clear hw; clear x0 x1 x2 x3 x4 x5 x6 x7; obtain ⟨x0, x1, x2, x3, x4, x5, x6, x7, -⟩ := r2.c8))
      refine ⟨⟨1, 0, by omega, by omega, rfl, r2, hP, hu⟩, by simp [intOf]⟩
    · go_upto_region 9 with fail
      replace r2 := r2.set 0 (.int .i64 1) (by simp)
      simp only [List.set_cons_zero] at r2
      have hP2 := pairsAt_out hP (i := 0) (v := .int .i64 1) hq
      replace hu := hu.setCell w.heap.size 0 (.int .i64 1) (Nat.le_refl _)
      clear hP
      have hP := hP2
      clear hP2 x0 x1 x2 x3 x4 x5 x6 x7 z0 z1 z2 z3 z4 z5 z6 z7
      generalize wr.setCell ⟨w.heap.size, 0, none⟩ (.int .i64 1) = w4 at *
      obtain ⟨x0, x1, x2, x3, x4, x5, x6, x7, -⟩ := r2.c8
      go_wp2_with (((with_reducible refine (D1.out _ _ _ hP).mono ?_); rintro e wn ⟨rfl, hw⟩; replace r2 := r2.up hw; replace hP := PairsAt.up hP hw; replace hu := hu.next hw; clear hw; clear x0 x1 x2 x3 x4 x5 x6 x7; obtain ⟨x0, x1, x2, x3, x4, x5, x6, x7, -⟩ := r2.c8))
      refine ⟨⟨2, 1, by omega, by omega, rfl, r2, hP, hu⟩, by simp [intOf]⟩
    · go_upto_region 9 with fail
      replace r2 := r2.set 0 (.int .i64 2) (by simp)
      simp only [List.set_cons_zero] at r2
      have hP2 := pairsAt_out hP (i := 0) (v := .int .i64 2) hq
      replace hu := hu.setCell w.heap.size 0 (.int .i64 2) (Nat.le_refl _)
      clear hP
      have hP := hP2
      clear hP2 x0 x1 x2 x3 x4 x5 x6 x7 z0 z1 z2 z3 z4 z5 z6 z7
      generalize wr.setCell ⟨w.heap.size, 0, none⟩ (.int .i64 2) = w4 at *
      obtain ⟨x0, x1, x2, x3, x4, x5, x6, x7, -⟩ := r2.c8
      go_wp2_with (((with_reducible refine (D2.out _ _ _ hP).mono ?_); rintro e wn ⟨rfl, hw⟩; replace r2 := r2.up hw; replace hP := PairsAt.up hP hw; replace hu := hu.next hw; clear hw; clear x0 x1 x2 x3 x4 x5 x6 x7; obtain ⟨x0, x1, x2, x3, x4, x5, x6, x7, -⟩ := r2.c8))
      refine ⟨⟨3, 2, by omega, by omega, rfl, r2, hP, hu⟩, by simp [intOf]⟩
    · go_upto_region 9 with fail
      replace r2 := r2.set 0 (.int .i64 3) (by simp)
      simp only [List.set_cons_zero] at r2
      have hP2 := pairsAt_out hP (i := 0) (v := .int .i64 3) hq
      replace hu := hu.setCell w.heap.size 0 (.int .i64 3) (Nat.le_refl _)
      clear hP
      have hP := hP2
      clear hP2 x0 x1 x2 x3 x4 x5 x6 x7 z0 z1 z2 z3 z4 z5 z6 z7
      generalize wr.setCell ⟨w.heap.size, 0, none⟩ (.int .i64 3) = w4 at *
      obtain ⟨x0, x1, x2, x3, x4, x5, x6, x7, -⟩ := r2.c8
      go_wp2_with (((with_reducible refine (D3.out _ _ _ hP).mono ?_); rintro e wn ⟨rfl, hw⟩; replace r2 := r2.up hw; replace hP := PairsAt.up hP hw; replace hu := hu.next hw; clear hw; clear x0 x1 x2 x3 x4 x5 x6 x7; obtain ⟨x0, x1, x2, x3, x4, x5, x6, x7, -⟩ := r2.c8))
      refine ⟨⟨4, 3, by omega, by omega, rfl, r2, hP, hu⟩, by simp [intOf]⟩
    · go_upto_region 9 with fail
      replace r2 := r2.set 0 (.int .i64 4) (by simp)
      simp only [List.set_cons_zero] at r2
      have hP2 := pairsAt_out hP (i := 0) (v := .int .i64 4) hq
      replace hu := hu.setCell w.heap.size 0 (.int .i64 4) (Nat.le_refl _)
      clear hP
      have hP := hP2
      clear hP2 x0 x1 x2 x3 x4 x5 x6 x7 z0 z1 z2 z3 z4 z5 z6 z7
      generalize wr.setCell ⟨w.heap.size, 0, none⟩ (.int .i64 4) = w4 at *
      obtain ⟨x0, x1, x2, x3, x4, x5, x6, x7, -⟩ := r2.c8
      go_wp2_with (((with_reducible refine (D4.out _ _ _ hP).mono ?_); rintro e wn ⟨rfl, hw⟩; replace r2 := r2.up hw; replace hP := PairsAt.up hP hw; replace hu := hu.next hw; clear hw; clear x0 x1 x2 x3 x4 x5 x6 x7; obtain ⟨x0, x1, x2, x3, x4, x5, x6, x7, -⟩ := r2.c8))
      refine ⟨⟨5, 4, by omega, by omega, rfl, r2, hP, hu⟩, by simp [intOf]⟩
    · go_upto_region 9 with fail
      replace r2 := r2.set 0 (.int .i64 5) (by simp)
      simp only [List.set_cons_zero] at r2
      have hP2 := pairsAt_out hP (i := 0) (v := .int .i64 5) hq
      replace hu := hu.setCell w.heap.size 0 (.int .i64 5) (Nat.le_refl _)
      clear hP
      have hP := hP2
      clear hP2 x0 x1 x2 x3 x4 x5 x6 x7 z0 z1 z2 z3 z4 z5 z6 z7
      generalize wr.setCell ⟨w.heap.size, 0, none⟩ (.int .i64 5) = w4 at *
      obtain ⟨x0, x1, x2, x3, x4, x5, x6, x7, -⟩ := r2.c8
      go_wp2_with (((with_reducible refine (D5.out _ _ _ hP).mono ?_); rintro e wn ⟨rfl, hw⟩; replace r2 := r2.up hw; replace hP := PairsAt.up hP hw; replace hu := hu.next hw; clear hw; clear x0 x1 x2 x3 x4 x5 x6 x7; obtain ⟨x0, x1, x2, x3, x4, x5, x6, x7, -⟩ := r2.c8))
      refine ⟨⟨6, 5, by omega, by omega, rfl, r2, hP, hu⟩, by simp [intOf]⟩
    · go_upto_region 9 with fail
      replace r2 := r2.set 0 (.int .i64 6) (by simp)
      simp only [List.set_cons_zero] at r2
      have hP2 := pairsAt_out hP (i := 0) (v := .int .i64 6) hq
      replace hu := hu.setCell w.heap.size 0 (.int .i64 6) (Nat.le_refl _)
      clear hP
      have hP := hP2
      clear hP2 x0 x1 x2 x3 x4 x5 x6 x7 z0 z1 z2 z3 z4 z5 z6 z7
      generalize wr.setCell ⟨w.heap.size, 0, none⟩ (.int .i64 6) = w4 at *
      obtain ⟨x0, x1, x2, x3, x4, x5, x6, x7, -⟩ := r2.c8
      go_wp2_with (((with_reducible refine (D6.out _ _ _ hP).mono ?_); rintro e wn ⟨rfl, hw⟩; replace r2 := r2.up hw; replace hP := PairsAt.up hP hw; replace hu := hu.next hw; clear hw; clear x0 x1 x2 x3 x4 x5 x6 x7; obtain ⟨x0, x1, x2, x3, x4, x5, x6, x7, -⟩ := r2.c8))
      refine ⟨⟨7, 6, by omega, by omega, rfl, r2, hP, hu⟩, by simp [intOf]⟩
    · go_upto_region 9 with fail
      replace r2 := r2.set 0 (.int .i64 7) (by simp)
      simp only [List.set_cons_zero] at r2
      have hP2 := pairsAt_out hP (i := 0) (v := .int .i64 7) hq
      replace hu := hu.setCell w.heap.size 0 (.int .i64 7) (Nat.le_refl _)
      clear hP
      have hP := hP2
      clear hP2 x0 x1 x2 x3 x4 x5 x6 x7 z0 z1 z2 z3 z4 z5 z6 z7
      generalize wr.setCell ⟨w.heap.size, 0, none⟩ (.int .i64 7) = w4 at *
      obtain ⟨x0, x1, x2, x3, x4, x5, x6, x7, -⟩ := r2.c8
      go_wp2_with (((with_reducible refine (D7.out _ _ _ hP).mono ?_); rintro e wn ⟨rfl, hw⟩; replace r2 := r2.up hw; replace hP := PairsAt.up hP hw; replace hu := hu.next hw; clear hw; clear x0 x1 x2 x3 x4 x5 x6 x7; obtain ⟨x0, x1, x2, x3, x4, x5, x6, x7, -⟩ := r2.c8))
      refine ⟨⟨8, 7, by omega, by omega, rfl, r2, hP, hu⟩, by simp [intOf]⟩
    · go_upto_region 9 with fail
      replace r2 := r2.set 0 (.int .i64 8) (by simp)
      simp only [List.set_cons_zero] at r2
      have hP2 := pairsAt_out hP (i := 0) (v := .int .i64 8) hq
      replace hu := hu.setCell w.heap.size 0 (.int .i64 8) (Nat.le_refl _)
      clear hP
      have hP := hP2
      clear hP2 x0 x1 x2 x3 x4 x5 x6 x7 z0 z1 z2 z3 z4 z5 z6 z7
      generalize wr.setCell ⟨w.heap.size, 0, none⟩ (.int .i64 8) = w4 at *
      obtain ⟨x0, x1, x2, x3, x4, x5, x6, x7, -⟩ := r2.c8
      go_wp2_with (((with_reducible refine (D8.out _ _ _ hP).mono ?_); rintro e wn ⟨rfl, hw⟩; replace r2 := r2.up hw; replace hP := PairsAt.up hP hw; replace hu := hu.next hw; clear hw; clear x0 x1 x2 x3 x4 x5 x6 x7; obtain ⟨x0, x1, x2, x3, x4, x5, x6, x7, -⟩ := r2.c8))
      refine ⟨⟨9, 8, by omega, by omega, rfl, r2, hP, hu⟩, by simp [intOf]⟩
    · go_wp2_with ((with_reducible refine (C9.out _).mono ?_); rintro e wn ⟨rfl, hw⟩; replace hu := hu.next hw; clear hw)
      go_ret
      exact ⟨rfl, hu⟩
set_option maxHeartbeats 4000000 in
set_option maxRecDepth 100000 in
theorem kinds2f (t : Int) (key val : ByteArray) (p u n : Int) (l : List PairD) (hl : l.length ≤ 40) (hx : ¬ val = ByteArray.empty) (hR : RecD.rightR ⟨2, t, key, val, p, u, n, l⟩ = true) (r0 : RecD) (p0 : Option Addr) (c0 : Nat) (w : World)
    (C0 : Hid (∀ w1, Up w w1 → Calls Try.prog 10 #[.agg #[.int .i64 (r0).k, .int .i64 (r0).t, .string (r0).key, .string (r0).val, .int .i64 (r0).p, .int .i64 (r0).u, .int .i64 (r0).n, .slice p0 r0.l.length c0]] w1 fun e w' => ∃ q d, e = .returned (.agg #[.int .i64 2, .int .i64 t, .string key, .string val, .int .i64 p, .int .i64 u, .int .i64 n, .slice q l.length d]) ∧ PairsAt w' q l ∧ InB w1.heap.size w'.heap.size q ∧ Below w1.heap.size w1 w')) :
    Calls Try.prog 7 #[.agg #[.int .i64 (r0).k, .int .i64 (r0).t, .string (r0).key, .string (r0).val, .int .i64 (r0).p, .int .i64 (r0).u, .int .i64 (r0).n, .slice p0 r0.l.length c0]] w fun e w' => e = .returned (.bool true) ∧ Below w.heap.size w w' := by
  have D0 := Lib.hid (show ∀ w q d, PairsAt w q l → Calls Try.prog 11 #[.agg #[.int .i64 0, .int .i64 t, .string key, .string val, .int .i64 p, .int .i64 u, .int .i64 n, .slice q l.length d]] w fun e w' => e = .returned (.bool false) ∧ Below w.heap.size w w' from fun w q d hh => by rw [← (show RecD.rightR ⟨0, t, key, val, p, u, n, l⟩ = false from (kinds_right hR 0).trans (by simp [kindsB, aloneB]))]; exact cRight ⟨0, t, key, val, p, u, n, l⟩ q d w hh (by simp only; omega))
  have D1 := Lib.hid (show ∀ w q d, PairsAt w q l → Calls Try.prog 11 #[.agg #[.int .i64 1, .int .i64 t, .string key, .string val, .int .i64 p, .int .i64 u, .int .i64 n, .slice q l.length d]] w fun e w' => e = .returned (.bool false) ∧ Below w.heap.size w w' from fun w q d hh => by rw [← (show RecD.rightR ⟨1, t, key, val, p, u, n, l⟩ = false from (kinds_right hR 1).trans (by simp [kindsB, aloneB]))]; exact cRight ⟨1, t, key, val, p, u, n, l⟩ q d w hh (by simp only; omega))
  have D2 := Lib.hid (show ∀ w q d, PairsAt w q l → Calls Try.prog 11 #[.agg #[.int .i64 2, .int .i64 t, .string key, .string val, .int .i64 p, .int .i64 u, .int .i64 n, .slice q l.length d]] w fun e w' => e = .returned (.bool true) ∧ Below w.heap.size w w' from fun w q d hh => by rw [← (show RecD.rightR ⟨2, t, key, val, p, u, n, l⟩ = true from (kinds_right hR 2).trans (by simp [kindsB, aloneB]))]; exact cRight ⟨2, t, key, val, p, u, n, l⟩ q d w hh (by simp only; omega))
  have D3 := Lib.hid (show ∀ w q d, PairsAt w q l → Calls Try.prog 11 #[.agg #[.int .i64 3, .int .i64 t, .string key, .string val, .int .i64 p, .int .i64 u, .int .i64 n, .slice q l.length d]] w fun e w' => e = .returned (.bool false) ∧ Below w.heap.size w w' from fun w q d hh => by rw [← (show RecD.rightR ⟨3, t, key, val, p, u, n, l⟩ = false from (kinds_right hR 3).trans (by simp [kindsB, aloneB, hx]))]; exact cRight ⟨3, t, key, val, p, u, n, l⟩ q d w hh (by simp only; omega))
  have D4 := Lib.hid (show ∀ w q d, PairsAt w q l → Calls Try.prog 11 #[.agg #[.int .i64 4, .int .i64 t, .string key, .string val, .int .i64 p, .int .i64 u, .int .i64 n, .slice q l.length d]] w fun e w' => e = .returned (.bool false) ∧ Below w.heap.size w w' from fun w q d hh => by rw [← (show RecD.rightR ⟨4, t, key, val, p, u, n, l⟩ = false from (kinds_right hR 4).trans (by simp [kindsB, aloneB]))]; exact cRight ⟨4, t, key, val, p, u, n, l⟩ q d w hh (by simp only; omega))
  have D5 := Lib.hid (show ∀ w q d, PairsAt w q l → Calls Try.prog 11 #[.agg #[.int .i64 5, .int .i64 t, .string key, .string val, .int .i64 p, .int .i64 u, .int .i64 n, .slice q l.length d]] w fun e w' => e = .returned (.bool false) ∧ Below w.heap.size w w' from fun w q d hh => by rw [← (show RecD.rightR ⟨5, t, key, val, p, u, n, l⟩ = false from (kinds_right hR 5).trans (by simp [kindsB, aloneB]))]; exact cRight ⟨5, t, key, val, p, u, n, l⟩ q d w hh (by simp only; omega))
  have D6 := Lib.hid (show ∀ w q d, PairsAt w q l → Calls Try.prog 11 #[.agg #[.int .i64 6, .int .i64 t, .string key, .string val, .int .i64 p, .int .i64 u, .int .i64 n, .slice q l.length d]] w fun e w' => e = .returned (.bool false) ∧ Below w.heap.size w w' from fun w q d hh => by rw [← (show RecD.rightR ⟨6, t, key, val, p, u, n, l⟩ = false from (kinds_right hR 6).trans (by simp [kindsB, aloneB]))]; exact cRight ⟨6, t, key, val, p, u, n, l⟩ q d w hh (by simp only; omega))
  have D7 := Lib.hid (show ∀ w q d, PairsAt w q l → Calls Try.prog 11 #[.agg #[.int .i64 7, .int .i64 t, .string key, .string val, .int .i64 p, .int .i64 u, .int .i64 n, .slice q l.length d]] w fun e w' => e = .returned (.bool false) ∧ Below w.heap.size w w' from fun w q d hh => by rw [← (show RecD.rightR ⟨7, t, key, val, p, u, n, l⟩ = false from (kinds_right hR 7).trans (by simp [kindsB, aloneB]))]; exact cRight ⟨7, t, key, val, p, u, n, l⟩ q d w hh (by simp only; omega))
  have D8 := Lib.hid (show ∀ w q d, PairsAt w q l → Calls Try.prog 11 #[.agg #[.int .i64 8, .int .i64 t, .string key, .string val, .int .i64 p, .int .i64 u, .int .i64 n, .slice q l.length d]] w fun e w' => e = .returned (.bool false) ∧ Below w.heap.size w w' from fun w q d hh => by rw [← (show RecD.rightR ⟨8, t, key, val, p, u, n, l⟩ = false from (kinds_right hR 8).trans (by simp [kindsB, aloneB]))]; exact cRight ⟨8, t, key, val, p, u, n, l⟩ q d w hh (by simp only; omega))
  have C2 := D2
  have C9 := Lib.hid law5_fixed
  have hu := Up.refl w
  have hvt : val.toList.isEmpty = false := by rw [str_isEmpty2]; simp [hx]
  clear hx
  clear hR
  go_enter Try.func7, Try.ntmps7
  go_upto_region 1 with fail
  have r2 : RowAt (w.alloc (.cells #[.int .i64 (r0).k, .int .i64 (r0).t, .string (r0).key, .string (r0).val, .int .i64 (r0).p, .int .i64 (r0).u, .int .i64 (r0).n, .slice p0 r0.l.length c0] 24)) w.heap.size [.int .i64 (r0).k, .int .i64 (r0).t, .string (r0).key, .string (r0).val, .int .i64 (r0).p, .int .i64 (r0).u, .int .i64 (r0).n, .slice p0 r0.l.length c0] := RowAt.made w _ _
  replace hu := hu.alloc (.cells #[.int .i64 (r0).k, .int .i64 (r0).t, .string (r0).key, .string (r0).val, .int .i64 (r0).p, .int .i64 (r0).u, .int .i64 (r0).n, .slice p0 r0.l.length c0] 24)
  generalize w.alloc (.cells #[.int .i64 (r0).k, .int .i64 (r0).t, .string (r0).key, .string (r0).val, .int .i64 (r0).p, .int .i64 (r0).u, .int .i64 (r0).n, .slice p0 r0.l.length c0] 24) = w1 at *
  have lt2 := r2.lt
  obtain ⟨x0, x1, x2, x3, x4, x5, x6, x7, z0, z1, z2, z3, z4, z5, z6, z7⟩ := r2.c8
  go_upto_region 2 with ((with_reducible refine (C0.out _ hu).mono ?_); rintro e w2 ⟨q, d, rfl, hP, hB, hw⟩; replace r2 := r2.up hw; replace hu := hu.next hw; clear hw; clear x0 x1 x2 x3 x4 x5 x6 x7 z0 z1 z2 z3 z4 z5 z6 z7; obtain ⟨x0, x1, x2, x3, x4, x5, x6, x7, z0, z1, z2, z3, z4, z5, z6, z7⟩ := r2.c8)
  change Code.wp _ _ _ _ (set8 w2 w.heap.size ⟨2, t, key, val, p, u, n, l⟩ (.slice q l.length d))
  clear x0 x1 x2 x3 x4 x5 x6 x7 z0 z1 z2 z3 z4 z5 z6 z7 C0
  replace r2 := set8_row r2 ⟨2, t, key, val, p, u, n, l⟩ (.slice q l.length d)
  replace hP := set8_pairs hP hB ⟨2, t, key, val, p, u, n, l⟩ (.slice q l.length d) lt2
  replace hu := set8_up hu ⟨2, t, key, val, p, u, n, l⟩ (.slice q l.length d) (Nat.le_refl _)
  simp only at r2
  have hq : ∀ a, q = some a → a.block ≠ w.heap.size := fun a ha => by have := (hB a ha).1; omega
  clear hB
  generalize set8 w2 w.heap.size ⟨2, t, key, val, p, u, n, l⟩ (.slice q l.length d) = w3 at *
  obtain ⟨x0, x1, x2, x3, x4, x5, x6, x7, -⟩ := r2.c8
  go_upto_region 6 with (((with_reducible refine (C2.out _ _ _ hP).mono ?_); rintro e wn ⟨rfl, hw⟩; replace r2 := r2.up hw; replace hP := PairsAt.up hP hw; replace hu := hu.next hw; clear hw; clear x0 x1 x2 x3 x4 x5 x6 x7; obtain ⟨x0, x1, x2, x3, x4, x5, x6, x7, -⟩ := r2.c8))
  clear x0 x1 x2 x3 x4 x5 x6 x7
  go_wp2_with fail
  go_loopw [4, 5, 6, 7, 8] (fun v4 v5 v6 v7 v8 wr => ∃ j kk : Int, 0 ≤ j ∧ j ≤ 9 ∧ v4 = .int .i64 j ∧ RowAt wr w.heap.size [.int .i64 kk, .int .i64 t, .string key, .string val, .int .i64 p, .int .i64 u, .int .i64 n, .slice q l.length d] ∧ PairsAt wr q l ∧ Up w wr) (fun v _ _ _ _ _ => (9 - intOf v).toNat)
  case atStart => exact ⟨0, _, by omega, by omega, rfl, r2, hP, hu⟩
  case round =>
    clear r2 hP hu
    obtain ⟨j, kk, hj0, hj9, rfl, r2, hP, hu⟩ := hrel
    obtain ⟨x0, x1, x2, x3, x4, x5, x6, x7, z0, z1, z2, z3, z4, z5, z6, z7⟩ := r2.c8
    have hj : j = 0 ∨ j = 1 ∨ j = 2 ∨ j = 3 ∨ j = 4 ∨ j = 5 ∨ j = 6 ∨ j = 7 ∨ j = 8 ∨ j = 9 := by omega
    rcases hj with rfl | rfl | rfl | rfl | rfl | rfl | rfl | rfl | rfl | rfl
    · go_upto_region 9 with fail
      replace r2 := r2.set 0 (.int .i64 0) (by simp)
      simp only [List.set_cons_zero] at r2
      have hP2 := pairsAt_out hP (i := 0) (v := .int .i64 0) hq
      replace hu := hu.setCell w.heap.size 0 (.int .i64 0) (Nat.le_refl _)
      clear hP
      have hP := hP2
      clear hP2 x0 x1 x2 x3 x4 x5 x6 x7 z0 z1 z2 z3 z4 z5 z6 z7
      generalize wr.setCell ⟨w.heap.size, 0, none⟩ (.int .i64 0) = w4 at *
      obtain ⟨x0, x1, x2, x3, x4, x5, x6, x7, -⟩ := r2.c8
      go_wp2_with (((with_reducible refine (D0.out _ _ _ hP).mono ?_); rintro e wn ⟨rfl, hw⟩; replace r2 := r2.up hw; replace hP := PairsAt.up hP hw; replace hu := hu.next hw; clear hw; clear x0 x1 x2 x3 x4 x5 x6 x7; obtain ⟨x0, x1, x2, x3, x4, x5, x6, x7, -⟩ := r2.c8))
      refine ⟨⟨1, 0, by omega, by omega, rfl, r2, hP, hu⟩, by simp [intOf]⟩
    · go_upto_region 9 with fail
      replace r2 := r2.set 0 (.int .i64 1) (by simp)
      simp only [List.set_cons_zero] at r2
      have hP2 := pairsAt_out hP (i := 0) (v := .int .i64 1) hq
      replace hu := hu.setCell w.heap.size 0 (.int .i64 1) (Nat.le_refl _)
      clear hP
      have hP := hP2
      clear hP2 x0 x1 x2 x3 x4 x5 x6 x7 z0 z1 z2 z3 z4 z5 z6 z7
      generalize wr.setCell ⟨w.heap.size, 0, none⟩ (.int .i64 1) = w4 at *
      obtain ⟨x0, x1, x2, x3, x4, x5, x6, x7, -⟩ := r2.c8
      go_wp2_with (((with_reducible refine (D1.out _ _ _ hP).mono ?_); rintro e wn ⟨rfl, hw⟩; replace r2 := r2.up hw; replace hP := PairsAt.up hP hw; replace hu := hu.next hw; clear hw; clear x0 x1 x2 x3 x4 x5 x6 x7; obtain ⟨x0, x1, x2, x3, x4, x5, x6, x7, -⟩ := r2.c8))
      refine ⟨⟨2, 1, by omega, by omega, rfl, r2, hP, hu⟩, by simp [intOf]⟩
    · go_upto_region 9 with fail
      replace r2 := r2.set 0 (.int .i64 2) (by simp)
      simp only [List.set_cons_zero] at r2
      have hP2 := pairsAt_out hP (i := 0) (v := .int .i64 2) hq
      replace hu := hu.setCell w.heap.size 0 (.int .i64 2) (Nat.le_refl _)
      clear hP
      have hP := hP2
      clear hP2 x0 x1 x2 x3 x4 x5 x6 x7 z0 z1 z2 z3 z4 z5 z6 z7
      generalize wr.setCell ⟨w.heap.size, 0, none⟩ (.int .i64 2) = w4 at *
      obtain ⟨x0, x1, x2, x3, x4, x5, x6, x7, -⟩ := r2.c8
      go_wp2_with (((with_reducible refine (D2.out _ _ _ hP).mono ?_); rintro e wn ⟨rfl, hw⟩; replace r2 := r2.up hw; replace hP := PairsAt.up hP hw; replace hu := hu.next hw; clear hw; clear x0 x1 x2 x3 x4 x5 x6 x7; obtain ⟨x0, x1, x2, x3, x4, x5, x6, x7, -⟩ := r2.c8))
      refine ⟨⟨3, 2, by omega, by omega, rfl, r2, hP, hu⟩, by simp [intOf]⟩
    · go_upto_region 9 with fail
      replace r2 := r2.set 0 (.int .i64 3) (by simp)
      simp only [List.set_cons_zero] at r2
      have hP2 := pairsAt_out hP (i := 0) (v := .int .i64 3) hq
      replace hu := hu.setCell w.heap.size 0 (.int .i64 3) (Nat.le_refl _)
      clear hP
      have hP := hP2
      clear hP2 x0 x1 x2 x3 x4 x5 x6 x7 z0 z1 z2 z3 z4 z5 z6 z7
      generalize wr.setCell ⟨w.heap.size, 0, none⟩ (.int .i64 3) = w4 at *
      obtain ⟨x0, x1, x2, x3, x4, x5, x6, x7, -⟩ := r2.c8
      go_wp2_with (((with_reducible refine (D3.out _ _ _ hP).mono ?_); rintro e wn ⟨rfl, hw⟩; replace r2 := r2.up hw; replace hP := PairsAt.up hP hw; replace hu := hu.next hw; clear hw; clear x0 x1 x2 x3 x4 x5 x6 x7; obtain ⟨x0, x1, x2, x3, x4, x5, x6, x7, -⟩ := r2.c8))
      refine ⟨⟨4, 3, by omega, by omega, rfl, r2, hP, hu⟩, by simp [intOf]⟩
    · go_upto_region 9 with fail
      replace r2 := r2.set 0 (.int .i64 4) (by simp)
      simp only [List.set_cons_zero] at r2
      have hP2 := pairsAt_out hP (i := 0) (v := .int .i64 4) hq
      replace hu := hu.setCell w.heap.size 0 (.int .i64 4) (Nat.le_refl _)
      clear hP
      have hP := hP2
      clear hP2 x0 x1 x2 x3 x4 x5 x6 x7 z0 z1 z2 z3 z4 z5 z6 z7
      generalize wr.setCell ⟨w.heap.size, 0, none⟩ (.int .i64 4) = w4 at *
      obtain ⟨x0, x1, x2, x3, x4, x5, x6, x7, -⟩ := r2.c8
      go_wp2_with (((with_reducible refine (D4.out _ _ _ hP).mono ?_); rintro e wn ⟨rfl, hw⟩; replace r2 := r2.up hw; replace hP := PairsAt.up hP hw; replace hu := hu.next hw; clear hw; clear x0 x1 x2 x3 x4 x5 x6 x7; obtain ⟨x0, x1, x2, x3, x4, x5, x6, x7, -⟩ := r2.c8))
      refine ⟨⟨5, 4, by omega, by omega, rfl, r2, hP, hu⟩, by simp [intOf]⟩
    · go_upto_region 9 with fail
      replace r2 := r2.set 0 (.int .i64 5) (by simp)
      simp only [List.set_cons_zero] at r2
      have hP2 := pairsAt_out hP (i := 0) (v := .int .i64 5) hq
      replace hu := hu.setCell w.heap.size 0 (.int .i64 5) (Nat.le_refl _)
      clear hP
      have hP := hP2
      clear hP2 x0 x1 x2 x3 x4 x5 x6 x7 z0 z1 z2 z3 z4 z5 z6 z7
      generalize wr.setCell ⟨w.heap.size, 0, none⟩ (.int .i64 5) = w4 at *
      obtain ⟨x0, x1, x2, x3, x4, x5, x6, x7, -⟩ := r2.c8
      go_wp2_with (((with_reducible refine (D5.out _ _ _ hP).mono ?_); rintro e wn ⟨rfl, hw⟩; replace r2 := r2.up hw; replace hP := PairsAt.up hP hw; replace hu := hu.next hw; clear hw; clear x0 x1 x2 x3 x4 x5 x6 x7; obtain ⟨x0, x1, x2, x3, x4, x5, x6, x7, -⟩ := r2.c8))
      refine ⟨⟨6, 5, by omega, by omega, rfl, r2, hP, hu⟩, by simp [intOf]⟩
    · go_upto_region 9 with fail
      replace r2 := r2.set 0 (.int .i64 6) (by simp)
      simp only [List.set_cons_zero] at r2
      have hP2 := pairsAt_out hP (i := 0) (v := .int .i64 6) hq
      replace hu := hu.setCell w.heap.size 0 (.int .i64 6) (Nat.le_refl _)
      clear hP
      have hP := hP2
      clear hP2 x0 x1 x2 x3 x4 x5 x6 x7 z0 z1 z2 z3 z4 z5 z6 z7
      generalize wr.setCell ⟨w.heap.size, 0, none⟩ (.int .i64 6) = w4 at *
      obtain ⟨x0, x1, x2, x3, x4, x5, x6, x7, -⟩ := r2.c8
      go_wp2_with (((with_reducible refine (D6.out _ _ _ hP).mono ?_); rintro e wn ⟨rfl, hw⟩; replace r2 := r2.up hw; replace hP := PairsAt.up hP hw; replace hu := hu.next hw; clear hw; clear x0 x1 x2 x3 x4 x5 x6 x7; obtain ⟨x0, x1, x2, x3, x4, x5, x6, x7, -⟩ := r2.c8))
      refine ⟨⟨7, 6, by omega, by omega, rfl, r2, hP, hu⟩, by simp [intOf]⟩
    · go_upto_region 9 with fail
      replace r2 := r2.set 0 (.int .i64 7) (by simp)
      simp only [List.set_cons_zero] at r2
      have hP2 := pairsAt_out hP (i := 0) (v := .int .i64 7) hq
      replace hu := hu.setCell w.heap.size 0 (.int .i64 7) (Nat.le_refl _)
      clear hP
      have hP := hP2
      clear hP2 x0 x1 x2 x3 x4 x5 x6 x7 z0 z1 z2 z3 z4 z5 z6 z7
      generalize wr.setCell ⟨w.heap.size, 0, none⟩ (.int .i64 7) = w4 at *
      obtain ⟨x0, x1, x2, x3, x4, x5, x6, x7, -⟩ := r2.c8
      go_wp2_with (((with_reducible refine (D7.out _ _ _ hP).mono ?_); rintro e wn ⟨rfl, hw⟩; replace r2 := r2.up hw; replace hP := PairsAt.up hP hw; replace hu := hu.next hw; clear hw; clear x0 x1 x2 x3 x4 x5 x6 x7; obtain ⟨x0, x1, x2, x3, x4, x5, x6, x7, -⟩ := r2.c8))
      refine ⟨⟨8, 7, by omega, by omega, rfl, r2, hP, hu⟩, by simp [intOf]⟩
    · go_upto_region 9 with fail
      replace r2 := r2.set 0 (.int .i64 8) (by simp)
      simp only [List.set_cons_zero] at r2
      have hP2 := pairsAt_out hP (i := 0) (v := .int .i64 8) hq
      replace hu := hu.setCell w.heap.size 0 (.int .i64 8) (Nat.le_refl _)
      clear hP
      have hP := hP2
      clear hP2 x0 x1 x2 x3 x4 x5 x6 x7 z0 z1 z2 z3 z4 z5 z6 z7
      generalize wr.setCell ⟨w.heap.size, 0, none⟩ (.int .i64 8) = w4 at *
      obtain ⟨x0, x1, x2, x3, x4, x5, x6, x7, -⟩ := r2.c8
      go_wp2_with (((with_reducible refine (D8.out _ _ _ hP).mono ?_); rintro e wn ⟨rfl, hw⟩; replace r2 := r2.up hw; replace hP := PairsAt.up hP hw; replace hu := hu.next hw; clear hw; clear x0 x1 x2 x3 x4 x5 x6 x7; obtain ⟨x0, x1, x2, x3, x4, x5, x6, x7, -⟩ := r2.c8))
      refine ⟨⟨9, 8, by omega, by omega, rfl, r2, hP, hu⟩, by simp [intOf]⟩
    · go_wp2_with ((with_reducible refine (C9.out _).mono ?_); rintro e wn ⟨rfl, hw⟩; replace hu := hu.next hw; clear hw)
      go_ret
      exact ⟨rfl, hu⟩
end Go.Proofs.Ytibeeomeafakgaa
