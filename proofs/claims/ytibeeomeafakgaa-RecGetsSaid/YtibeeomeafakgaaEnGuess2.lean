import Derived.Test.YtibeeomeafakgaaEnGuess1
namespace Go.Proofs.Ytibeeomeafakgaa
open Go.RowKit Bw
set_option linter.unusedVariables false


set_option maxHeartbeats 1000000 in
set_option maxRecDepth 100000 in
theorem guess_7 (s : ByteArray) (hs : s.size ≤ 1099511627776) (w : World) (hK : getV s 0 1 = 7) : Calls Try.prog 40 #[.string s] w (GuessPost w (guessR s)) := by
  have C0 := Lib.hid (show ∀ w, Calls Try.prog 46 #[.string s, .int .i64 0, .int .i64 1] w fun e w' => e = .returned (.int .i64 (getV s 0 1)) ∧ w = w' from fun w => ref5_number s hs 0 1 (by omega) w)
  have C1 := Lib.hid (show ∀ w, Calls Try.prog 46 #[.string s, .int .i64 1, .int .i64 6] w fun e w' => e = .returned (.int .i64 (getV s 1 6)) ∧ w = w' from fun w => ref5_number s hs 1 6 (by omega) w)
  have C2 := Lib.hid (show ∀ w, Calls Try.prog 46 #[.string s, .int .i64 7, .int .i64 6] w fun e w' => e = .returned (.int .i64 (getV s 7 6)) ∧ w = w' from fun w => ref5_number s hs 7 6 (by omega) w)
  have C3 := Lib.hid (show ∀ w, Calls Try.prog 46 #[.string s, .int .i64 13, .int .i64 6] w fun e w' => e = .returned (.int .i64 (getV s 13 6)) ∧ w = w' from fun w => ref5_number s hs 13 6 (by omega) w)
  have C4 := Lib.hid (show ∀ w, Calls Try.prog 46 #[.string s, .int .i64 19, .int .i64 2] w fun e w' => e = .returned (.int .i64 (getV s 19 2)) ∧ w = w' from fun w => ref5_number s hs 19 2 (by omega) w)
  have HG := Lib.hid (show guessR s = ⟨7, 0, ⟨#[]⟩, ⟨#[]⟩, getV s 1 6, getV s 7 6, getV s 13 6, gPairs s (getV s 19 2).toNat 21⟩ by rw [guessR, hK, if_pos (by omega), if_pos rfl]; rfl)
  rw [hK] at C0
  have hmb := getV_bound s 19 2 (by omega)
  have hms : getV s 19 2 < 65536 := by
    unfold getV
    split
    · have h1 := le_lt (((lst s).drop (19 : Int).toNat).take (2 : Int).toNat)
      have h2 : (((lst s).drop (19 : Int).toNat).take (2 : Int).toNat).length ≤ 2 := by simp; omega
      have h3 : 256 ^ (((lst s).drop (19 : Int).toNat).take (2 : Int).toNat).length ≤ 256 ^ 2 := Nat.pow_le_pow_right (by omega) h2
      omega
    · omega
  generalize guessR s = G at *
  generalize getV s 1 6 = P at *
  generalize getV s 7 6 = U at *
  generalize getV s 13 6 = N at *
  generalize getV s 19 2 = MM at *
  obtain ⟨m, rfl⟩ : ∃ m : Nat, MM = m := ⟨MM.toNat, by omega⟩
  simp only [Int.toNat_natCast] at HG
  clear hK hmb
  obtain ⟨inf, hi0', hz0, hz1, hz2⟩ := info_parts (P := Try.prog) (e := 47) (z := .agg #[.string ⟨#[]⟩, .string ⟨#[]⟩]) (size := 2) (bytes := 32) (by kernel_rfl)
  have HI := Lib.hid (show Try.prog.info? 47 = some inf ∧ inf.zero = _ ∧ inf.size = 2 ∧ inf.bytes = 32 from ⟨hi0', hz0, hz1, hz2⟩)
  clear hi0' hz0 hz1 hz2
  have hu := Up.refl w
  go_enter Try.func40, Try.ntmps40
  go_upto_region 2 with ((with_reducible refine (C0.out _).mono ?_); rintro e wn ⟨rfl, rfl⟩)
  have r2 := (RowAt.made w 28 [.int .i64 0, .int .i64 0, .string ⟨#[]⟩, .string ⟨#[]⟩, .int .i64 0, .int .i64 0, .int .i64 0, .slice none 0 0]).alloc (.cells #[.int .i64 7, .int .i64 0, .string ⟨#[]⟩, .string ⟨#[]⟩, .int .i64 0, .int .i64 0, .int .i64 0, .slice none 0 0] 28)
  have rx := RowAt.made (w.alloc (.cells #[.int .i64 0, .int .i64 0, .string ⟨#[]⟩, .string ⟨#[]⟩, .int .i64 0, .int .i64 0, .int .i64 0, .slice none 0 0] 28)) 28 [.int .i64 7, .int .i64 0, .string ⟨#[]⟩, .string ⟨#[]⟩, .int .i64 0, .int .i64 0, .int .i64 0, .slice none 0 0]
  simp at r2 rx
  replace hu := (hu.alloc (.cells #[.int .i64 0, .int .i64 0, .string ⟨#[]⟩, .string ⟨#[]⟩, .int .i64 0, .int .i64 0, .int .i64 0, .slice none 0 0] 28)).alloc (.cells #[.int .i64 7, .int .i64 0, .string ⟨#[]⟩, .string ⟨#[]⟩, .int .i64 0, .int .i64 0, .int .i64 0, .slice none 0 0] 28)
  generalize (w.alloc (.cells #[.int .i64 0, .int .i64 0, .string ⟨#[]⟩, .string ⟨#[]⟩, .int .i64 0, .int .i64 0, .int .i64 0, .slice none 0 0] 28)).alloc (.cells #[.int .i64 7, .int .i64 0, .string ⟨#[]⟩, .string ⟨#[]⟩, .int .i64 0, .int .i64 0, .int .i64 0, .slice none 0 0] 28) = w3 at *
  have n1 : ¬ w.heap.size = w.heap.size + 1 := by omega
  have n2 : ¬ w.heap.size + 1 = w.heap.size := by omega
  have lt3 := rx.lt
  obtain ⟨x0, x1, x2, x3, x4, x5, x6, x7, z0, z1, z2, z3, z4, z5, z6, z7⟩ := rx.c8
  obtain ⟨a0, a1, a2, a3, a4, a5, a6, a7, b0, b1, b2, b3, b4, b5, b6, b7⟩ := r2.c8
  go_wp2_with (first | ((with_reducible refine (C1.out _).mono ?_); rintro e wn ⟨rfl, rfl⟩) | ((with_reducible refine (C2.out _).mono ?_); rintro e wn ⟨rfl, rfl⟩) | ((with_reducible refine (C3.out _).mono ?_); rintro e wn ⟨rfl, rfl⟩) | ((with_reducible refine (C4.out _).mono ?_); rintro e wn ⟨rfl, rfl⟩))
  have lt4 : w.heap.size + 1 < (((w3.setCell ⟨w.heap.size + 1, 4, none⟩ (.int .i64 P)).setCell ⟨w.heap.size + 1, 5, none⟩ (.int .i64 U)).setCell ⟨w.heap.size + 1, 6, none⟩ (.int .i64 N)).heap.size := by simp only [World.size_setCell]; exact lt3
  clear x0 x1 x2 x3 x4 x5 x6 x7 z0 z1 z2 z3 z4 z5 z6 z7 a0 a1 a2 a3 a4 a5 a6 a7 b0 b1 b2 b3 b4 b5 b6 b7
  replace rx := ((rx.set 4 (.int .i64 P) (by simp)).set 5 (.int .i64 U) (by simp)).set 6 (.int .i64 N) (by simp)
  simp only [List.set_cons_zero, List.set_cons_succ] at rx
  replace r2 := ((r2.other (w.heap.size + 1) 4 (.int .i64 P) (by omega)).other (w.heap.size + 1) 5 (.int .i64 U) (by omega)).other (w.heap.size + 1) 6 (.int .i64 N) (by omega)
  replace hu := ((hu.setCell (w.heap.size + 1) 4 (.int .i64 P) (by omega)).setCell (w.heap.size + 1) 5 (.int .i64 U) (by omega)).setCell (w.heap.size + 1) 6 (.int .i64 N) (by omega)
  generalize ((w3.setCell ⟨w.heap.size + 1, 4, none⟩ (.int .i64 P)).setCell ⟨w.heap.size + 1, 5, none⟩ (.int .i64 U)).setCell ⟨w.heap.size + 1, 6, none⟩ (.int .i64 N) = w4 at *
  have how : World.ownsRow w4 (w.heap.size + 2) 47 2 (.slice none 0 0) 0 (cellsP []) := ⟨rfl, .inl ⟨rfl, rfl⟩⟩
  clear C1 C2 C3 C4
  go_loopw [5, 6] (fun v5 v6 wr => ∃ (k : Nat) (i : Int) (b : Option Addr) (c : Nat) (L : List PairD), k ≤ m ∧ v5 = .int .i64 i ∧ v6 = .int .i64 k ∧ L.length = k ∧ gPairs s m 21 = L ++ gPairs s (m - k) i ∧ RowAt wr (w.heap.size + 1) [.int .i64 7, .int .i64 0, .string ⟨#[]⟩, .string ⟨#[]⟩, .int .i64 P, .int .i64 U, .int .i64 N, .slice b k c] ∧
    wr.ownsRow (w.heap.size + 2) 47 2 (.slice b k c) k (cellsP L) ∧ RowAt wr w.heap.size [.int .i64 0, .int .i64 0, .string ⟨#[]⟩, .string ⟨#[]⟩, .int .i64 0, .int .i64 0, .int .i64 0, .slice none 0 0] ∧ w.heap.size + 1 < wr.heap.size ∧ Up w wr) (fun _ v _ => m - (intOf v).toNat)
  case atStart => exact ⟨0, 21, none, 0, [], by omega, rfl, rfl, rfl, rfl, rx, how, r2, lt4, hu⟩
  case round =>
    clear rx r2 hu how lt4
    obtain ⟨k, i, b, c, L, hk, rfl, rfl, hLl, hL, rx, how, r2, lt4, hu⟩ := hrel
    have C5 := Lib.hid (show ∀ w, Calls Try.prog 47 #[.string s, .int .i64 i] w fun e w' => e = .returned (.tuple #[.string (textS s i), .int .i64 (textTo s i), .int .i64 (textE s i)]) ∧ w = w' from fun w => ref1_Text s i w hs)
    have C6 := Lib.hid (show ∀ w, Calls Try.prog 47 #[.string s, .int .i64 (textTo s i)] w fun e w' => e = .returned (.tuple #[.string (textS s (textTo s i)), .int .i64 (textTo s (textTo s i)), .int .i64 (textE s (textTo s i))]) ∧ w = w' from fun w => ref1_Text s (textTo s i) w hs)
    by_cases hlt : k < m
    · have j1 : (k : Int) < (m : Int) := by omega
      have hstep : gPairs s (m - k) i = if i < s.size then (if textE s (textTo s i) = 0 ∧ textTo s i ≠ 0 then (textS s i, textS s (textTo s i)) :: gPairs s (m - (k + 1)) (textTo s (textTo s i)) else []) else [] := by
        rw [show m - k = (m - (k + 1)) + 1 by omega]; rfl
      by_cases hi : i < s.size
      · rw [if_pos hi] at hstep
        have hib : i < ((s.size : Nat) : Int) := hi
        by_cases hE : textE s (textTo s i) = 0
        · by_cases hT : textTo s i = 0
          · rw [if_neg (by simp [hT])] at hstep
            have hGL : gPairs s m 21 = L := by rw [hL, hstep, List.append_nil]
            have hEb : (textE s (textTo s i) != 0) = false := by rw [hE]; rfl
            have hTb : (textTo s i == 0) = true := by rw [hT]; rfl
            clear hL hstep hE hT
            generalize textE s (textTo s i) = e2 at *
            generalize textTo s (textTo s i) = t2 at *
            generalize textS s (textTo s i) = A2 at *
            generalize textE s i = e1 at *
            generalize textTo s i = t1 at *
            generalize textS s i = A1 at *
            obtain ⟨x0, x1, x2, x3, x4, x5, x6, x7, z0, z1, z2, z3, z4, z5, z6, z7⟩ := rx.c8
            obtain ⟨a0, a1, a2, a3, a4, a5, a6, a7, b0, b1, b2, b3, b4, b5, b6, b7⟩ := r2.c8
            go_wp2_with (first | ((with_reducible refine (C5.out _).mono ?_); rintro e wn ⟨rfl, rfl⟩) | ((with_reducible refine (C6.out _).mono ?_); rintro e wn ⟨rfl, rfl⟩))
            refine bodyPost_ret (v := .agg #[.int .i64 7, .int .i64 0, .string ⟨#[]⟩, .string ⟨#[]⟩, .int .i64 P, .int .i64 U, .int .i64 N, .slice b k c]) ?_ rfl ?_
            · simp [results, Try.results40, go_sem, *]
            have hfin := pairs_owned (lo := w.heap.size) (base := w.heap.size + 2) (e := 47) (k := k) (b3 := b) (c3 := c) (w := _) (by omega) (ownsRow_8 how w.heap.size (.int .i64 7) (.int .i64 0) (.string ⟨#[]⟩) (.string ⟨#[]⟩) (.int .i64 P) (.int .i64 U) (.int .i64 N) (.slice b k c) (by omega)) rfl hLl
            rw [HG.out]
            refine ⟨b, c, by rw [hGL]; simp only; rw [hLl], by rw [hGL]; exact hfin.1, hfin.2, ?_⟩
            repeat (refine Up.setCell ?_ _ _ _ (by omega))
            exact hu
          · rw [if_pos ⟨hE, hT⟩] at hstep
            have hEb : (textE s (textTo s i) != 0) = false := by rw [hE]; rfl
            have hTb : (textTo s i == 0) = false := beq_eq_false_iff_ne.2 hT
            have hL2 : gPairs s m 21 = (L ++ [(textS s i, textS s (textTo s i))]) ++ gPairs s (m - (k + 1)) (textTo s (textTo s i)) := by rw [hL, hstep, List.append_assoc]; rfl
            clear hL hstep hE hT
            generalize textE s (textTo s i) = e2 at *
            generalize textTo s (textTo s i) = t2 at *
            generalize textS s (textTo s i) = A2 at *
            generalize textE s i = e1 at *
            generalize textTo s i = t1 at *
            generalize textS s i = A1 at *
            obtain ⟨x0, -, -, -, -, -, -, x7, -, -, -, -, -, -, -, z7⟩ := rx.c8
            go_upto_region 11 with (first | ((with_reducible refine (C5.out _).mono ?_); rintro e wn ⟨rfl, rfl⟩) | ((with_reducible refine (C6.out _).mono ?_); rintro e wn ⟨rfl, rfl⟩))
            go_upto_region 12 with (first | ((with_reducible refine (C5.out _).mono ?_); rintro e wn ⟨rfl, rfl⟩) | ((with_reducible refine (C6.out _).mono ?_); rintro e wn ⟨rfl, rfl⟩))
            go_upto_region 14 with (first | ((with_reducible refine (C5.out _).mono ?_); rintro e wn ⟨rfl, rfl⟩) | ((with_reducible refine (C6.out _).mono ?_); rintro e wn ⟨rfl, rfl⟩))
            clear x0 z7 C5 C6
            have r6 := RowAt.made wr 47 [.string A1, .string A2]
            replace how := how.alloc (.cells #[.string A1, .string A2] 47)
            replace hu := hu.alloc (.cells #[.string A1, .string A2] 47)
            replace rx := rx.alloc (.cells #[.string A1, .string A2] 47)
            replace r2 := r2.alloc (.cells #[.string A1, .string A2] 47)
            have lt5 : w.heap.size + 1 < (wr.alloc (.cells #[.string A1, .string A2] 47)).heap.size := rx.lt
            obtain ⟨hi0', hz0, hz1, hz2⟩ := HI.out
            go_wp2_with (at_builtin; refine wpList_append_own _ rfl _ _ 22 rfl (w.heap.size + 2) 47 inf (.agg #[.string ⟨#[]⟩, .string ⟨#[]⟩]) 2 32 (by kernel_rfl) hi0' hz0 hz1 hz2 rfl (by decide) _ _ _ rfl how ⟨wr.heap.size, 0, none⟩ 1 1 [.string A1, .string A2] rfl rfl r6.adds (fun x hx => by simp at hx; rcases hx with rfl | rfl <;> rfl) (by unfold maxLen; omega) (by omega) (by omega) ?_; intro v' w5 how' hgrow _; obtain ⟨b5, c5, rfl⟩ := own_form how'; rw [show cellsP L ++ [.string A1, .string A2] = cellsP (L ++ [(A1, A2)]) by rw [cellsP_append]; rfl] at how'; replace hu := hu.grown hgrow (fun q hq => by have := (how.lt q hq).1; omega); replace rx := rx.grown hgrow (fun q hq => by have := (how.lt q hq).1; omega); replace r2 := r2.grown hgrow (fun q hq => by have := (how.lt q hq).1; omega); have lt6 : w.heap.size + 1 < w5.heap.size := rx.lt; clear hgrow how r6 x7; obtain ⟨-, -, -, -, -, -, -, x7, -, -, -, -, -, -, -, z7⟩ := rx.c8)
            replace rx := rx.set 7 (.slice b5 (k + 1) c5) (by simp)
            simp only [List.set_cons_zero, List.set_cons_succ] at rx
            replace r2 := r2.other (w.heap.size + 1) 7 (.slice b5 (k + 1) c5) (by omega)
            replace how' := ownsRow_set how' (w.heap.size + 1) 7 (.slice b5 (k + 1) c5) (by omega)
            replace hu := hu.setCell (w.heap.size + 1) 7 (.slice b5 (k + 1) c5) (by omega)
            exact ⟨⟨k + 1, t2, b5, c5, L ++ [(A1, A2)], by omega, by go_num, by go_num, by simp [hLl], hL2, rx, how', r2, rx.lt, hu⟩, by simp [intOf]; omega⟩
        · rw [if_neg (fun h => hE h.1)] at hstep
          have hGL : gPairs s m 21 = L := by rw [hL, hstep, List.append_nil]
          have hEb : (textE s (textTo s i) != 0) = true := bne_iff_ne.2 hE
          clear hL hstep hE
          generalize textE s (textTo s i) = e2 at *
          generalize textTo s (textTo s i) = t2 at *
          generalize textS s (textTo s i) = A2 at *
          generalize textE s i = e1 at *
          generalize textTo s i = t1 at *
          generalize textS s i = A1 at *
          obtain ⟨x0, x1, x2, x3, x4, x5, x6, x7, z0, z1, z2, z3, z4, z5, z6, z7⟩ := rx.c8
          obtain ⟨a0, a1, a2, a3, a4, a5, a6, a7, b0, b1, b2, b3, b4, b5, b6, b7⟩ := r2.c8
          go_wp2_with (first | ((with_reducible refine (C5.out _).mono ?_); rintro e wn ⟨rfl, rfl⟩) | ((with_reducible refine (C6.out _).mono ?_); rintro e wn ⟨rfl, rfl⟩))
          refine bodyPost_ret (v := .agg #[.int .i64 7, .int .i64 0, .string ⟨#[]⟩, .string ⟨#[]⟩, .int .i64 P, .int .i64 U, .int .i64 N, .slice b k c]) ?_ rfl ?_
          · simp [results, Try.results40, go_sem, *]
          have hfin := pairs_owned (lo := w.heap.size) (base := w.heap.size + 2) (e := 47) (k := k) (b3 := b) (c3 := c) (w := _) (by omega) (ownsRow_8 how w.heap.size (.int .i64 7) (.int .i64 0) (.string ⟨#[]⟩) (.string ⟨#[]⟩) (.int .i64 P) (.int .i64 U) (.int .i64 N) (.slice b k c) (by omega)) rfl hLl
          rw [HG.out]
          refine ⟨b, c, by rw [hGL]; simp only; rw [hLl], by rw [hGL]; exact hfin.1, hfin.2, ?_⟩
          repeat (refine Up.setCell ?_ _ _ _ (by omega))
          exact hu
      · rw [if_neg hi] at hstep
        have hGL : gPairs s m 21 = L := by rw [hL, hstep, List.append_nil]
        clear hL hstep
        obtain ⟨x0, x1, x2, x3, x4, x5, x6, x7, z0, z1, z2, z3, z4, z5, z6, z7⟩ := rx.c8
        obtain ⟨a0, a1, a2, a3, a4, a5, a6, a7, b0, b1, b2, b3, b4, b5, b6, b7⟩ := r2.c8
        go_wp2_with (first | ((with_reducible refine (C5.out _).mono ?_); rintro e wn ⟨rfl, rfl⟩) | ((with_reducible refine (C6.out _).mono ?_); rintro e wn ⟨rfl, rfl⟩))
        refine bodyPost_ret (v := .agg #[.int .i64 7, .int .i64 0, .string ⟨#[]⟩, .string ⟨#[]⟩, .int .i64 P, .int .i64 U, .int .i64 N, .slice b k c]) ?_ rfl ?_
        · simp [results, Try.results40, go_sem, *]
        have hfin := pairs_owned (lo := w.heap.size) (base := w.heap.size + 2) (e := 47) (k := k) (b3 := b) (c3 := c) (w := _) (by omega) (ownsRow_8 how w.heap.size (.int .i64 7) (.int .i64 0) (.string ⟨#[]⟩) (.string ⟨#[]⟩) (.int .i64 P) (.int .i64 U) (.int .i64 N) (.slice b k c) (by omega)) rfl hLl
        rw [HG.out]
        refine ⟨b, c, by rw [hGL]; simp only; rw [hLl], by rw [hGL]; exact hfin.1, hfin.2, ?_⟩
        repeat (refine Up.setCell ?_ _ _ _ (by omega))
        exact hu
    · have j1 : ¬ (k : Int) < (m : Int) := by omega
      have hGL : gPairs s m 21 = L := by rw [hL, show m - k = 0 by omega, gPairs, List.append_nil]
      clear hL
      obtain ⟨x0, x1, x2, x3, x4, x5, x6, x7, z0, z1, z2, z3, z4, z5, z6, z7⟩ := rx.c8
      obtain ⟨a0, a1, a2, a3, a4, a5, a6, a7, b0, b1, b2, b3, b4, b5, b6, b7⟩ := r2.c8
      go_wp2_with (first | ((with_reducible refine (C5.out _).mono ?_); rintro e wn ⟨rfl, rfl⟩) | ((with_reducible refine (C6.out _).mono ?_); rintro e wn ⟨rfl, rfl⟩))
      refine bodyPost_ret (v := .agg #[.int .i64 7, .int .i64 0, .string ⟨#[]⟩, .string ⟨#[]⟩, .int .i64 P, .int .i64 U, .int .i64 N, .slice b k c]) ?_ rfl ?_
      · simp [results, Try.results40, go_sem, *]
      have hfin := pairs_owned (lo := w.heap.size) (base := w.heap.size + 2) (e := 47) (k := k) (b3 := b) (c3 := c) (w := _) (by omega) (ownsRow_8 how w.heap.size (.int .i64 7) (.int .i64 0) (.string ⟨#[]⟩) (.string ⟨#[]⟩) (.int .i64 P) (.int .i64 U) (.int .i64 N) (.slice b k c) (by omega)) rfl hLl
      rw [HG.out]
      refine ⟨b, c, by rw [hGL]; simp only; rw [hLl], by rw [hGL]; exact hfin.1, hfin.2, ?_⟩
      repeat (refine Up.setCell ?_ _ _ _ (by omega))
      exact hu
end Go.Proofs.Ytibeeomeafakgaa
