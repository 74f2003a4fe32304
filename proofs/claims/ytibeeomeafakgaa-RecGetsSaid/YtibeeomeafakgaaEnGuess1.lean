import Derived.Test.YtibeeomeafakgaaEnGuess0
import Derived.Test.YtibeeomeafakgaaEnPuts
namespace Go.Proofs.Ytibeeomeafakgaa
open Go.RowKit Bw
set_option linter.unusedVariables false

theorem getV_bound (s : ByteArray) (i : Int) (k : Nat) (hk : k ≤ 6) : 0 ≤ getV s i k ∧ getV s i k < 281474976710656 := by
  unfold getV
  split
  · have h1 := le_lt (((lst s).drop i.toNat).take ((k : Int)).toNat)
    have h2 : (((lst s).drop i.toNat).take ((k : Int)).toNat).length ≤ 6 := by simp; omega
    have h3 : 256 ^ (((lst s).drop i.toNat).take ((k : Int)).toNat).length ≤ 256 ^ 6 := Nat.pow_le_pow_right (by omega) h2
    omega
  · omega
set_option maxHeartbeats 400000 in
theorem ref5_number (s : ByteArray) (hs : s.size ≤ 1099511627776) (i : Int) (k : Nat) (hk : k ≤ 6) (w : World) :
    Calls Try.prog 46 #[.string s, .int .i64 i, .int .i64 k] w fun e w' => e = .returned (.int .i64 (getV s i k)) ∧ w = w' := by
  have c1 := fun w => ref1_Get s i k w hs
  have hb := getV_bound s i k hk
  by_cases h0 : roomE s i k = 0
  · rw [h0] at c1
    have C1 := Lib.hid c1; clear c1
    generalize getV s i k = V at *
    have hw : wrap64 V = V := by unfold wrap64; omega
    have hw2 : IntKind.i64.wrap V = V := by rw [IntKind.wrap_i64]; omega
    clear hb h0
    go_enter Try.func46, Try.ntmps46
    go_wp2_with ((with_reducible refine (C1.out _).mono ?_); rintro e w2 ⟨rfl, rfl⟩)
    go_ret
    exact ⟨rfl, rfl⟩
  · have hz : getV s i k = 0 := by rw [getV, if_neg h0]
    rw [hz] at c1 ⊢
    have C1 := Lib.hid c1; clear c1
    generalize roomE s i k = E at *
    clear hb hz
    go_enter Try.func46, Try.ntmps46
    go_wp2_with ((with_reducible refine (C1.out _).mono ?_); rintro e w2 ⟨rfl, rfl⟩)
    go_ret
    exact ⟨rfl, rfl⟩

def GuessPost (w : World) (x : RecD) (e : Ending) (w' : World) : Prop := ∃ q d, e = .returned (.agg #[.int .i64 (x).k, .int .i64 (x).t, .string (x).key, .string (x).val, .int .i64 (x).p, .int .i64 (x).u, .int .i64 (x).n, .slice q x.l.length d]) ∧ PairsAt w' q x.l ∧ InB w.heap.size w'.heap.size q ∧ Below w.heap.size w w'
set_option maxHeartbeats 1000000 in
set_option maxRecDepth 100000 in
theorem guess_low (s : ByteArray) (hs : s.size ≤ 1099511627776) (w : World) (K : Int) (hK : getV s 0 1 = K) (h5 : ¬ 5 < K) (h2 : ¬ K = 2) (h3 : ¬ K = 3) : Calls Try.prog 40 #[.string s] w (GuessPost w (guessR s)) := by
  have C0 := Lib.hid (show ∀ w, Calls Try.prog 46 #[.string s, .int .i64 0, .int .i64 1] w fun e w' => e = .returned (.int .i64 (getV s 0 1)) ∧ w = w' from fun w => ref5_number s hs 0 1 (by omega) w)
  have C1 := Lib.hid (show ∀ w, Calls Try.prog 46 #[.string s, .int .i64 1, .int .i64 6] w fun e w' => e = .returned (.int .i64 (getV s 1 6)) ∧ w = w' from fun w => ref5_number s hs 1 6 (by omega) w)
  have HG := Lib.hid (show guessR s = ⟨K, getV s 1 6, ⟨#[]⟩, ⟨#[]⟩, 0, 0, 0, []⟩ by rw [guessR, hK, if_neg (by omega), if_neg (by omega), if_neg (by omega)]; rfl)
  rw [hK] at C0
  generalize guessR s = G at *
  generalize getV s 1 6 = T at *
  have e5 : decide (5 < K) = false := decide_eq_false h5
  have e2 : (K == 2) = false := beq_eq_false_iff_ne.2 h2
  have e3 : (K == 3) = false := beq_eq_false_iff_ne.2 h3
  clear hK
  have hu := Up.refl w
  go_enter Try.func40, Try.ntmps40
  go_upto_region 2 with ((with_reducible refine (C0.out _).mono ?_); rintro e wn ⟨rfl, rfl⟩)
  have r2 := (RowAt.made w 28 [.int .i64 0, .int .i64 0, .string ⟨#[]⟩, .string ⟨#[]⟩, .int .i64 0, .int .i64 0, .int .i64 0, .slice none 0 0]).alloc (.cells #[.int .i64 K, .int .i64 0, .string ⟨#[]⟩, .string ⟨#[]⟩, .int .i64 0, .int .i64 0, .int .i64 0, .slice none 0 0] 28)
  have rx := RowAt.made (w.alloc (.cells #[.int .i64 0, .int .i64 0, .string ⟨#[]⟩, .string ⟨#[]⟩, .int .i64 0, .int .i64 0, .int .i64 0, .slice none 0 0] 28)) 28 [.int .i64 K, .int .i64 0, .string ⟨#[]⟩, .string ⟨#[]⟩, .int .i64 0, .int .i64 0, .int .i64 0, .slice none 0 0]
  simp at r2 rx
  replace hu := (hu.alloc (.cells #[.int .i64 0, .int .i64 0, .string ⟨#[]⟩, .string ⟨#[]⟩, .int .i64 0, .int .i64 0, .int .i64 0, .slice none 0 0] 28)).alloc (.cells #[.int .i64 K, .int .i64 0, .string ⟨#[]⟩, .string ⟨#[]⟩, .int .i64 0, .int .i64 0, .int .i64 0, .slice none 0 0] 28)
  generalize (w.alloc (.cells #[.int .i64 0, .int .i64 0, .string ⟨#[]⟩, .string ⟨#[]⟩, .int .i64 0, .int .i64 0, .int .i64 0, .slice none 0 0] 28)).alloc (.cells #[.int .i64 K, .int .i64 0, .string ⟨#[]⟩, .string ⟨#[]⟩, .int .i64 0, .int .i64 0, .int .i64 0, .slice none 0 0] 28) = w3 at *
  have n1 : ¬ w.heap.size = w.heap.size + 1 := by omega
  have n2 : ¬ w.heap.size + 1 = w.heap.size := by omega
  obtain ⟨x0, x1, x2, x3, x4, x5, x6, x7, z0, z1, z2, z3, z4, z5, z6, z7⟩ := rx.c8
  obtain ⟨a0, a1, a2, a3, a4, a5, a6, a7, b0, b1, b2, b3, b4, b5, b6, b7⟩ := r2.c8
  go_wp2_with (first | ((with_reducible refine (C1.out _).mono ?_); rintro e wn ⟨rfl, rfl⟩))
  refine bodyPost_ret (v := .agg #[.int .i64 K, .int .i64 T, .string ⟨#[]⟩, .string ⟨#[]⟩, .int .i64 0, .int .i64 0, .int .i64 0, .slice none 0 0]) ?_ rfl ?_
  · simp [results, Try.results40, go_sem, *]
  rw [HG.out]
  refine ⟨none, 0, rfl, PairsAt.nil _ _, fun a ha => (by cases ha), ?_⟩
  repeat (refine Up.setCell ?_ _ _ _ (by omega))
  exact hu

set_option maxHeartbeats 1000000 in
set_option maxRecDepth 100000 in
theorem guess_3 (s : ByteArray) (hs : s.size ≤ 1099511627776) (w : World) (hK : getV s 0 1 = 3) : Calls Try.prog 40 #[.string s] w (GuessPost w (guessR s)) := by
  have C0 := Lib.hid (show ∀ w, Calls Try.prog 46 #[.string s, .int .i64 0, .int .i64 1] w fun e w' => e = .returned (.int .i64 (getV s 0 1)) ∧ w = w' from fun w => ref5_number s hs 0 1 (by omega) w)
  have C1 := Lib.hid (show ∀ w, Calls Try.prog 46 #[.string s, .int .i64 1, .int .i64 6] w fun e w' => e = .returned (.int .i64 (getV s 1 6)) ∧ w = w' from fun w => ref5_number s hs 1 6 (by omega) w)
  have C2 := Lib.hid (show ∀ w, Calls Try.prog 47 #[.string s, .int .i64 7] w fun e w' => e = .returned (.tuple #[.string (textS s 7), .int .i64 (textTo s 7), .int .i64 (textE s 7)]) ∧ w = w' from fun w => ref1_Text s 7 w hs)
  have HG := Lib.hid (show guessR s = ⟨3, getV s 1 6, textS s 7, ⟨#[]⟩, 0, 0, 0, []⟩ by rw [guessR, hK, if_neg (by omega), if_pos (by omega), if_neg (by omega)]; rfl)
  rw [hK] at C0
  generalize guessR s = G at *
  generalize getV s 1 6 = T at *
  generalize textS s 7 = X at *
  generalize textTo s 7 = TO at *
  generalize textE s 7 = TE at *
  clear hK
  have hu := Up.refl w
  go_enter Try.func40, Try.ntmps40
  go_upto_region 2 with ((with_reducible refine (C0.out _).mono ?_); rintro e wn ⟨rfl, rfl⟩)
  have r2 := (RowAt.made w 28 [.int .i64 0, .int .i64 0, .string ⟨#[]⟩, .string ⟨#[]⟩, .int .i64 0, .int .i64 0, .int .i64 0, .slice none 0 0]).alloc (.cells #[.int .i64 3, .int .i64 0, .string ⟨#[]⟩, .string ⟨#[]⟩, .int .i64 0, .int .i64 0, .int .i64 0, .slice none 0 0] 28)
  have rx := RowAt.made (w.alloc (.cells #[.int .i64 0, .int .i64 0, .string ⟨#[]⟩, .string ⟨#[]⟩, .int .i64 0, .int .i64 0, .int .i64 0, .slice none 0 0] 28)) 28 [.int .i64 3, .int .i64 0, .string ⟨#[]⟩, .string ⟨#[]⟩, .int .i64 0, .int .i64 0, .int .i64 0, .slice none 0 0]
  simp at r2 rx
  replace hu := (hu.alloc (.cells #[.int .i64 0, .int .i64 0, .string ⟨#[]⟩, .string ⟨#[]⟩, .int .i64 0, .int .i64 0, .int .i64 0, .slice none 0 0] 28)).alloc (.cells #[.int .i64 3, .int .i64 0, .string ⟨#[]⟩, .string ⟨#[]⟩, .int .i64 0, .int .i64 0, .int .i64 0, .slice none 0 0] 28)
  generalize (w.alloc (.cells #[.int .i64 0, .int .i64 0, .string ⟨#[]⟩, .string ⟨#[]⟩, .int .i64 0, .int .i64 0, .int .i64 0, .slice none 0 0] 28)).alloc (.cells #[.int .i64 3, .int .i64 0, .string ⟨#[]⟩, .string ⟨#[]⟩, .int .i64 0, .int .i64 0, .int .i64 0, .slice none 0 0] 28) = w3 at *
  have n1 : ¬ w.heap.size = w.heap.size + 1 := by omega
  have n2 : ¬ w.heap.size + 1 = w.heap.size := by omega
  obtain ⟨x0, x1, x2, x3, x4, x5, x6, x7, z0, z1, z2, z3, z4, z5, z6, z7⟩ := rx.c8
  obtain ⟨a0, a1, a2, a3, a4, a5, a6, a7, b0, b1, b2, b3, b4, b5, b6, b7⟩ := r2.c8
  go_wp2_with (first | ((with_reducible refine (C1.out _).mono ?_); rintro e wn ⟨rfl, rfl⟩) | ((with_reducible refine (C2.out _).mono ?_); rintro e wn ⟨rfl, rfl⟩))
  refine bodyPost_ret (v := .agg #[.int .i64 3, .int .i64 T, .string X, .string ⟨#[]⟩, .int .i64 0, .int .i64 0, .int .i64 0, .slice none 0 0]) ?_ rfl ?_
  · simp [results, Try.results40, go_sem, *]
  rw [HG.out]
  refine ⟨none, 0, rfl, PairsAt.nil _ _, fun a ha => (by cases ha), ?_⟩
  repeat (refine Up.setCell ?_ _ _ _ (by omega))
  exact hu
set_option maxHeartbeats 1000000 in
set_option maxRecDepth 100000 in
theorem guess_2 (s : ByteArray) (hs : s.size ≤ 1099511627776) (w : World) (hK : getV s 0 1 = 2) (hE : textE s 7 = 0) : Calls Try.prog 40 #[.string s] w (GuessPost w (guessR s)) := by
  have C0 := Lib.hid (show ∀ w, Calls Try.prog 46 #[.string s, .int .i64 0, .int .i64 1] w fun e w' => e = .returned (.int .i64 (getV s 0 1)) ∧ w = w' from fun w => ref5_number s hs 0 1 (by omega) w)
  have C1 := Lib.hid (show ∀ w, Calls Try.prog 46 #[.string s, .int .i64 1, .int .i64 6] w fun e w' => e = .returned (.int .i64 (getV s 1 6)) ∧ w = w' from fun w => ref5_number s hs 1 6 (by omega) w)
  have C2 := Lib.hid (show ∀ w, Calls Try.prog 47 #[.string s, .int .i64 7] w fun e w' => e = .returned (.tuple #[.string (textS s 7), .int .i64 (textTo s 7), .int .i64 (textE s 7)]) ∧ w = w' from fun w => ref1_Text s 7 w hs)
  have C3 := Lib.hid (show ∀ w, Calls Try.prog 47 #[.string s, .int .i64 (textTo s 7)] w fun e w' => e = .returned (.tuple #[.string (textS s (textTo s 7)), .int .i64 (textTo s (textTo s 7)), .int .i64 (textE s (textTo s 7))]) ∧ w = w' from fun w => ref1_Text s (textTo s 7) w hs)
  have HG := Lib.hid (show guessR s = ⟨2, getV s 1 6, textS s 7, textS s (textTo s 7), 0, 0, 0, []⟩ by rw [guessR, hK, if_neg (by omega), if_pos (by omega), if_pos ⟨rfl, hE⟩])
  rw [hK] at C0
  rw [hE] at C2
  generalize guessR s = G at *
  generalize getV s 1 6 = T at *
  generalize textS s 7 = X at *
  generalize textS s (textTo s 7) = Y at *
  generalize textTo s (textTo s 7) = TO2 at *
  generalize textE s (textTo s 7) = TE2 at *
  generalize textTo s 7 = TO at *
  clear hK hE
  have hu := Up.refl w
  go_enter Try.func40, Try.ntmps40
  go_upto_region 2 with ((with_reducible refine (C0.out _).mono ?_); rintro e wn ⟨rfl, rfl⟩)
  have r2 := (RowAt.made w 28 [.int .i64 0, .int .i64 0, .string ⟨#[]⟩, .string ⟨#[]⟩, .int .i64 0, .int .i64 0, .int .i64 0, .slice none 0 0]).alloc (.cells #[.int .i64 2, .int .i64 0, .string ⟨#[]⟩, .string ⟨#[]⟩, .int .i64 0, .int .i64 0, .int .i64 0, .slice none 0 0] 28)
  have rx := RowAt.made (w.alloc (.cells #[.int .i64 0, .int .i64 0, .string ⟨#[]⟩, .string ⟨#[]⟩, .int .i64 0, .int .i64 0, .int .i64 0, .slice none 0 0] 28)) 28 [.int .i64 2, .int .i64 0, .string ⟨#[]⟩, .string ⟨#[]⟩, .int .i64 0, .int .i64 0, .int .i64 0, .slice none 0 0]
  simp at r2 rx
  replace hu := (hu.alloc (.cells #[.int .i64 0, .int .i64 0, .string ⟨#[]⟩, .string ⟨#[]⟩, .int .i64 0, .int .i64 0, .int .i64 0, .slice none 0 0] 28)).alloc (.cells #[.int .i64 2, .int .i64 0, .string ⟨#[]⟩, .string ⟨#[]⟩, .int .i64 0, .int .i64 0, .int .i64 0, .slice none 0 0] 28)
  generalize (w.alloc (.cells #[.int .i64 0, .int .i64 0, .string ⟨#[]⟩, .string ⟨#[]⟩, .int .i64 0, .int .i64 0, .int .i64 0, .slice none 0 0] 28)).alloc (.cells #[.int .i64 2, .int .i64 0, .string ⟨#[]⟩, .string ⟨#[]⟩, .int .i64 0, .int .i64 0, .int .i64 0, .slice none 0 0] 28) = w3 at *
  have n1 : ¬ w.heap.size = w.heap.size + 1 := by omega
  have n2 : ¬ w.heap.size + 1 = w.heap.size := by omega
  obtain ⟨x0, x1, x2, x3, x4, x5, x6, x7, z0, z1, z2, z3, z4, z5, z6, z7⟩ := rx.c8
  obtain ⟨a0, a1, a2, a3, a4, a5, a6, a7, b0, b1, b2, b3, b4, b5, b6, b7⟩ := r2.c8
  go_wp2_with (first | ((with_reducible refine (C1.out _).mono ?_); rintro e wn ⟨rfl, rfl⟩) | ((with_reducible refine (C2.out _).mono ?_); rintro e wn ⟨rfl, rfl⟩) | ((with_reducible refine (C3.out _).mono ?_); rintro e wn ⟨rfl, rfl⟩))
  refine bodyPost_ret (v := .agg #[.int .i64 2, .int .i64 T, .string X, .string Y, .int .i64 0, .int .i64 0, .int .i64 0, .slice none 0 0]) ?_ rfl ?_
  · simp [results, Try.results40, go_sem, *]
  rw [HG.out]
  refine ⟨none, 0, rfl, PairsAt.nil _ _, fun a ha => (by cases ha), ?_⟩
  repeat (refine Up.setCell ?_ _ _ _ (by omega))
  exact hu
set_option maxHeartbeats 1000000 in
set_option maxRecDepth 100000 in
theorem guess_2n (s : ByteArray) (hs : s.size ≤ 1099511627776) (w : World) (hK : getV s 0 1 = 2) (hE : ¬ textE s 7 = 0) : Calls Try.prog 40 #[.string s] w (GuessPost w (guessR s)) := by
  have C0 := Lib.hid (show ∀ w, Calls Try.prog 46 #[.string s, .int .i64 0, .int .i64 1] w fun e w' => e = .returned (.int .i64 (getV s 0 1)) ∧ w = w' from fun w => ref5_number s hs 0 1 (by omega) w)
  have C1 := Lib.hid (show ∀ w, Calls Try.prog 46 #[.string s, .int .i64 1, .int .i64 6] w fun e w' => e = .returned (.int .i64 (getV s 1 6)) ∧ w = w' from fun w => ref5_number s hs 1 6 (by omega) w)
  have C2 := Lib.hid (show ∀ w, Calls Try.prog 47 #[.string s, .int .i64 7] w fun e w' => e = .returned (.tuple #[.string (textS s 7), .int .i64 (textTo s 7), .int .i64 (textE s 7)]) ∧ w = w' from fun w => ref1_Text s 7 w hs)
  have HG := Lib.hid (show guessR s = ⟨2, getV s 1 6, textS s 7, ⟨#[]⟩, 0, 0, 0, []⟩ by rw [guessR, hK, if_neg (by omega), if_pos (by omega), if_neg (fun h => hE h.2)]; rfl)
  rw [hK] at C0
  have hEb : (textE s 7 == 0) = false := beq_eq_false_iff_ne.2 hE
  generalize guessR s = G at *
  generalize getV s 1 6 = T at *
  generalize textS s 7 = X at *
  generalize textTo s 7 = TO at *
  generalize textE s 7 = TE at *
  clear hK
  have hu := Up.refl w
  go_enter Try.func40, Try.ntmps40
  go_upto_region 2 with ((with_reducible refine (C0.out _).mono ?_); rintro e wn ⟨rfl, rfl⟩)
  have r2 := (RowAt.made w 28 [.int .i64 0, .int .i64 0, .string ⟨#[]⟩, .string ⟨#[]⟩, .int .i64 0, .int .i64 0, .int .i64 0, .slice none 0 0]).alloc (.cells #[.int .i64 2, .int .i64 0, .string ⟨#[]⟩, .string ⟨#[]⟩, .int .i64 0, .int .i64 0, .int .i64 0, .slice none 0 0] 28)
  have rx := RowAt.made (w.alloc (.cells #[.int .i64 0, .int .i64 0, .string ⟨#[]⟩, .string ⟨#[]⟩, .int .i64 0, .int .i64 0, .int .i64 0, .slice none 0 0] 28)) 28 [.int .i64 2, .int .i64 0, .string ⟨#[]⟩, .string ⟨#[]⟩, .int .i64 0, .int .i64 0, .int .i64 0, .slice none 0 0]
  simp at r2 rx
  replace hu := (hu.alloc (.cells #[.int .i64 0, .int .i64 0, .string ⟨#[]⟩, .string ⟨#[]⟩, .int .i64 0, .int .i64 0, .int .i64 0, .slice none 0 0] 28)).alloc (.cells #[.int .i64 2, .int .i64 0, .string ⟨#[]⟩, .string ⟨#[]⟩, .int .i64 0, .int .i64 0, .int .i64 0, .slice none 0 0] 28)
  generalize (w.alloc (.cells #[.int .i64 0, .int .i64 0, .string ⟨#[]⟩, .string ⟨#[]⟩, .int .i64 0, .int .i64 0, .int .i64 0, .slice none 0 0] 28)).alloc (.cells #[.int .i64 2, .int .i64 0, .string ⟨#[]⟩, .string ⟨#[]⟩, .int .i64 0, .int .i64 0, .int .i64 0, .slice none 0 0] 28) = w3 at *
  have n1 : ¬ w.heap.size = w.heap.size + 1 := by omega
  have n2 : ¬ w.heap.size + 1 = w.heap.size := by omega
  obtain ⟨x0, x1, x2, x3, x4, x5, x6, x7, z0, z1, z2, z3, z4, z5, z6, z7⟩ := rx.c8
  obtain ⟨a0, a1, a2, a3, a4, a5, a6, a7, b0, b1, b2, b3, b4, b5, b6, b7⟩ := r2.c8
  go_wp2_with (first | ((with_reducible refine (C1.out _).mono ?_); rintro e wn ⟨rfl, rfl⟩) | ((with_reducible refine (C2.out _).mono ?_); rintro e wn ⟨rfl, rfl⟩))
  refine bodyPost_ret (v := .agg #[.int .i64 2, .int .i64 T, .string X, .string ⟨#[]⟩, .int .i64 0, .int .i64 0, .int .i64 0, .slice none 0 0]) ?_ rfl ?_
  · simp [results, Try.results40, go_sem, *]
  rw [HG.out]
  refine ⟨none, 0, rfl, PairsAt.nil _ _, fun a ha => (by cases ha), ?_⟩
  repeat (refine Up.setCell ?_ _ _ _ (by omega))
  exact hu
set_option maxHeartbeats 1000000 in
set_option maxRecDepth 100000 in
theorem guess_high (s : ByteArray) (hs : s.size ≤ 1099511627776) (w : World) (K : Int) (hK : getV s 0 1 = K) (h5 : 5 < K) (h7 : ¬ K = 7) : Calls Try.prog 40 #[.string s] w (GuessPost w (guessR s)) := by
  have C0 := Lib.hid (show ∀ w, Calls Try.prog 46 #[.string s, .int .i64 0, .int .i64 1] w fun e w' => e = .returned (.int .i64 (getV s 0 1)) ∧ w = w' from fun w => ref5_number s hs 0 1 (by omega) w)
  have C1 := Lib.hid (show ∀ w, Calls Try.prog 46 #[.string s, .int .i64 1, .int .i64 6] w fun e w' => e = .returned (.int .i64 (getV s 1 6)) ∧ w = w' from fun w => ref5_number s hs 1 6 (by omega) w)
  have C2 := Lib.hid (show ∀ w, Calls Try.prog 46 #[.string s, .int .i64 7, .int .i64 6] w fun e w' => e = .returned (.int .i64 (getV s 7 6)) ∧ w = w' from fun w => ref5_number s hs 7 6 (by omega) w)
  have C3 := Lib.hid (show ∀ w, Calls Try.prog 46 #[.string s, .int .i64 13, .int .i64 6] w fun e w' => e = .returned (.int .i64 (getV s 13 6)) ∧ w = w' from fun w => ref5_number s hs 13 6 (by omega) w)
  have C4 := Lib.hid (show ∀ w, Calls Try.prog 46 #[.string s, .int .i64 19, .int .i64 2] w fun e w' => e = .returned (.int .i64 (getV s 19 2)) ∧ w = w' from fun w => ref5_number s hs 19 2 (by omega) w)
  have HG := Lib.hid (show guessR s = ⟨K, 0, ⟨#[]⟩, ⟨#[]⟩, getV s 1 6, getV s 7 6, getV s 13 6, []⟩ by rw [guessR, hK, if_pos (by omega), if_neg h7]; rfl)
  rw [hK] at C0
  generalize guessR s = G at *
  generalize getV s 1 6 = P at *
  generalize getV s 7 6 = U at *
  generalize getV s 13 6 = N at *
  generalize getV s 19 2 = M at *
  have e5 : decide (5 < K) = true := decide_eq_true h5
  have e7 : (K == 7) = false := beq_eq_false_iff_ne.2 h7
  clear hK
  have hu := Up.refl w
  go_enter Try.func40, Try.ntmps40
  go_upto_region 2 with ((with_reducible refine (C0.out _).mono ?_); rintro e wn ⟨rfl, rfl⟩)
  have r2 := (RowAt.made w 28 [.int .i64 0, .int .i64 0, .string ⟨#[]⟩, .string ⟨#[]⟩, .int .i64 0, .int .i64 0, .int .i64 0, .slice none 0 0]).alloc (.cells #[.int .i64 K, .int .i64 0, .string ⟨#[]⟩, .string ⟨#[]⟩, .int .i64 0, .int .i64 0, .int .i64 0, .slice none 0 0] 28)
  have rx := RowAt.made (w.alloc (.cells #[.int .i64 0, .int .i64 0, .string ⟨#[]⟩, .string ⟨#[]⟩, .int .i64 0, .int .i64 0, .int .i64 0, .slice none 0 0] 28)) 28 [.int .i64 K, .int .i64 0, .string ⟨#[]⟩, .string ⟨#[]⟩, .int .i64 0, .int .i64 0, .int .i64 0, .slice none 0 0]
  simp at r2 rx
  replace hu := (hu.alloc (.cells #[.int .i64 0, .int .i64 0, .string ⟨#[]⟩, .string ⟨#[]⟩, .int .i64 0, .int .i64 0, .int .i64 0, .slice none 0 0] 28)).alloc (.cells #[.int .i64 K, .int .i64 0, .string ⟨#[]⟩, .string ⟨#[]⟩, .int .i64 0, .int .i64 0, .int .i64 0, .slice none 0 0] 28)
  generalize (w.alloc (.cells #[.int .i64 0, .int .i64 0, .string ⟨#[]⟩, .string ⟨#[]⟩, .int .i64 0, .int .i64 0, .int .i64 0, .slice none 0 0] 28)).alloc (.cells #[.int .i64 K, .int .i64 0, .string ⟨#[]⟩, .string ⟨#[]⟩, .int .i64 0, .int .i64 0, .int .i64 0, .slice none 0 0] 28) = w3 at *
  have n1 : ¬ w.heap.size = w.heap.size + 1 := by omega
  have n2 : ¬ w.heap.size + 1 = w.heap.size := by omega
  obtain ⟨x0, x1, x2, x3, x4, x5, x6, x7, z0, z1, z2, z3, z4, z5, z6, z7⟩ := rx.c8
  obtain ⟨a0, a1, a2, a3, a4, a5, a6, a7, b0, b1, b2, b3, b4, b5, b6, b7⟩ := r2.c8
  go_wp2_with (first | ((with_reducible refine (C1.out _).mono ?_); rintro e wn ⟨rfl, rfl⟩) | ((with_reducible refine (C2.out _).mono ?_); rintro e wn ⟨rfl, rfl⟩) | ((with_reducible refine (C3.out _).mono ?_); rintro e wn ⟨rfl, rfl⟩) | ((with_reducible refine (C4.out _).mono ?_); rintro e wn ⟨rfl, rfl⟩))
  clear x0 x1 x2 x3 x4 x5 x6 x7 z0 z1 z2 z3 z4 z5 z6 z7 a0 a1 a2 a3 a4 a5 a6 a7 b0 b1 b2 b3 b4 b5 b6 b7
  replace rx := ((rx.set 4 (.int .i64 P) (by simp)).set 5 (.int .i64 U) (by simp)).set 6 (.int .i64 N) (by simp)
  simp only [List.set_cons_zero, List.set_cons_succ] at rx
  replace r2 := ((r2.other (w.heap.size + 1) 4 (.int .i64 P) (by omega)).other (w.heap.size + 1) 5 (.int .i64 U) (by omega)).other (w.heap.size + 1) 6 (.int .i64 N) (by omega)
  replace hu := ((hu.setCell (w.heap.size + 1) 4 (.int .i64 P) (by omega)).setCell (w.heap.size + 1) 5 (.int .i64 U) (by omega)).setCell (w.heap.size + 1) 6 (.int .i64 N) (by omega)
  generalize ((w3.setCell ⟨w.heap.size + 1, 4, none⟩ (.int .i64 P)).setCell ⟨w.heap.size + 1, 5, none⟩ (.int .i64 U)).setCell ⟨w.heap.size + 1, 6, none⟩ (.int .i64 N) = w4 at *
  go_loopw [6] (fun v wr => v = .int .i64 0 ∧ RowAt wr (w.heap.size + 1) [.int .i64 K, .int .i64 0, .string ⟨#[]⟩, .string ⟨#[]⟩, .int .i64 P, .int .i64 U, .int .i64 N, .slice none 0 0] ∧ RowAt wr w.heap.size [.int .i64 0, .int .i64 0, .string ⟨#[]⟩, .string ⟨#[]⟩, .int .i64 0, .int .i64 0, .int .i64 0, .slice none 0 0] ∧ Up w wr) (fun _ _ => 0)
  case atStart => exact ⟨rfl, rx, r2, hu⟩
  case round =>
    clear rx r2 hu
    obtain ⟨rfl, rx, r2, hu⟩ := hrel
    obtain ⟨x0, x1, x2, x3, x4, x5, x6, x7, z0, z1, z2, z3, z4, z5, z6, z7⟩ := rx.c8
    obtain ⟨a0, a1, a2, a3, a4, a5, a6, a7, b0, b1, b2, b3, b4, b5, b6, b7⟩ := r2.c8
    go_wp2_with fail
    refine bodyPost_ret (v := .agg #[.int .i64 K, .int .i64 0, .string ⟨#[]⟩, .string ⟨#[]⟩, .int .i64 P, .int .i64 U, .int .i64 N, .slice none 0 0]) ?_ rfl ?_
    · simp [results, Try.results40, go_sem, *]
    rw [HG.out]
    refine ⟨none, 0, rfl, PairsAt.nil _ _, fun a ha => (by cases ha), ?_⟩
    repeat (refine Up.setCell ?_ _ _ _ (by omega))
    exact hu
end Go.Proofs.Ytibeeomeafakgaa
