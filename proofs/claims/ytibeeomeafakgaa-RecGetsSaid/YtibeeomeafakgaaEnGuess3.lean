import Derived.Test.YtibeeomeafakgaaEnGuess2
namespace Go.Proofs.Ytibeeomeafakgaa
open Go.RowKit Bw
set_option linter.unusedVariables false

theorem textS_sz (s : ByteArray) (i : Int) : (textS s i).size ≤ s.size := by
  unfold textS
  split
  · rw [size_str, List.length_take, List.length_drop, lst_length]; omega
  · simp
theorem gPairs_len (s : ByteArray) : ∀ (m : Nat) (i : Int), (gPairs s m i).length ≤ m
  | 0, _ => by simp [gPairs]
  | m + 1, i => by
    have ih := gPairs_len s m (textTo s (textTo s i))
    rw [gPairs]
    split
    · split
      · simp only [List.length_cons]; omega
      · simp
    · simp
theorem gPairs_sizes (s : ByteArray) : ∀ (m : Nat) (i : Int), ∀ p ∈ gPairs s m i, p.1.size ≤ s.size
  | 0, _ => by simp [gPairs]
  | m + 1, i => by
    have ih := gPairs_sizes s m (textTo s (textTo s i))
    intro p hp
    rw [gPairs] at hp
    split at hp
    · split at hp
      · rcases List.mem_cons.1 hp with rfl | h
        · exact textS_sz s i
        · exact ih p h
      · cases hp
    · cases hp
theorem guessR_len (s : ByteArray) : (guessR s).l.length ≤ 1099511627776 := by
  have hb := getV_bound s 19 2 (by omega)
  have := gPairs_len s (getV s 19 2).toNat 21
  have h2 : (getV s 19 2).toNat ≤ 65535 := by
    unfold getV
    split
    · have h1 := le_lt (((lst s).drop (19 : Int).toNat).take (2 : Int).toNat)
      have h2 : (((lst s).drop (19 : Int).toNat).take (2 : Int).toNat).length ≤ 2 := by simp; omega
      have h3 : 256 ^ (((lst s).drop (19 : Int).toNat).take (2 : Int).toNat).length ≤ 256 ^ 2 := Nat.pow_le_pow_right (by omega) h2
      omega
    · simp
  unfold guessR
  split
  · dsimp only
    split
    · omega
    · simp
  · simp
theorem guessR_sizes (s : ByteArray) (hs : s.size ≤ 1099511627776) : ∀ p ∈ (guessR s).l, p.1.size ≤ 1099511627776 := by
  intro p hp
  unfold guessR at hp
  split at hp
  · dsimp only at hp
    split at hp
    · have := gPairs_sizes s _ _ p hp; omega
    · cases hp
  · cases hp

theorem ref5_guess (s : ByteArray) (hs : s.size ≤ 1099511627776) (w : World) : Calls Try.prog 40 #[.string s] w (GuessPost w (guessR s)) := by
  by_cases h5 : 5 < getV s 0 1
  · by_cases h7 : getV s 0 1 = 7
    · exact guess_7 s hs w h7
    · exact guess_high s hs w _ rfl h5 h7
  · by_cases h2 : getV s 0 1 = 2
    · by_cases hE : textE s 7 = 0
      · exact guess_2 s hs w h2 hE
      · exact guess_2n s hs w h2 hE
    · by_cases h3 : getV s 0 1 = 3
      · exact guess_3 s hs w h3
      · exact guess_low s hs w _ rfl h5 h2 h3

theorem dec_empty : decO ⟨#[]⟩ = none := rfl
theorem dec_no {s : ByteArray} (h : ¬ (guessR s).enc = s) : decO s = none := by
  cases hx : decO s with
  | none => rfl
  | some x =>
    exfalso
    rw [guess_dec hx] at h
    exact h (enc_decO hx).2
theorem dec_yes {s : ByteArray} (h0 : ¬ s = ⟨#[]⟩) (h : (guessR s).enc = s) : decO s = some (guessR s) := by
  have hR : (guessR s).rightR = true := by
    cases hR : (guessR s).rightR
    · exfalso; apply h0; rw [← h, RecD.enc, hR]; rfl
    · rfl
  have := decO_enc hR
  rw [h] at this
  exact this

def DecPost (w : World) (s : ByteArray) (e : Ending) (w' : World) : Prop := ∃ q c, e = .returned (.tuple #[.agg #[.int .i64 (decD s).k, .int .i64 (decD s).t, .string (decD s).key, .string (decD s).val, .int .i64 (decD s).p, .int .i64 (decD s).u, .int .i64 (decD s).n, .slice q (decD s).l.length c], .int .i64 (decE s)]) ∧ PairsAt w' q (decD s).l ∧ Below w.heap.size w w'
set_option maxHeartbeats 1000000 in
set_option maxRecDepth 100000 in
theorem dec_walk0 (G : RecD) (E : ByteArray) (w : World)
    (hG : ∀ w, Calls Try.prog 40 #[.string ⟨#[]⟩] w fun e w' => ∃ q d, e = .returned (.agg #[.int .i64 (G).k, .int .i64 (G).t, .string (G).key, .string (G).val, .int .i64 (G).p, .int .i64 (G).u, .int .i64 (G).n, .slice q G.l.length d]) ∧ PairsAt w' q G.l ∧ InB w.heap.size w'.heap.size q ∧ Below w.heap.size w w')
    (hE : ∀ w q d, PairsAt w q G.l → Calls Try.prog 15 #[.agg #[.int .i64 (G).k, .int .i64 (G).t, .string (G).key, .string (G).val, .int .i64 (G).p, .int .i64 (G).u, .int .i64 (G).n, .slice q G.l.length d]] w fun e w' => e = .returned (.string E) ∧ Below w.heap.size w w') :
    Calls Try.prog 24 #[.string ⟨#[]⟩] w fun e w' => e = .returned (.tuple #[.agg #[.int .i64 0, .int .i64 0, .string ⟨#[]⟩, .string ⟨#[]⟩, .int .i64 0, .int .i64 0, .int .i64 0, .slice none 0 0], .int .i64 4]) ∧ Below w.heap.size w w' := by
  have K1 := Lib.hid hG
  clear hG hE
  have hu := Up.refl w
  go_enter Try.func24, Try.ntmps24
  go_upto_region 1 with fail
  have r2 := RowAt.made w 28 [.int .i64 0, .int .i64 0, .string ⟨#[]⟩, .string ⟨#[]⟩, .int .i64 0, .int .i64 0, .int .i64 0, .slice none 0 0]
  replace hu := hu.alloc (.cells #[.int .i64 0, .int .i64 0, .string ⟨#[]⟩, .string ⟨#[]⟩, .int .i64 0, .int .i64 0, .int .i64 0, .slice none 0 0] 28)
  generalize w.alloc (.cells #[.int .i64 0, .int .i64 0, .string ⟨#[]⟩, .string ⟨#[]⟩, .int .i64 0, .int .i64 0, .int .i64 0, .slice none 0 0] 28) = w1 at *
  go_upto_region 2 with ((with_reducible refine (K1.out _).mono ?_); rintro e w2 ⟨q, d, rfl, hP, hB, hw⟩; have lt2 := r2.lt; replace r2 := r2.up hw; replace hu := hu.next hw; clear hw)
  have lt3 := r2.lt
  replace r2 := r2.alloc (.cells #[.int .i64 (G).k, .int .i64 (G).t, .string (G).key, .string (G).val, .int .i64 (G).p, .int .i64 (G).u, .int .i64 (G).n, .slice q G.l.length d] 28)
  replace hu := hu.alloc (.cells #[.int .i64 (G).k, .int .i64 (G).t, .string (G).key, .string (G).val, .int .i64 (G).p, .int .i64 (G).u, .int .i64 (G).n, .slice q G.l.length d] 28)
  generalize w2.heap.size = gx at *
  generalize w2.alloc (.cells #[.int .i64 (G).k, .int .i64 (G).t, .string (G).key, .string (G).val, .int .i64 (G).p, .int .i64 (G).u, .int .i64 (G).n, .slice q G.l.length d] 28) = w3 at *
  obtain ⟨a0, a1, a2, a3, a4, a5, a6, a7, b0, b1, b2, b3, b4, b5, b6, b7⟩ := r2.c8
  go_wp2_with fail
  refine bodyPost_ret (v := .tuple #[.agg #[.int .i64 0, .int .i64 0, .string ⟨#[]⟩, .string ⟨#[]⟩, .int .i64 0, .int .i64 0, .int .i64 0, .slice none 0 0], .int .i64 4]) ?_ rfl ?_
  · simp [results, Try.results24, go_sem, *]
  refine ⟨rfl, ?_⟩
  repeat (refine Up.setCell ?_ _ _ _ (by omega))
  exact hu

set_option maxHeartbeats 1000000 in
set_option maxRecDepth 100000 in
theorem dec_walk1 (s : ByteArray) (G : RecD) (E : ByteArray) (w : World) (h1 : (s.toList == []) = false) (h2 : (E.toList == s.toList) = false)
    (hG : ∀ w, Calls Try.prog 40 #[.string s] w fun e w' => ∃ q d, e = .returned (.agg #[.int .i64 (G).k, .int .i64 (G).t, .string (G).key, .string (G).val, .int .i64 (G).p, .int .i64 (G).u, .int .i64 (G).n, .slice q G.l.length d]) ∧ PairsAt w' q G.l ∧ InB w.heap.size w'.heap.size q ∧ Below w.heap.size w w')
    (hE : ∀ w q d, PairsAt w q G.l → Calls Try.prog 15 #[.agg #[.int .i64 (G).k, .int .i64 (G).t, .string (G).key, .string (G).val, .int .i64 (G).p, .int .i64 (G).u, .int .i64 (G).n, .slice q G.l.length d]] w fun e w' => e = .returned (.string E) ∧ Below w.heap.size w w') :
    Calls Try.prog 24 #[.string s] w fun e w' => e = .returned (.tuple #[.agg #[.int .i64 0, .int .i64 0, .string ⟨#[]⟩, .string ⟨#[]⟩, .int .i64 0, .int .i64 0, .int .i64 0, .slice none 0 0], .int .i64 4]) ∧ Below w.heap.size w w' := by
  have K1 := Lib.hid (show ∀ w, Calls Try.prog 40 #[.string s] w fun e w' => ∃ q d, e = .returned (.agg #[.int .i64 (G).k, .int .i64 (G).t, .string (G).key, .string (G).val, .int .i64 (G).p, .int .i64 (G).u, .int .i64 (G).n, .slice q G.l.length d]) ∧ PairsAt w' q G.l ∧ InB w.heap.size w'.heap.size q ∧ Below w.heap.size w w' from hG)
  have K2 := Lib.hid (show ∀ w q d, PairsAt w q G.l → Calls Try.prog 15 #[.agg #[.int .i64 (G).k, .int .i64 (G).t, .string (G).key, .string (G).val, .int .i64 (G).p, .int .i64 (G).u, .int .i64 (G).n, .slice q G.l.length d]] w fun e w' => e = .returned (.string E) ∧ Below w.heap.size w w' from hE)
  clear hG hE
  have hu := Up.refl w
  go_enter Try.func24, Try.ntmps24
  go_upto_region 1 with fail
  have r2 := RowAt.made w 28 [.int .i64 0, .int .i64 0, .string ⟨#[]⟩, .string ⟨#[]⟩, .int .i64 0, .int .i64 0, .int .i64 0, .slice none 0 0]
  replace hu := hu.alloc (.cells #[.int .i64 0, .int .i64 0, .string ⟨#[]⟩, .string ⟨#[]⟩, .int .i64 0, .int .i64 0, .int .i64 0, .slice none 0 0] 28)
  generalize w.alloc (.cells #[.int .i64 0, .int .i64 0, .string ⟨#[]⟩, .string ⟨#[]⟩, .int .i64 0, .int .i64 0, .int .i64 0, .slice none 0 0] 28) = w1 at *
  go_upto_region 2 with ((with_reducible refine (K1.out _).mono ?_); rintro e w2 ⟨q, d, rfl, hP, hB, hw⟩; have lt2 := r2.lt; replace r2 := r2.up hw; replace hu := hu.next hw; clear hw)
  have rx : RowAt (w2.alloc (.cells #[.int .i64 (G).k, .int .i64 (G).t, .string (G).key, .string (G).val, .int .i64 (G).p, .int .i64 (G).u, .int .i64 (G).n, .slice q G.l.length d] 28)) w2.heap.size [.int .i64 (G).k, .int .i64 (G).t, .string (G).key, .string (G).val, .int .i64 (G).p, .int .i64 (G).u, .int .i64 (G).n, .slice q G.l.length d] := RowAt.made w2 _ _
  have lt3 := r2.lt
  replace r2 := r2.alloc (.cells #[.int .i64 (G).k, .int .i64 (G).t, .string (G).key, .string (G).val, .int .i64 (G).p, .int .i64 (G).u, .int .i64 (G).n, .slice q G.l.length d] 28)
  replace hP := PairsAt.up hP ((Up.refl _).alloc (.cells #[.int .i64 (G).k, .int .i64 (G).t, .string (G).key, .string (G).val, .int .i64 (G).p, .int .i64 (G).u, .int .i64 (G).n, .slice q G.l.length d] 28))
  replace hu := hu.alloc (.cells #[.int .i64 (G).k, .int .i64 (G).t, .string (G).key, .string (G).val, .int .i64 (G).p, .int .i64 (G).u, .int .i64 (G).n, .slice q G.l.length d] 28)
  generalize w2.heap.size = gx at *
  generalize w2.alloc (.cells #[.int .i64 (G).k, .int .i64 (G).t, .string (G).key, .string (G).val, .int .i64 (G).p, .int .i64 (G).u, .int .i64 (G).n, .slice q G.l.length d] 28) = w3 at *
  obtain ⟨x0, x1, x2, x3, x4, x5, x6, x7, -⟩ := rx.c8
  obtain ⟨a0, a1, a2, a3, a4, a5, a6, a7, b0, b1, b2, b3, b4, b5, b6, b7⟩ := r2.c8
  go_wp2_with ((with_reducible refine (K2.out _ _ _ hP).mono ?_); rintro e w2 ⟨rfl, hw⟩; replace r2 := r2.up hw; replace rx := rx.up hw; replace hP := PairsAt.up hP hw; replace hu := hu.next hw; clear hw; clear x0 x1 x2 x3 x4 x5 x6 x7 a0 a1 a2 a3 a4 a5 a6 a7 b0 b1 b2 b3 b4 b5 b6 b7; obtain ⟨x0, x1, x2, x3, x4, x5, x6, x7, -⟩ := rx.c8; obtain ⟨a0, a1, a2, a3, a4, a5, a6, a7, b0, b1, b2, b3, b4, b5, b6, b7⟩ := r2.c8)
  refine bodyPost_ret (v := .tuple #[.agg #[.int .i64 0, .int .i64 0, .string ⟨#[]⟩, .string ⟨#[]⟩, .int .i64 0, .int .i64 0, .int .i64 0, .slice none 0 0], .int .i64 4]) ?_ rfl ?_
  · simp [results, Try.results24, go_sem, *]
  refine ⟨rfl, ?_⟩
  repeat (refine Up.setCell ?_ _ _ _ (by omega))
  exact hu
set_option maxHeartbeats 1000000 in
set_option maxRecDepth 100000 in
theorem dec_walk2 (s : ByteArray) (G : RecD) (E : ByteArray) (w : World) (h1 : (s.toList == []) = false) (h2 : (E.toList == s.toList) = true)
    (hG : ∀ w, Calls Try.prog 40 #[.string s] w fun e w' => ∃ q d, e = .returned (.agg #[.int .i64 (G).k, .int .i64 (G).t, .string (G).key, .string (G).val, .int .i64 (G).p, .int .i64 (G).u, .int .i64 (G).n, .slice q G.l.length d]) ∧ PairsAt w' q G.l ∧ InB w.heap.size w'.heap.size q ∧ Below w.heap.size w w')
    (hE : ∀ w q d, PairsAt w q G.l → Calls Try.prog 15 #[.agg #[.int .i64 (G).k, .int .i64 (G).t, .string (G).key, .string (G).val, .int .i64 (G).p, .int .i64 (G).u, .int .i64 (G).n, .slice q G.l.length d]] w fun e w' => e = .returned (.string E) ∧ Below w.heap.size w w') :
    Calls Try.prog 24 #[.string s] w fun e w' => ∃ q c, e = .returned (.tuple #[.agg #[.int .i64 (G).k, .int .i64 (G).t, .string (G).key, .string (G).val, .int .i64 (G).p, .int .i64 (G).u, .int .i64 (G).n, .slice q G.l.length c], .int .i64 0]) ∧ PairsAt w' q G.l ∧ Below w.heap.size w w' := by
  have K1 := Lib.hid (show ∀ w, Calls Try.prog 40 #[.string s] w fun e w' => ∃ q d, e = .returned (.agg #[.int .i64 (G).k, .int .i64 (G).t, .string (G).key, .string (G).val, .int .i64 (G).p, .int .i64 (G).u, .int .i64 (G).n, .slice q G.l.length d]) ∧ PairsAt w' q G.l ∧ InB w.heap.size w'.heap.size q ∧ Below w.heap.size w w' from hG)
  have K2 := Lib.hid (show ∀ w q d, PairsAt w q G.l → Calls Try.prog 15 #[.agg #[.int .i64 (G).k, .int .i64 (G).t, .string (G).key, .string (G).val, .int .i64 (G).p, .int .i64 (G).u, .int .i64 (G).n, .slice q G.l.length d]] w fun e w' => e = .returned (.string E) ∧ Below w.heap.size w w' from hE)
  clear hG hE
  have hu := Up.refl w
  go_enter Try.func24, Try.ntmps24
  go_upto_region 1 with fail
  have r2 := RowAt.made w 28 [.int .i64 0, .int .i64 0, .string ⟨#[]⟩, .string ⟨#[]⟩, .int .i64 0, .int .i64 0, .int .i64 0, .slice none 0 0]
  replace hu := hu.alloc (.cells #[.int .i64 0, .int .i64 0, .string ⟨#[]⟩, .string ⟨#[]⟩, .int .i64 0, .int .i64 0, .int .i64 0, .slice none 0 0] 28)
  generalize w.alloc (.cells #[.int .i64 0, .int .i64 0, .string ⟨#[]⟩, .string ⟨#[]⟩, .int .i64 0, .int .i64 0, .int .i64 0, .slice none 0 0] 28) = w1 at *
  go_upto_region 2 with ((with_reducible refine (K1.out _).mono ?_); rintro e w2 ⟨q, d, rfl, hP, hB, hw⟩; have lt2 := r2.lt; replace r2 := r2.up hw; replace hu := hu.next hw; clear hw)
  have rx : RowAt (w2.alloc (.cells #[.int .i64 (G).k, .int .i64 (G).t, .string (G).key, .string (G).val, .int .i64 (G).p, .int .i64 (G).u, .int .i64 (G).n, .slice q G.l.length d] 28)) w2.heap.size [.int .i64 (G).k, .int .i64 (G).t, .string (G).key, .string (G).val, .int .i64 (G).p, .int .i64 (G).u, .int .i64 (G).n, .slice q G.l.length d] := RowAt.made w2 _ _
  have lt3 := r2.lt
  replace r2 := r2.alloc (.cells #[.int .i64 (G).k, .int .i64 (G).t, .string (G).key, .string (G).val, .int .i64 (G).p, .int .i64 (G).u, .int .i64 (G).n, .slice q G.l.length d] 28)
  replace hP := PairsAt.up hP ((Up.refl _).alloc (.cells #[.int .i64 (G).k, .int .i64 (G).t, .string (G).key, .string (G).val, .int .i64 (G).p, .int .i64 (G).u, .int .i64 (G).n, .slice q G.l.length d] 28))
  replace hu := hu.alloc (.cells #[.int .i64 (G).k, .int .i64 (G).t, .string (G).key, .string (G).val, .int .i64 (G).p, .int .i64 (G).u, .int .i64 (G).n, .slice q G.l.length d] 28)
  generalize w2.heap.size = gx at *
  generalize w2.alloc (.cells #[.int .i64 (G).k, .int .i64 (G).t, .string (G).key, .string (G).val, .int .i64 (G).p, .int .i64 (G).u, .int .i64 (G).n, .slice q G.l.length d] 28) = w3 at *
  obtain ⟨x0, x1, x2, x3, x4, x5, x6, x7, -⟩ := rx.c8
  obtain ⟨a0, a1, a2, a3, a4, a5, a6, a7, b0, b1, b2, b3, b4, b5, b6, b7⟩ := r2.c8
  go_wp2_with ((with_reducible refine (K2.out _ _ _ hP).mono ?_); rintro e w2 ⟨rfl, hw⟩; replace r2 := r2.up hw; replace rx := rx.up hw; replace hP := PairsAt.up hP hw; replace hu := hu.next hw; clear hw; clear x0 x1 x2 x3 x4 x5 x6 x7 a0 a1 a2 a3 a4 a5 a6 a7 b0 b1 b2 b3 b4 b5 b6 b7; obtain ⟨x0, x1, x2, x3, x4, x5, x6, x7, -⟩ := rx.c8; obtain ⟨a0, a1, a2, a3, a4, a5, a6, a7, b0, b1, b2, b3, b4, b5, b6, b7⟩ := r2.c8)
  refine bodyPost_ret (v := .tuple #[.agg #[.int .i64 (G).k, .int .i64 (G).t, .string (G).key, .string (G).val, .int .i64 (G).p, .int .i64 (G).u, .int .i64 (G).n, .slice q G.l.length d], .int .i64 0]) ?_ rfl ?_
  · simp [results, Try.results24, go_sem, *]
  change ∃ q' c, _ ∧ PairsAt (set8 w2 w.heap.size G (.slice q G.l.length d)) q' G.l ∧ Below w.heap.size w (set8 w2 w.heap.size G (.slice q G.l.length d))
  exact ⟨q, d, rfl, set8_pairs hP hB G (.slice q G.l.length d) lt2, set8_up hu G (.slice q G.l.length d) (Nat.le_refl _)⟩

theorem ref5_Decode (s : ByteArray) (hs : s.size ≤ 1099511627776) (w : World) : Calls Try.prog 24 #[.string s] w (DecPost w s) := by
  have hG := fun w => ref5_guess s hs w
  have hE := fun w q d (h : PairsAt w q (guessR s).l) => ref5_Encode (guessR s) q d w h (guessR_len s) (guessR_sizes s hs)
  by_cases h0 : s = ⟨#[]⟩
  · subst h0
    have hd : decD ⟨#[]⟩ = noneR ∧ decE ⟨#[]⟩ = 4 := ⟨rfl, rfl⟩
    unfold DecPost
    rw [hd.1, hd.2]
    exact (dec_walk0 _ _ w hG hE).mono fun e w' ⟨h1, h2⟩ => ⟨none, 0, h1, PairsAt.nil _ _, h2⟩
  · have h1 : (s.toList == []) = false := by
      have := str_eqB s ⟨#[]⟩
      rw [decide_eq_false h0, Lib.toList_data ⟨#[]⟩] at this
      exact this
    by_cases h2 : (guessR s).enc = s
    · have hd := dec_yes h0 h2
      unfold DecPost
      rw [show decD s = guessR s by rw [decD, hd]; rfl, show decE s = 0 by rw [decE, hd]; rfl]
      exact dec_walk2 s (guessR s) _ w h1 (by rw [h2]; simp) hG hE
    · have hd := dec_no h2
      unfold DecPost
      rw [show decD s = noneR by rw [decD, hd]; rfl, show decE s = 4 by rw [decE, hd]; rfl]
      exact (dec_walk1 s (guessR s) _ w h1 (by rw [str_eqB, decide_eq_false h2]) hG hE).mono fun e w' ⟨h1, h2⟩ => ⟨none, 0, h1, PairsAt.nil _ _, h2⟩
end Go.Proofs.Ytibeeomeafakgaa
