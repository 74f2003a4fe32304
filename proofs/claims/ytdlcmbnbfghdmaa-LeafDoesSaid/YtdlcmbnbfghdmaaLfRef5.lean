/- Layer 10, the document's answer: Put, Del. -/
import Derived.Test.YtdlcmbnbfghdmaaLfRef3
import Derived.Test.YtdlcmbnbfghdmaaLfWalk5
namespace Go.Proofs.Ytdlcmbnbfghdmaa
open Go.RowKit Bw
set_option linter.unusedVariables false
theorem hold_toSl {W w : World} {T : List Res} {q : Option Addr} {n c : Nat} {e : TypeId} {l : List PairD} (h : Hold W w T) (j : Nat) (hj : T[j]? = some (ownZ e 2 (.slice q n c) n (cellsP l))) (hn : n = l.length) (hc : n ≤ c) (hq : q = none → c = 0) : Hold W w (T.set j (slR q c l)) :=
  h.step j hj (slR q c l) (slR_own h hj hn hc hq).1 (fun k hk => .inl (by obtain ⟨a, ha, rfl⟩ := hk; subst ha; rfl)) (AllS.refl _ w)
theorem pair_cells {w : World} {g : Nat} {k v : ByteArray} (h : RowAt w g [.string k, .string v]) : ∀ ad i u, some (⟨g, 0, none⟩ : Addr) = some ad → [Value.string k, .string v][i]? = some u → w.cell? (ad.add i) = some u := fun ad i u h' hu => by
  injection h' with h'
  subst h'
  exact h.addsAt i u hu
theorem pair_one (k v : ByteArray) : ∀ x ∈ [Value.string k, .string v], x.oneCell' = true := fun x hx => by
  simp at hx
  rcases hx with rfl | rfl <;> rfl
set_option maxHeartbeats 2000000 in
theorem ref10_Put_bad (x : LfD) (hx : x.Sm) (k v : ByteArray) (hk : k.size ≤ 1000) (g o c : Nat) (sp : Option Nat) (w : World) (hA : SlAt w (some ⟨g, o, sp⟩) c x.l) (hm : mayPut x k v = false) :
    Calls Try.prog 26 #[lfV x (some ⟨g, o, sp⟩) c, .string k, .string v] w (LfPost w (pD x k v) (pE x k v)) := by
  have e1 : pE x k v = 1 := by simp [pE, hm]
  have HP := Lib.hid (post_none (w := w) (show pD x k v = noneL by simp [pD, e1]) e1)
  have CR := Lib.hid (fun w hA => ref10_Right x hx (some ⟨g, o, sp⟩) c w hA)
  have C1 := Lib.hid (ref5_Key k)
  have C2 := Lib.hid (ref5_Value v)
  have C3 := Lib.hid (fun w => ref5_Less k x.high w (by omega) (by have := hx.high; omega))
  generalize LfPost w (pD x k v) (pE x k v) = PP at *
  rw [mayPut_iff] at hm
  clear e1 hx
  obtain ⟨L, H, N⟩ := x
  simp only [lfV] at *
  replace hA : SlAt w (some ⟨g, o, sp⟩) c L := hA
  have HA := Lib.hid hA
  clear hA
  have key : LfD.right ⟨L, H, N⟩ = false ∨ (LfD.right ⟨L, H, N⟩ = true ∧ keyB k = false) ∨ (LfD.right ⟨L, H, N⟩ = true ∧ keyB k = true ∧ valB v = false) ∨ (LfD.right ⟨L, H, N⟩ = true ∧ keyB k = true ∧ valB v = true ∧ ¬ H = ByteArray.empty ∧ ltS k H = false) := by
    cases h1 : LfD.right ⟨L, H, N⟩
    · exact .inl rfl
    cases h2 : keyB k
    · exact .inr (.inl ⟨rfl, rfl⟩)
    cases h3 : valB v
    · exact .inr (.inr (.inl ⟨rfl, rfl, rfl⟩))
    simp [h1, h2, h3] at hm
    exact .inr (.inr (.inr ⟨rfl, rfl, rfl, hm.1, hm.2⟩))
  clear hm
  rcases key with h1 | ⟨h1, h2⟩ | ⟨h1, h2, h3⟩ | ⟨h1, h2, h3, h4, h5⟩
  · rw [h1] at CR
    clear h1
    go_enter Try.func26, Try.ntmps26
    go_upto_region 1 with fail
    have hD := ((Hold.start w).madeRow (.slice (some ⟨g, o, sp⟩) L.length c) [.string H, .int .i64 N] 29).madeRow (.slice none 0 0) [.string ⟨#[]⟩, .int .i64 0] 29
    simp only [World.size_alloc, List.nil_append] at hD
    generalize (w.alloc (.cells #[.slice (some ⟨g, o, sp⟩) L.length c, .string H, .int .i64 N] 29)).alloc (.cells #[.slice none 0 0, .string ⟨#[]⟩, .int .i64 0] 29) = w0 at *
    replace hD : Hold w w0 [rowR w.heap.size (.slice (some ⟨g, o, sp⟩) L.length c) [.string H, .int .i64 N], rowR (w.heap.size + 1) (.slice none 0 0) [.string ⟨#[]⟩, .int .i64 0]] := hD
    obtain ⟨t0, t1, t2, f0, f1, f2⟩ := RowAt.c3 (hD.get 0 rfl)
    obtain ⟨s0, s1, s2, z0, z1, z2⟩ := RowAt.c3 (hD.get 1 rfl)
    go_wp2_with (first
      | ((with_reducible refine (CR.out _ (HA.out.up hD.up).pairs).mono ?_); rintro e wn ⟨rfl, hwn⟩; replace hD := hD.next hwn; clear hwn; clear t0 t1 t2 f0 f1 f2 s0 s1 s2 z0 z1 z2; obtain ⟨t0, t1, t2, f0, f1, f2⟩ := RowAt.c3 (hD.get 0 rfl); obtain ⟨s0, s1, s2, z0, z1, z2⟩ := RowAt.c3 (hD.get 1 rfl))
      | ((with_reducible refine (C1.out _).mono ?_); rintro e wn ⟨rfl, rfl⟩) | ((with_reducible refine (C2.out _).mono ?_); rintro e wn ⟨rfl, rfl⟩)
      | ((with_reducible refine (C3.out _).mono ?_); rintro e wn ⟨rfl, hwn⟩; replace hD := hD.next hwn; clear hwn; clear t0 t1 t2 f0 f1 f2 s0 s1 s2 z0 z1 z2; obtain ⟨t0, t1, t2, f0, f1, f2⟩ := RowAt.c3 (hD.get 0 rfl); obtain ⟨s0, s1, s2, z0, z1, z2⟩ := RowAt.c3 (hD.get 1 rfl)))
    exact bodyPost_ret (v := .tuple #[.agg #[.slice none 0 0, .string ⟨#[]⟩, .int .i64 0], .int .i64 1]) (by simp [results, Try.results26, go_sem, *]) rfl (HP.out _ (by (repeat (refine Up.setCell ?_ _ _ _ (by omega))); exact hD.up))
  · rw [h1] at CR
    rw [h2] at C1
    clear h1 h2
    go_enter Try.func26, Try.ntmps26
    go_upto_region 1 with fail
    have hD := ((Hold.start w).madeRow (.slice (some ⟨g, o, sp⟩) L.length c) [.string H, .int .i64 N] 29).madeRow (.slice none 0 0) [.string ⟨#[]⟩, .int .i64 0] 29
    simp only [World.size_alloc, List.nil_append] at hD
    generalize (w.alloc (.cells #[.slice (some ⟨g, o, sp⟩) L.length c, .string H, .int .i64 N] 29)).alloc (.cells #[.slice none 0 0, .string ⟨#[]⟩, .int .i64 0] 29) = w0 at *
    replace hD : Hold w w0 [rowR w.heap.size (.slice (some ⟨g, o, sp⟩) L.length c) [.string H, .int .i64 N], rowR (w.heap.size + 1) (.slice none 0 0) [.string ⟨#[]⟩, .int .i64 0]] := hD
    obtain ⟨t0, t1, t2, f0, f1, f2⟩ := RowAt.c3 (hD.get 0 rfl)
    obtain ⟨s0, s1, s2, z0, z1, z2⟩ := RowAt.c3 (hD.get 1 rfl)
    go_wp2_with (first
      | ((with_reducible refine (CR.out _ (HA.out.up hD.up).pairs).mono ?_); rintro e wn ⟨rfl, hwn⟩; replace hD := hD.next hwn; clear hwn; clear t0 t1 t2 f0 f1 f2 s0 s1 s2 z0 z1 z2; obtain ⟨t0, t1, t2, f0, f1, f2⟩ := RowAt.c3 (hD.get 0 rfl); obtain ⟨s0, s1, s2, z0, z1, z2⟩ := RowAt.c3 (hD.get 1 rfl))
      | ((with_reducible refine (C1.out _).mono ?_); rintro e wn ⟨rfl, rfl⟩) | ((with_reducible refine (C2.out _).mono ?_); rintro e wn ⟨rfl, rfl⟩)
      | ((with_reducible refine (C3.out _).mono ?_); rintro e wn ⟨rfl, hwn⟩; replace hD := hD.next hwn; clear hwn; clear t0 t1 t2 f0 f1 f2 s0 s1 s2 z0 z1 z2; obtain ⟨t0, t1, t2, f0, f1, f2⟩ := RowAt.c3 (hD.get 0 rfl); obtain ⟨s0, s1, s2, z0, z1, z2⟩ := RowAt.c3 (hD.get 1 rfl)))
    exact bodyPost_ret (v := .tuple #[.agg #[.slice none 0 0, .string ⟨#[]⟩, .int .i64 0], .int .i64 1]) (by simp [results, Try.results26, go_sem, *]) rfl (HP.out _ (by (repeat (refine Up.setCell ?_ _ _ _ (by omega))); exact hD.up))
  · rw [h1] at CR
    rw [h2] at C1
    rw [h3] at C2
    clear h1 h2 h3
    go_enter Try.func26, Try.ntmps26
    go_upto_region 1 with fail
    have hD := ((Hold.start w).madeRow (.slice (some ⟨g, o, sp⟩) L.length c) [.string H, .int .i64 N] 29).madeRow (.slice none 0 0) [.string ⟨#[]⟩, .int .i64 0] 29
    simp only [World.size_alloc, List.nil_append] at hD
    generalize (w.alloc (.cells #[.slice (some ⟨g, o, sp⟩) L.length c, .string H, .int .i64 N] 29)).alloc (.cells #[.slice none 0 0, .string ⟨#[]⟩, .int .i64 0] 29) = w0 at *
    replace hD : Hold w w0 [rowR w.heap.size (.slice (some ⟨g, o, sp⟩) L.length c) [.string H, .int .i64 N], rowR (w.heap.size + 1) (.slice none 0 0) [.string ⟨#[]⟩, .int .i64 0]] := hD
    obtain ⟨t0, t1, t2, f0, f1, f2⟩ := RowAt.c3 (hD.get 0 rfl)
    obtain ⟨s0, s1, s2, z0, z1, z2⟩ := RowAt.c3 (hD.get 1 rfl)
    go_wp2_with (first
      | ((with_reducible refine (CR.out _ (HA.out.up hD.up).pairs).mono ?_); rintro e wn ⟨rfl, hwn⟩; replace hD := hD.next hwn; clear hwn; clear t0 t1 t2 f0 f1 f2 s0 s1 s2 z0 z1 z2; obtain ⟨t0, t1, t2, f0, f1, f2⟩ := RowAt.c3 (hD.get 0 rfl); obtain ⟨s0, s1, s2, z0, z1, z2⟩ := RowAt.c3 (hD.get 1 rfl))
      | ((with_reducible refine (C1.out _).mono ?_); rintro e wn ⟨rfl, rfl⟩) | ((with_reducible refine (C2.out _).mono ?_); rintro e wn ⟨rfl, rfl⟩)
      | ((with_reducible refine (C3.out _).mono ?_); rintro e wn ⟨rfl, hwn⟩; replace hD := hD.next hwn; clear hwn; clear t0 t1 t2 f0 f1 f2 s0 s1 s2 z0 z1 z2; obtain ⟨t0, t1, t2, f0, f1, f2⟩ := RowAt.c3 (hD.get 0 rfl); obtain ⟨s0, s1, s2, z0, z1, z2⟩ := RowAt.c3 (hD.get 1 rfl)))
    exact bodyPost_ret (v := .tuple #[.agg #[.slice none 0 0, .string ⟨#[]⟩, .int .i64 0], .int .i64 1]) (by simp [results, Try.results26, go_sem, *]) rfl (HP.out _ (by (repeat (refine Up.setCell ?_ _ _ _ (by omega))); exact hD.up))
  · rw [h1] at CR
    rw [h2] at C1
    rw [h3] at C2
    rw [h5] at C3
    have e2 := toList_ne h4
    have e3 := toList_nonempty h4
    clear h1 h2 h3 h4 h5
    go_enter Try.func26, Try.ntmps26
    go_upto_region 1 with fail
    have hD := ((Hold.start w).madeRow (.slice (some ⟨g, o, sp⟩) L.length c) [.string H, .int .i64 N] 29).madeRow (.slice none 0 0) [.string ⟨#[]⟩, .int .i64 0] 29
    simp only [World.size_alloc, List.nil_append] at hD
    generalize (w.alloc (.cells #[.slice (some ⟨g, o, sp⟩) L.length c, .string H, .int .i64 N] 29)).alloc (.cells #[.slice none 0 0, .string ⟨#[]⟩, .int .i64 0] 29) = w0 at *
    replace hD : Hold w w0 [rowR w.heap.size (.slice (some ⟨g, o, sp⟩) L.length c) [.string H, .int .i64 N], rowR (w.heap.size + 1) (.slice none 0 0) [.string ⟨#[]⟩, .int .i64 0]] := hD
    obtain ⟨t0, t1, t2, f0, f1, f2⟩ := RowAt.c3 (hD.get 0 rfl)
    obtain ⟨s0, s1, s2, z0, z1, z2⟩ := RowAt.c3 (hD.get 1 rfl)
    go_wp2_with (first
      | ((with_reducible refine (CR.out _ (HA.out.up hD.up).pairs).mono ?_); rintro e wn ⟨rfl, hwn⟩; replace hD := hD.next hwn; clear hwn; clear t0 t1 t2 f0 f1 f2 s0 s1 s2 z0 z1 z2; obtain ⟨t0, t1, t2, f0, f1, f2⟩ := RowAt.c3 (hD.get 0 rfl); obtain ⟨s0, s1, s2, z0, z1, z2⟩ := RowAt.c3 (hD.get 1 rfl))
      | ((with_reducible refine (C1.out _).mono ?_); rintro e wn ⟨rfl, rfl⟩) | ((with_reducible refine (C2.out _).mono ?_); rintro e wn ⟨rfl, rfl⟩)
      | ((with_reducible refine (C3.out _).mono ?_); rintro e wn ⟨rfl, hwn⟩; replace hD := hD.next hwn; clear hwn; clear t0 t1 t2 f0 f1 f2 s0 s1 s2 z0 z1 z2; obtain ⟨t0, t1, t2, f0, f1, f2⟩ := RowAt.c3 (hD.get 0 rfl); obtain ⟨s0, s1, s2, z0, z1, z2⟩ := RowAt.c3 (hD.get 1 rfl)))
    exact bodyPost_ret (v := .tuple #[.agg #[.slice none 0 0, .string ⟨#[]⟩, .int .i64 0], .int .i64 1]) (by simp [results, Try.results26, go_sem, *]) rfl (HP.out _ (by (repeat (refine Up.setCell ?_ _ _ _ (by omega))); exact hD.up))
set_option maxHeartbeats 8000000 in
set_option maxRecDepth 100000 in
theorem ref10_Put_good (x : LfD) (hx : x.Sm) (k v : ByteArray) (hk : k.size ≤ 1000) (hv : v.size ≤ 1000) (g o c : Nat) (sp : Option Nat) (w : World) (hA : SlAt w (some ⟨g, o, sp⟩) c x.l) (hm : mayPut x k v = true) :
    Calls Try.prog 26 #[lfV x (some ⟨g, o, sp⟩) c, .string k, .string v] w (LfPost w (pD x k v) (pE x k v)) := by
  have hm' := hm
  rw [mayPut_iff] at hm
  simp only [Bool.and_eq_true, Bool.or_eq_true, decide_eq_true_eq] at hm
  obtain ⟨⟨⟨h1, h2⟩, h3⟩, h4⟩ := hm
  have hsm := right_sm h1
  have CR := Lib.hid (fun w hA => ref10_Right x hx (some ⟨g, o, sp⟩) c w hA)
  have CF := Lib.hid (fun w hA => ref10_find x hx k hk (some ⟨g, o, sp⟩) c w hA)
  have C1 := Lib.hid (ref5_Key k)
  have C2 := Lib.hid (ref5_Value v)
  have C3 := Lib.hid (fun w => ref5_Less k x.high w (by omega) (by have := hx.high; omega))
  rw [h1] at CR
  rw [h2] at C1
  rw [h3] at C2
  have hI := findI_le x.l k
  obtain ⟨J, hJ⟩ : ∃ J, J = (if findB x.l k then findI x.l k + 1 else findI x.l k) := ⟨_, rfl⟩
  have hJ1 : findI x.l k ≤ J := by rw [hJ]; split <;> omega
  have hJ2 : J ≤ x.l.length := by
    rw [hJ]; split
    · rename_i hB
      obtain ⟨h, -⟩ := findB_iff.1 hB
      omega
    · exact hI
  have HL := Lib.hid (show putL x.l k v = overL x.l [(k, v)] (findI x.l k) J by rw [putL_over, ← hJ]; rfl)
  have hM := overL_length (ws := [(k, v)]) hJ1 hJ2
  rw [← HL.out] at hM
  have hlen : (putL x.l k v).length ≤ 1000 := by rw [hM]; simp; omega
  have HC := Lib.hid (show cellsP (x.l.take (findI x.l k)) ++ [.string k, .string v] ++ cellsP (x.l.drop J) = cellsP (putL x.l k v) by rw [HL.out, overL, cellsP_append, cellsP_append]; rfl)
  have hE : ∀ p ∈ putL x.l k v, p.1.size ≤ 1000 ∧ p.2.size ≤ 1000 := fun p hp => by
    rw [HL.out, overL, List.mem_append, List.mem_append] at hp
    rcases hp with (hp | hp) | hp
    · exact hx.each p (List.mem_of_mem_take hp)
    · rw [List.mem_singleton] at hp; subst hp; exact ⟨hk, hv⟩
    · exact hx.each p (List.mem_of_mem_drop hp)
  have CW := Lib.hid (fun q' c' w hA => ref10_weight (putL x.l k v) hlen hE q' c' w hA)
  have hwb := wtL_take hE hlen (putL x.l k v).length
  rw [List.take_length] at hwb
  have HP := Lib.hid (show ∀ w' q' c', Below w.heap.size w w' → (slR q' c' (putL x.l k v)).holds w' → NewQ w q' → LfPost w (pD x k v) (pE x k v) (.returned (.tuple #[if wtL (putL x.l k v) ≤ 231 then .agg #[.slice q' (putL x.l k v).length c', .string x.high, .int .i64 x.next] else .agg #[.slice none 0 0, .string ⟨#[]⟩, .int .i64 0], .int .i64 (if wtL (putL x.l k v) ≤ 231 then 0 else 6)])) w' from fun w' q' c' hb hs hn => by
    by_cases hw : wtL (putL x.l k v) ≤ 231
    · have e1 : pE x k v = 0 := by simp [pE, hm', hw]
      have e2 : pD x k v = ⟨putL x.l k v, x.high, x.next⟩ := by simp [pD, e1]
      rw [e1, e2, if_pos hw, if_pos hw]
      exact ⟨q', c', rfl, hs, hn, hb⟩
    · have e1 : pE x k v = 6 := by simp [pE, hm', hw]
      have e2 : pD x k v = noneL := by simp [pD, e1]
      rw [e1, e2, if_neg hw, if_neg hw]
      exact ⟨none, 0, rfl, (slR_nil w').1, (slR_nil w).2, hb⟩)
  generalize LfPost w (pD x k v) (pE x k v) = PP at *
  have HM := Lib.hid (show (putL x.l k v).length = findI x.l k + 1 + (x.l.length - J) from hM)
  clear HL hE hm' h1 h2 h3 hM
  generalize putL x.l k v = L' at *
  obtain ⟨I, hI'⟩ : ∃ I, I = findI x.l k := ⟨_, rfl⟩
  rw [← hI'] at CF HC HM hJ hI hJ1
  clear hI'
  have i0 : (I : Int) ≤ 1000 := by omega
  have i1 : (0 : Int) ≤ (I : Int) := by omega
  obtain ⟨L, H, N⟩ := x
  simp only [lfV] at *
  replace hA : SlAt w (some ⟨g, o, sp⟩) c L := hA
  have HA := Lib.hid hA
  have hlc := hA.2.1
  have u1 := Lib.hid (cellsP_one (L.take I))
  have u3 := Lib.hid (cellsP_one (L.drop J))
  have ht1 := Lib.hid (show (cellsP (L.take I)).length = I * 2 by rw [cellsP_length, List.length_take]; omega)
  have ht3 := Lib.hid (show (cellsP (L.drop J)).length = (L.length - J) * 2 by rw [cellsP_length, List.length_drop])
  have B1 := Lib.hid (show 0 + I ≤ 2000 by omega)
  have B2 := Lib.hid (show I + 1 ≤ 2000 by omega)
  have B3 := Lib.hid (show I + 1 + (L.length - J) ≤ 2000 by omega)
  clear hA hsm hx
  have hII : (I : Int) ≤ (L.length : Int) := by omega
  have i4 : (L.length : Int) ≤ (c : Int) := by omega
  have i5 : (J : Int) ≤ (L.length : Int) := by omega
  have i6 : (0 : Int) ≤ (J : Int) := by omega
  have key : (H.toList = [] ∧ H.toList.isEmpty = true) ∨ (¬ H.toList = [] ∧ H.toList.isEmpty = false ∧ ltS k H = true) := by
    by_cases h : H = ByteArray.empty
    · exact .inl (by subst h; rw [Lib.toList_data]; exact ⟨rfl, rfl⟩)
    · exact .inr ⟨toList_ne h, toList_nonempty h, h4.resolve_left h⟩
  clear h4
  obtain ⟨inf, hi0', hz0, hz1, hz2⟩ := infoPair
  have HZ := Lib.hid hwb
  clear hwb
  generalize hX1 : cellsP (L.take I) = X1 at *
  generalize hX3 : cellsP (L.drop J) = X3 at *
  have HX1 := Lib.hid hX1
  have HX3 := Lib.hid hX3
  clear hX1 hX3
  cases hB : findB L k
  · rw [hB] at CF hJ
    simp only [Bool.false_eq_true, if_false] at hJ
    clear hB
    have HJ := Lib.hid (show (I : Int) = (J : Int) by omega)
    clear hJ hI hJ1 hJ2 hlc
    go_enter Try.func26, Try.ntmps26
    go_upto_region 1 with fail
    have hD := ((Hold.start w).madeRow (.slice (some ⟨g, o, sp⟩) L.length c) [.string H, .int .i64 N] 29).madeRow (.slice none 0 0) [.string ⟨#[]⟩, .int .i64 0] 29
    simp only [World.size_alloc, List.nil_append] at hD
    generalize (w.alloc (.cells #[.slice (some ⟨g, o, sp⟩) L.length c, .string H, .int .i64 N] 29)).alloc (.cells #[.slice none 0 0, .string ⟨#[]⟩, .int .i64 0] 29) = w0 at *
    replace hD : Hold w w0 [rowR w.heap.size (.slice (some ⟨g, o, sp⟩) L.length c) [.string H, .int .i64 N], rowR (w.heap.size + 1) (.slice none 0 0) [.string ⟨#[]⟩, .int .i64 0]] := hD
    obtain ⟨t0, t1, t2, f0, f1, f2⟩ := RowAt.c3 (hD.get 0 rfl)
    obtain ⟨s0, s1, s2, z0, z1, z2⟩ := RowAt.c3 (hD.get 1 rfl)
    go_cut [36] (fun v36 wx => v36 = .bool false ∧ Hold w wx [rowR w.heap.size (.slice (some ⟨g, o, sp⟩) L.length c) [.string H, .int .i64 N], rowR (w.heap.size + 1) (.slice none 0 0) [.string ⟨#[]⟩, .int .i64 0]])
    case first =>
      rcases key with ⟨e1, e2⟩ | ⟨e1, e2, e3⟩
      · go_wp2_with (first
          | ((with_reducible refine (CR.out _ (HA.out.up hD.up).pairs).mono ?_); rintro e wn ⟨rfl, hwn⟩; replace hD := hD.next hwn; clear hwn; clear t0 t1 t2 f0 f1 f2 s0 s1 s2 z0 z1 z2; obtain ⟨t0, t1, t2, f0, f1, f2⟩ := RowAt.c3 (hD.get 0 rfl); obtain ⟨s0, s1, s2, z0, z1, z2⟩ := RowAt.c3 (hD.get 1 rfl))
          | ((with_reducible refine (C1.out _).mono ?_); rintro e wn ⟨rfl, rfl⟩) | ((with_reducible refine (C2.out _).mono ?_); rintro e wn ⟨rfl, rfl⟩))
        go_meet
        exact ⟨rfl, hD⟩
      · rw [e3] at C3
        clear e3
        go_wp2_with (first
          | ((with_reducible refine (CR.out _ (HA.out.up hD.up).pairs).mono ?_); rintro e wn ⟨rfl, hwn⟩; replace hD := hD.next hwn; clear hwn; clear t0 t1 t2 f0 f1 f2 s0 s1 s2 z0 z1 z2; obtain ⟨t0, t1, t2, f0, f1, f2⟩ := RowAt.c3 (hD.get 0 rfl); obtain ⟨s0, s1, s2, z0, z1, z2⟩ := RowAt.c3 (hD.get 1 rfl))
          | ((with_reducible refine (C1.out _).mono ?_); rintro e wn ⟨rfl, rfl⟩) | ((with_reducible refine (C2.out _).mono ?_); rintro e wn ⟨rfl, rfl⟩)
          | ((with_reducible refine (C3.out _).mono ?_); rintro e wn ⟨rfl, hwn⟩; replace hD := hD.next hwn; clear hwn; clear t0 t1 t2 f0 f1 f2 s0 s1 s2 z0 z1 z2; obtain ⟨t0, t1, t2, f0, f1, f2⟩ := RowAt.c3 (hD.get 0 rfl); obtain ⟨s0, s1, s2, z0, z1, z2⟩ := RowAt.c3 (hD.get 1 rfl)))
        go_meet
        exact ⟨rfl, hD⟩
    case rest =>
    clear hD key CR C1 C2 C3 t0 t1 t2 f0 f1 f2 s0 s1 s2 z0 z1 z2
    obtain ⟨rfl, hD⟩ := hcut
    obtain ⟨t0, t1, t2, f0, f1, f2⟩ := RowAt.c3 (hD.get 0 rfl)
    obtain ⟨s0, s1, s2, z0, z1, z2⟩ := RowAt.c3 (hD.get 1 rfl)
    go_upto_region 4 with ((with_reducible refine (CF.out _ (HA.out.up hD.up).pairs).mono ?_); rintro e wn ⟨rfl, hwn⟩; replace hD := hD.next hwn; clear hwn; clear t0 t1 t2 f0 f1 f2 s0 s1 s2 z0 z1 z2; obtain ⟨t0, t1, t2, f0, f1, f2⟩ := RowAt.c3 (hD.get 0 rfl); obtain ⟨s0, s1, s2, z0, z1, z2⟩ := RowAt.c3 (hD.get 1 rfl))
    replace hD : Hold w (wn.alloc (.cells #[] 44)) [rowR w.heap.size (.slice (some ⟨g, o, sp⟩) L.length c) [.string H, .int .i64 N], rowR (w.heap.size + 1) (.slice none 0 0) [.string ⟨#[]⟩, .int .i64 0], ownZ 44 2 (.slice (some ⟨wn.heap.size, 0, none⟩) 0 0) 0 []] := hD.madeZ 44 2
    obtain ⟨x0, x1, x2, -⟩ := RowAt.c3 (hD.get 0 rfl)
    go_upto_region 5 with ((with_reducible refine wpList_at 49 ?_); refine wpList_appendIn rfl (.tmp 44) (.tmp 48) 22 rfl 44 inf (.agg #[.string ⟨#[]⟩, .string ⟨#[]⟩]) 2 32 (by kernel_rfl) hi0' hz0 hz1 hz2 rfl (by decide) hD 2 (0) _ ([]) rfl rfl (some ⟨g, o, sp⟩) (I) _ (X1) rfl ht1.out (fun h => by cases h) (fun ad i u h hu => (HA.out.up hD.up).takes I h i u (by simpa only [HX1.out] using hu)) u1.out (by have := B1.out; unfold maxLen; omega) (by have := B1.out; omega) ?_; intro q7 c7 w7 h7 h8 hD)
    simp only [Nat.zero_add, List.nil_append] at hD
    replace hD : Hold w w7 [rowR w.heap.size (.slice (some ⟨g, o, sp⟩) L.length c) [.string H, .int .i64 N], rowR (w.heap.size + 1) (.slice none 0 0) [.string ⟨#[]⟩, .int .i64 0], ownZ 44 2 (.slice q7 I c7) I X1] := hD
    clear h7 h8 x0 x1 x2 t0 t1 t2 f0 f1 f2 s0 s1 s2 z0 z1 z2
    have hF : Hold w (w7.alloc (.cells #[.string k, .string v] 44)) [rowR w.heap.size (.slice (some ⟨g, o, sp⟩) L.length c) [.string H, .int .i64 N], rowR (w.heap.size + 1) (.slice none 0 0) [.string ⟨#[]⟩, .int .i64 0], ownZ 44 2 (.slice q7 I c7) I X1, rowR w7.heap.size (.string k) [.string v]] := hD.madeRow (.string k) [.string v] 44
    clear hD
    have hD := hF
    clear hF
    obtain ⟨t0, t1, t2, f0, f1, f2⟩ := RowAt.c3 (hD.get 0 rfl)
    go_upto_region 8 with ((with_reducible refine wpList_at 55 ?_); refine wpList_appendIn rfl (.tmp 50) (.tmp 54) 22 rfl 44 inf (.agg #[.string ⟨#[]⟩, .string ⟨#[]⟩]) 2 32 (by kernel_rfl) hi0' hz0 hz1 hz2 rfl (by decide) hD 2 (I) _ (X1) rfl rfl (some ⟨w7.heap.size, 0, none⟩) (1) _ ([.string k, .string v]) rfl rfl (fun h => by cases h) (pair_cells (hD.get 3 rfl)) (pair_one k v) (by have := B2.out; unfold maxLen; omega) (by have := B2.out; omega) ?_; intro q7 c7 w7 h7 h8 hD)
    rw [HJ.out]
    have hF : Hold w w7 [rowR w.heap.size (.slice (some ⟨g, o, sp⟩) L.length c) [.string H, .int .i64 N], rowR (w.heap.size + 1) (.slice none 0 0) [.string ⟨#[]⟩, .int .i64 0], ownZ 44 2 (.slice q7 (I + 1) c7) (I + 1) (X1 ++ [.string k, .string v])] := hD.sub (List.sublist_append_left [_, _, _] [_])
    clear hD
    have hD := hF
    clear hF h7 h8 t0 t1 t2 f0 f1 f2 HJ CF
    go_cut [10] (fun v10 wx => ∃ (q9 : Option Addr) (c9 : Nat), v10 = .slice q9 L'.length c9 ∧ L'.length ≤ c9 ∧ (q9 = none → c9 = 0) ∧ Hold w wx [rowR w.heap.size (.slice (some ⟨g, o, sp⟩) L.length c) [.string H, .int .i64 N], rowR (w.heap.size + 1) (.slice none 0 0) [.string ⟨#[]⟩, .int .i64 0], ownZ 44 2 (.slice q9 L'.length c9) L'.length (cellsP L')])
    case first =>
      obtain ⟨t0, t1, t2, -⟩ := RowAt.c3 (hD.get 0 rfl)
      by_cases hcj : c = J
      · have hJL : J = L.length := by omega
        have hcL : c = L.length := by omega
        clear hcj
        subst hJL hcL
        have HMM := HM
        rw [Nat.sub_self] at ht3 B3 HMM
        clear i4 i5
        go_wp2_with ((with_reducible refine wpList_at 64 ?_); refine wpList_appendIn rfl (.tmp 59) (.tmp 63) 22 rfl 44 inf (.agg #[.string ⟨#[]⟩, .string ⟨#[]⟩]) 2 32 (by kernel_rfl) hi0' hz0 hz1 hz2 rfl (by decide) hD 2 (I + 1) _ (X1 ++ [.string k, .string v]) rfl rfl (some ⟨g, o, sp⟩) (0) _ (X3) rfl ht3.out (fun h => by cases h) (fun ad i u h hu => (HA.out.up hD.up).drops L.length ad (fun hh => absurd hh (Nat.lt_irrefl _)) i u (by simpa only [HX3.out] using hu)) u3.out (by have := B3.out; unfold maxLen; omega) (by have := B3.out; omega) ?_; intro q7 c7 w7 h7 h8 hD)
        go_meet
        rw [HMM.out]
        refine ⟨_, _, rfl, h7, h8, ?_⟩
        rw [← HC.out]
        exact hD
      · go_wp2_with ((with_reducible refine wpList_at 64 ?_); refine wpList_appendIn rfl (.tmp 59) (.tmp 63) 22 rfl 44 inf (.agg #[.string ⟨#[]⟩, .string ⟨#[]⟩]) 2 32 (by kernel_rfl) hi0' hz0 hz1 hz2 rfl (by decide) hD 2 (I + 1) _ (X1 ++ [.string k, .string v]) rfl rfl (some ((⟨g, o, sp⟩ : Addr).add (J * 2))) (L.length - J) _ (X3) rfl ht3.out (fun h => by cases h) (fun ad i u h hu => (HA.out.up hD.up).drops J ad (fun hh => (Option.some.inj h).symm) i u (by simpa only [HX3.out] using hu)) u3.out (by have := B3.out; unfold maxLen; omega) (by have := B3.out; omega) ?_; intro q7 c7 w7 h7 h8 hD)
        go_meet
        rw [HM.out]
        refine ⟨_, _, rfl, h7, h8, ?_⟩
        rw [← HC.out]
        exact hD
    case rest =>
    clear hD
    obtain ⟨q9, c9, rfl, h7, h8, hD⟩ := hcut
    have HQ := Lib.hid h8
    clear h8 ht1 ht3 u1 u3 B1 B2 B3 HX1 HX3 HC i4 i5 i6 hII
    have hF : Hold w wc [rowR w.heap.size (.slice (some ⟨g, o, sp⟩) L.length c) [.string H, .int .i64 N], rowR (w.heap.size + 1) (.slice none 0 0) [.string ⟨#[]⟩, .int .i64 0], slR q9 c9 L'] := hold_toSl hD 2 rfl rfl h7 HQ.out
    clear hD h7 HQ
    have hD : Hold w (wc.alloc (.cells #[.slice none 0 0, .string ⟨#[]⟩, .int .i64 0] 29)) [rowR w.heap.size (.slice (some ⟨g, o, sp⟩) L.length c) [.string H, .int .i64 N], rowR (w.heap.size + 1) (.slice none 0 0) [.string ⟨#[]⟩, .int .i64 0], slR q9 c9 L', rowR wc.heap.size (.slice none 0 0) [.string ⟨#[]⟩, .int .i64 0]] := hF.madeRow (.slice none 0 0) [.string ⟨#[]⟩, .int .i64 0] 29
    obtain ⟨t0, t1, t2, -⟩ := RowAt.c3 (hF.get 0 rfl)
    obtain ⟨x0, x1, x2, y0, y1, y2⟩ := RowAt.c3 (hD.get 3 rfl)
    go_upto_region 10 with fail
    clear hD t0 t1 t2 x0 x1 x2 y0 y1 y2
    have hD : Hold w (wc.alloc (.cells #[.slice q9 L'.length c9, .string H, .int .i64 N] 29)) [rowR w.heap.size (.slice (some ⟨g, o, sp⟩) L.length c) [.string H, .int .i64 N], rowR (w.heap.size + 1) (.slice none 0 0) [.string ⟨#[]⟩, .int .i64 0], slR q9 c9 L', rowR wc.heap.size (.slice q9 L'.length c9) [.string H, .int .i64 N]] := hF.madeRow (.slice q9 L'.length c9) [.string H, .int .i64 N] 29
    clear hF
    generalize wc.heap.size = g11 at *
    generalize wc.alloc _ = w11 at *
    have hzz := HZ.out
    by_cases hw : wtL L' ≤ 231
    · simp only [if_pos hw] at HP
      generalize wtL L' = z at *
      have zz0 : 0 ≤ z := hzz.1
      have zz1 : ¬ 231 < z := by omega
      clear hw hzz HZ
      obtain ⟨t0, t1, t2, f0, f1, f2⟩ := RowAt.c3 (hD.get 3 rfl)
      obtain ⟨s0, s1, s2, z0, z1, z2⟩ := RowAt.c3 (hD.get 1 rfl)
      go_wp2_with ((with_reducible refine (CW.out _ _ _ (slR_pairs (hD.get 2 rfl))).mono ?_); rintro e wn ⟨rfl, hwn⟩; replace hD := hD.next hwn; clear hwn t0 t1 t2 f0 f1 f2 s0 s1 s2 z0 z1 z2; obtain ⟨t0, t1, t2, f0, f1, f2⟩ := RowAt.c3 (hD.get 3 rfl); obtain ⟨s0, s1, s2, z0, z1, z2⟩ := RowAt.c3 (hD.get 1 rfl))
      have hE := ((hD.putRow 1 (g := w.heap.size + 1) rfl 0 (.slice q9 L'.length c9) (.slice q9 L'.length c9) [.string ⟨#[]⟩, .int .i64 0] (by simp) rfl).putRow 1 (g := w.heap.size + 1) rfl 1 (.string H) (.slice q9 L'.length c9) [.string H, .int .i64 0] (by simp) rfl).putRow 1 (g := w.heap.size + 1) rfl 2 (.int .i64 N) (.slice q9 L'.length c9) [.string H, .int .i64 N] (by simp) rfl
      exact bodyPost_ret (v := .tuple #[.agg #[.slice q9 L'.length c9, .string H, .int .i64 N], .int .i64 0]) (by simp [results, Try.results26, go_sem, *]) rfl (HP.out _ q9 c9 hE.up (hE.get 2 rfl) (slR_new hE (j := 2) rfl))
    · simp only [if_neg hw] at HP
      generalize wtL L' = z at *
      have zz0 : 0 ≤ z := hzz.1
      have zz1 : 231 < z := by omega
      clear hw hzz HZ
      obtain ⟨t0, t1, t2, f0, f1, f2⟩ := RowAt.c3 (hD.get 3 rfl)
      obtain ⟨s0, s1, s2, z0, z1, z2⟩ := RowAt.c3 (hD.get 1 rfl)
      go_wp2_with ((with_reducible refine (CW.out _ _ _ (slR_pairs (hD.get 2 rfl))).mono ?_); rintro e wn ⟨rfl, hwn⟩; replace hD := hD.next hwn; clear hwn t0 t1 t2 f0 f1 f2 s0 s1 s2 z0 z1 z2; obtain ⟨t0, t1, t2, f0, f1, f2⟩ := RowAt.c3 (hD.get 3 rfl); obtain ⟨s0, s1, s2, z0, z1, z2⟩ := RowAt.c3 (hD.get 1 rfl))
      have hE := ((hD.putRow 1 (g := w.heap.size + 1) rfl 0 (.slice none 0 0) (.slice none 0 0) [.string ⟨#[]⟩, .int .i64 0] (by simp) rfl).putRow 1 (g := w.heap.size + 1) rfl 1 (.string ⟨#[]⟩) (.slice none 0 0) [.string ⟨#[]⟩, .int .i64 0] (by simp) rfl).putRow 1 (g := w.heap.size + 1) rfl 2 (.int .i64 0) (.slice none 0 0) [.string ⟨#[]⟩, .int .i64 0] (by simp) rfl
      exact bodyPost_ret (v := .tuple #[.agg #[.slice none 0 0, .string ⟨#[]⟩, .int .i64 0], .int .i64 6]) (by simp [results, Try.results26, go_sem, *]) rfl (HP.out _ q9 c9 hE.up (hE.get 2 rfl) (slR_new hE (j := 2) rfl))
  · rw [hB] at CF hJ
    simp only [if_true] at hJ
    clear hB
    have HJ := Lib.hid (show (I : Int) + 1 = (J : Int) by omega)
    clear hJ hI hJ1 hJ2 hlc
    go_enter Try.func26, Try.ntmps26
    go_upto_region 1 with fail
    have hD := ((Hold.start w).madeRow (.slice (some ⟨g, o, sp⟩) L.length c) [.string H, .int .i64 N] 29).madeRow (.slice none 0 0) [.string ⟨#[]⟩, .int .i64 0] 29
    simp only [World.size_alloc, List.nil_append] at hD
    generalize (w.alloc (.cells #[.slice (some ⟨g, o, sp⟩) L.length c, .string H, .int .i64 N] 29)).alloc (.cells #[.slice none 0 0, .string ⟨#[]⟩, .int .i64 0] 29) = w0 at *
    replace hD : Hold w w0 [rowR w.heap.size (.slice (some ⟨g, o, sp⟩) L.length c) [.string H, .int .i64 N], rowR (w.heap.size + 1) (.slice none 0 0) [.string ⟨#[]⟩, .int .i64 0]] := hD
    obtain ⟨t0, t1, t2, f0, f1, f2⟩ := RowAt.c3 (hD.get 0 rfl)
    obtain ⟨s0, s1, s2, z0, z1, z2⟩ := RowAt.c3 (hD.get 1 rfl)
    go_cut [36] (fun v36 wx => v36 = .bool false ∧ Hold w wx [rowR w.heap.size (.slice (some ⟨g, o, sp⟩) L.length c) [.string H, .int .i64 N], rowR (w.heap.size + 1) (.slice none 0 0) [.string ⟨#[]⟩, .int .i64 0]])
    case first =>
      rcases key with ⟨e1, e2⟩ | ⟨e1, e2, e3⟩
      · go_wp2_with (first
          | ((with_reducible refine (CR.out _ (HA.out.up hD.up).pairs).mono ?_); rintro e wn ⟨rfl, hwn⟩; replace hD := hD.next hwn; clear hwn; clear t0 t1 t2 f0 f1 f2 s0 s1 s2 z0 z1 z2; obtain ⟨t0, t1, t2, f0, f1, f2⟩ := RowAt.c3 (hD.get 0 rfl); obtain ⟨s0, s1, s2, z0, z1, z2⟩ := RowAt.c3 (hD.get 1 rfl))
          | ((with_reducible refine (C1.out _).mono ?_); rintro e wn ⟨rfl, rfl⟩) | ((with_reducible refine (C2.out _).mono ?_); rintro e wn ⟨rfl, rfl⟩))
        go_meet
        exact ⟨rfl, hD⟩
      · rw [e3] at C3
        clear e3
        go_wp2_with (first
          | ((with_reducible refine (CR.out _ (HA.out.up hD.up).pairs).mono ?_); rintro e wn ⟨rfl, hwn⟩; replace hD := hD.next hwn; clear hwn; clear t0 t1 t2 f0 f1 f2 s0 s1 s2 z0 z1 z2; obtain ⟨t0, t1, t2, f0, f1, f2⟩ := RowAt.c3 (hD.get 0 rfl); obtain ⟨s0, s1, s2, z0, z1, z2⟩ := RowAt.c3 (hD.get 1 rfl))
          | ((with_reducible refine (C1.out _).mono ?_); rintro e wn ⟨rfl, rfl⟩) | ((with_reducible refine (C2.out _).mono ?_); rintro e wn ⟨rfl, rfl⟩)
          | ((with_reducible refine (C3.out _).mono ?_); rintro e wn ⟨rfl, hwn⟩; replace hD := hD.next hwn; clear hwn; clear t0 t1 t2 f0 f1 f2 s0 s1 s2 z0 z1 z2; obtain ⟨t0, t1, t2, f0, f1, f2⟩ := RowAt.c3 (hD.get 0 rfl); obtain ⟨s0, s1, s2, z0, z1, z2⟩ := RowAt.c3 (hD.get 1 rfl)))
        go_meet
        exact ⟨rfl, hD⟩
    case rest =>
    clear hD key CR C1 C2 C3 t0 t1 t2 f0 f1 f2 s0 s1 s2 z0 z1 z2
    obtain ⟨rfl, hD⟩ := hcut
    obtain ⟨t0, t1, t2, f0, f1, f2⟩ := RowAt.c3 (hD.get 0 rfl)
    obtain ⟨s0, s1, s2, z0, z1, z2⟩ := RowAt.c3 (hD.get 1 rfl)
    go_upto_region 4 with ((with_reducible refine (CF.out _ (HA.out.up hD.up).pairs).mono ?_); rintro e wn ⟨rfl, hwn⟩; replace hD := hD.next hwn; clear hwn; clear t0 t1 t2 f0 f1 f2 s0 s1 s2 z0 z1 z2; obtain ⟨t0, t1, t2, f0, f1, f2⟩ := RowAt.c3 (hD.get 0 rfl); obtain ⟨s0, s1, s2, z0, z1, z2⟩ := RowAt.c3 (hD.get 1 rfl))
    replace hD : Hold w (wn.alloc (.cells #[] 44)) [rowR w.heap.size (.slice (some ⟨g, o, sp⟩) L.length c) [.string H, .int .i64 N], rowR (w.heap.size + 1) (.slice none 0 0) [.string ⟨#[]⟩, .int .i64 0], ownZ 44 2 (.slice (some ⟨wn.heap.size, 0, none⟩) 0 0) 0 []] := hD.madeZ 44 2
    obtain ⟨x0, x1, x2, -⟩ := RowAt.c3 (hD.get 0 rfl)
    go_upto_region 5 with ((with_reducible refine wpList_at 49 ?_); refine wpList_appendIn rfl (.tmp 44) (.tmp 48) 22 rfl 44 inf (.agg #[.string ⟨#[]⟩, .string ⟨#[]⟩]) 2 32 (by kernel_rfl) hi0' hz0 hz1 hz2 rfl (by decide) hD 2 (0) _ ([]) rfl rfl (some ⟨g, o, sp⟩) (I) _ (X1) rfl ht1.out (fun h => by cases h) (fun ad i u h hu => (HA.out.up hD.up).takes I h i u (by simpa only [HX1.out] using hu)) u1.out (by have := B1.out; unfold maxLen; omega) (by have := B1.out; omega) ?_; intro q7 c7 w7 h7 h8 hD)
    simp only [Nat.zero_add, List.nil_append] at hD
    replace hD : Hold w w7 [rowR w.heap.size (.slice (some ⟨g, o, sp⟩) L.length c) [.string H, .int .i64 N], rowR (w.heap.size + 1) (.slice none 0 0) [.string ⟨#[]⟩, .int .i64 0], ownZ 44 2 (.slice q7 I c7) I X1] := hD
    clear h7 h8 x0 x1 x2 t0 t1 t2 f0 f1 f2 s0 s1 s2 z0 z1 z2
    have hF : Hold w (w7.alloc (.cells #[.string k, .string v] 44)) [rowR w.heap.size (.slice (some ⟨g, o, sp⟩) L.length c) [.string H, .int .i64 N], rowR (w.heap.size + 1) (.slice none 0 0) [.string ⟨#[]⟩, .int .i64 0], ownZ 44 2 (.slice q7 I c7) I X1, rowR w7.heap.size (.string k) [.string v]] := hD.madeRow (.string k) [.string v] 44
    clear hD
    have hD := hF
    clear hF
    obtain ⟨t0, t1, t2, f0, f1, f2⟩ := RowAt.c3 (hD.get 0 rfl)
    go_upto_region 8 with ((with_reducible refine wpList_at 55 ?_); refine wpList_appendIn rfl (.tmp 50) (.tmp 54) 22 rfl 44 inf (.agg #[.string ⟨#[]⟩, .string ⟨#[]⟩]) 2 32 (by kernel_rfl) hi0' hz0 hz1 hz2 rfl (by decide) hD 2 (I) _ (X1) rfl rfl (some ⟨w7.heap.size, 0, none⟩) (1) _ ([.string k, .string v]) rfl rfl (fun h => by cases h) (pair_cells (hD.get 3 rfl)) (pair_one k v) (by have := B2.out; unfold maxLen; omega) (by have := B2.out; omega) ?_; intro q7 c7 w7 h7 h8 hD)
    rw [HJ.out]
    have hF : Hold w w7 [rowR w.heap.size (.slice (some ⟨g, o, sp⟩) L.length c) [.string H, .int .i64 N], rowR (w.heap.size + 1) (.slice none 0 0) [.string ⟨#[]⟩, .int .i64 0], ownZ 44 2 (.slice q7 (I + 1) c7) (I + 1) (X1 ++ [.string k, .string v])] := hD.sub (List.sublist_append_left [_, _, _] [_])
    clear hD
    have hD := hF
    clear hF h7 h8 t0 t1 t2 f0 f1 f2 HJ CF
    go_cut [10] (fun v10 wx => ∃ (q9 : Option Addr) (c9 : Nat), v10 = .slice q9 L'.length c9 ∧ L'.length ≤ c9 ∧ (q9 = none → c9 = 0) ∧ Hold w wx [rowR w.heap.size (.slice (some ⟨g, o, sp⟩) L.length c) [.string H, .int .i64 N], rowR (w.heap.size + 1) (.slice none 0 0) [.string ⟨#[]⟩, .int .i64 0], ownZ 44 2 (.slice q9 L'.length c9) L'.length (cellsP L')])
    case first =>
      obtain ⟨t0, t1, t2, -⟩ := RowAt.c3 (hD.get 0 rfl)
      by_cases hcj : c = J
      · have hJL : J = L.length := by omega
        have hcL : c = L.length := by omega
        clear hcj
        subst hJL hcL
        have HMM := HM
        rw [Nat.sub_self] at ht3 B3 HMM
        clear i4 i5
        go_wp2_with ((with_reducible refine wpList_at 64 ?_); refine wpList_appendIn rfl (.tmp 59) (.tmp 63) 22 rfl 44 inf (.agg #[.string ⟨#[]⟩, .string ⟨#[]⟩]) 2 32 (by kernel_rfl) hi0' hz0 hz1 hz2 rfl (by decide) hD 2 (I + 1) _ (X1 ++ [.string k, .string v]) rfl rfl (some ⟨g, o, sp⟩) (0) _ (X3) rfl ht3.out (fun h => by cases h) (fun ad i u h hu => (HA.out.up hD.up).drops L.length ad (fun hh => absurd hh (Nat.lt_irrefl _)) i u (by simpa only [HX3.out] using hu)) u3.out (by have := B3.out; unfold maxLen; omega) (by have := B3.out; omega) ?_; intro q7 c7 w7 h7 h8 hD)
        go_meet
        rw [HMM.out]
        refine ⟨_, _, rfl, h7, h8, ?_⟩
        rw [← HC.out]
        exact hD
      · go_wp2_with ((with_reducible refine wpList_at 64 ?_); refine wpList_appendIn rfl (.tmp 59) (.tmp 63) 22 rfl 44 inf (.agg #[.string ⟨#[]⟩, .string ⟨#[]⟩]) 2 32 (by kernel_rfl) hi0' hz0 hz1 hz2 rfl (by decide) hD 2 (I + 1) _ (X1 ++ [.string k, .string v]) rfl rfl (some ((⟨g, o, sp⟩ : Addr).add (J * 2))) (L.length - J) _ (X3) rfl ht3.out (fun h => by cases h) (fun ad i u h hu => (HA.out.up hD.up).drops J ad (fun hh => (Option.some.inj h).symm) i u (by simpa only [HX3.out] using hu)) u3.out (by have := B3.out; unfold maxLen; omega) (by have := B3.out; omega) ?_; intro q7 c7 w7 h7 h8 hD)
        go_meet
        rw [HM.out]
        refine ⟨_, _, rfl, h7, h8, ?_⟩
        rw [← HC.out]
        exact hD
    case rest =>
    clear hD
    obtain ⟨q9, c9, rfl, h7, h8, hD⟩ := hcut
    have HQ := Lib.hid h8
    clear h8 ht1 ht3 u1 u3 B1 B2 B3 HX1 HX3 HC i4 i5 i6 hII
    have hF : Hold w wc [rowR w.heap.size (.slice (some ⟨g, o, sp⟩) L.length c) [.string H, .int .i64 N], rowR (w.heap.size + 1) (.slice none 0 0) [.string ⟨#[]⟩, .int .i64 0], slR q9 c9 L'] := hold_toSl hD 2 rfl rfl h7 HQ.out
    clear hD h7 HQ
    have hD : Hold w (wc.alloc (.cells #[.slice none 0 0, .string ⟨#[]⟩, .int .i64 0] 29)) [rowR w.heap.size (.slice (some ⟨g, o, sp⟩) L.length c) [.string H, .int .i64 N], rowR (w.heap.size + 1) (.slice none 0 0) [.string ⟨#[]⟩, .int .i64 0], slR q9 c9 L', rowR wc.heap.size (.slice none 0 0) [.string ⟨#[]⟩, .int .i64 0]] := hF.madeRow (.slice none 0 0) [.string ⟨#[]⟩, .int .i64 0] 29
    obtain ⟨t0, t1, t2, -⟩ := RowAt.c3 (hF.get 0 rfl)
    obtain ⟨x0, x1, x2, y0, y1, y2⟩ := RowAt.c3 (hD.get 3 rfl)
    go_upto_region 10 with fail
    clear hD t0 t1 t2 x0 x1 x2 y0 y1 y2
    have hD : Hold w (wc.alloc (.cells #[.slice q9 L'.length c9, .string H, .int .i64 N] 29)) [rowR w.heap.size (.slice (some ⟨g, o, sp⟩) L.length c) [.string H, .int .i64 N], rowR (w.heap.size + 1) (.slice none 0 0) [.string ⟨#[]⟩, .int .i64 0], slR q9 c9 L', rowR wc.heap.size (.slice q9 L'.length c9) [.string H, .int .i64 N]] := hF.madeRow (.slice q9 L'.length c9) [.string H, .int .i64 N] 29
    clear hF
    generalize wc.heap.size = g11 at *
    generalize wc.alloc _ = w11 at *
    have hzz := HZ.out
    by_cases hw : wtL L' ≤ 231
    · simp only [if_pos hw] at HP
      generalize wtL L' = z at *
      have zz0 : 0 ≤ z := hzz.1
      have zz1 : ¬ 231 < z := by omega
      clear hw hzz HZ
      obtain ⟨t0, t1, t2, f0, f1, f2⟩ := RowAt.c3 (hD.get 3 rfl)
      obtain ⟨s0, s1, s2, z0, z1, z2⟩ := RowAt.c3 (hD.get 1 rfl)
      go_wp2_with ((with_reducible refine (CW.out _ _ _ (slR_pairs (hD.get 2 rfl))).mono ?_); rintro e wn ⟨rfl, hwn⟩; replace hD := hD.next hwn; clear hwn t0 t1 t2 f0 f1 f2 s0 s1 s2 z0 z1 z2; obtain ⟨t0, t1, t2, f0, f1, f2⟩ := RowAt.c3 (hD.get 3 rfl); obtain ⟨s0, s1, s2, z0, z1, z2⟩ := RowAt.c3 (hD.get 1 rfl))
      have hE := ((hD.putRow 1 (g := w.heap.size + 1) rfl 0 (.slice q9 L'.length c9) (.slice q9 L'.length c9) [.string ⟨#[]⟩, .int .i64 0] (by simp) rfl).putRow 1 (g := w.heap.size + 1) rfl 1 (.string H) (.slice q9 L'.length c9) [.string H, .int .i64 0] (by simp) rfl).putRow 1 (g := w.heap.size + 1) rfl 2 (.int .i64 N) (.slice q9 L'.length c9) [.string H, .int .i64 N] (by simp) rfl
      exact bodyPost_ret (v := .tuple #[.agg #[.slice q9 L'.length c9, .string H, .int .i64 N], .int .i64 0]) (by simp [results, Try.results26, go_sem, *]) rfl (HP.out _ q9 c9 hE.up (hE.get 2 rfl) (slR_new hE (j := 2) rfl))
    · simp only [if_neg hw] at HP
      generalize wtL L' = z at *
      have zz0 : 0 ≤ z := hzz.1
      have zz1 : 231 < z := by omega
      clear hw hzz HZ
      obtain ⟨t0, t1, t2, f0, f1, f2⟩ := RowAt.c3 (hD.get 3 rfl)
      obtain ⟨s0, s1, s2, z0, z1, z2⟩ := RowAt.c3 (hD.get 1 rfl)
      go_wp2_with ((with_reducible refine (CW.out _ _ _ (slR_pairs (hD.get 2 rfl))).mono ?_); rintro e wn ⟨rfl, hwn⟩; replace hD := hD.next hwn; clear hwn t0 t1 t2 f0 f1 f2 s0 s1 s2 z0 z1 z2; obtain ⟨t0, t1, t2, f0, f1, f2⟩ := RowAt.c3 (hD.get 3 rfl); obtain ⟨s0, s1, s2, z0, z1, z2⟩ := RowAt.c3 (hD.get 1 rfl))
      have hE := ((hD.putRow 1 (g := w.heap.size + 1) rfl 0 (.slice none 0 0) (.slice none 0 0) [.string ⟨#[]⟩, .int .i64 0] (by simp) rfl).putRow 1 (g := w.heap.size + 1) rfl 1 (.string ⟨#[]⟩) (.slice none 0 0) [.string ⟨#[]⟩, .int .i64 0] (by simp) rfl).putRow 1 (g := w.heap.size + 1) rfl 2 (.int .i64 0) (.slice none 0 0) [.string ⟨#[]⟩, .int .i64 0] (by simp) rfl
      exact bodyPost_ret (v := .tuple #[.agg #[.slice none 0 0, .string ⟨#[]⟩, .int .i64 0], .int .i64 6]) (by simp [results, Try.results26, go_sem, *]) rfl (HP.out _ q9 c9 hE.up (hE.get 2 rfl) (slR_new hE (j := 2) rfl))
theorem ref10_Put (x : LfD) (hx : x.Sm) (k v : ByteArray) (hk : k.size ≤ 1000) (hv : v.size ≤ 1000) (g o c : Nat) (sp : Option Nat) (w : World) (hA : SlAt w (some ⟨g, o, sp⟩) c x.l) :
    Calls Try.prog 26 #[lfV x (some ⟨g, o, sp⟩) c, .string k, .string v] w (LfPost w (pD x k v) (pE x k v)) := by
  cases hm : mayPut x k v
  · exact ref10_Put_bad x hx k v hk g o c sp w hA hm
  · exact ref10_Put_good x hx k v hk hv g o c sp w hA hm
end Go.Proofs.Ytdlcmbnbfghdmaa
