/- Layer 10, the document's answer: Del. -/
import Derived.Test.YtdlcmbnbfghdmaaLfRef5
namespace Go.Proofs.Ytdlcmbnbfghdmaa
open Go.RowKit Bw
set_option linter.unusedVariables false
set_option maxHeartbeats 4000000 in
set_option maxRecDepth 100000 in
theorem ref10_Del (x : LfD) (hx : x.Sm) (k : ByteArray) (hk : k.size ≤ 1000) (g o c : Nat) (sp : Option Nat) (w : World) (hA : SlAt w (some ⟨g, o, sp⟩) c x.l) :
    Calls Try.prog 28 #[lfV x (some ⟨g, o, sp⟩) c, .string k] w (LfPost w (dD x k) (dE x k)) := by
  have CR := Lib.hid (fun w hA => ref10_Right x hx (some ⟨g, o, sp⟩) c w hA)
  have CF := Lib.hid (fun w hA => ref10_find x hx k hk (some ⟨g, o, sp⟩) c w hA)
  cases h1 : x.right
  · have e1 : dE x k = 1 := by simp [dE, h1]
    have HP := Lib.hid (post_none (w := w) (show dD x k = noneL by simp [dD, e1]) e1)
    generalize LfPost w (dD x k) (dE x k) = PP at *
    rw [h1] at CR
    clear h1 e1
    obtain ⟨L, H, N⟩ := x
    simp only [lfV] at *
    replace hA : SlAt w (some ⟨g, o, sp⟩) c L := hA
    have HA := Lib.hid hA
    clear hA hx
    go_enter Try.func28, Try.ntmps28
    go_upto_region 1 with fail
    have hD := ((Hold.start w).madeRow (.slice (some ⟨g, o, sp⟩) L.length c) [.string H, .int .i64 N] 29).madeRow (.slice none 0 0) [.string ⟨#[]⟩, .int .i64 0] 29
    simp only [World.size_alloc, List.nil_append] at hD
    generalize (w.alloc (.cells #[.slice (some ⟨g, o, sp⟩) L.length c, .string H, .int .i64 N] 29)).alloc (.cells #[.slice none 0 0, .string ⟨#[]⟩, .int .i64 0] 29) = w0 at *
    replace hD : Hold w w0 [rowR w.heap.size (.slice (some ⟨g, o, sp⟩) L.length c) [.string H, .int .i64 N], rowR (w.heap.size + 1) (.slice none 0 0) [.string ⟨#[]⟩, .int .i64 0]] := hD
    obtain ⟨t0, t1, t2, f0, f1, f2⟩ := RowAt.c3 (hD.get 0 rfl)
    obtain ⟨s0, s1, s2, z0, z1, z2⟩ := RowAt.c3 (hD.get 1 rfl)
    go_wp2_with (first
      | ((with_reducible refine (CR.out _ (HA.out.up hD.up).pairs).mono ?_); rintro e wn ⟨rfl, hwn⟩; replace hD := hD.next hwn; clear hwn; clear t0 t1 t2 f0 f1 f2 s0 s1 s2 z0 z1 z2; obtain ⟨t0, t1, t2, f0, f1, f2⟩ := RowAt.c3 (hD.get 0 rfl); obtain ⟨s0, s1, s2, z0, z1, z2⟩ := RowAt.c3 (hD.get 1 rfl))
      | ((with_reducible refine (CF.out _ (HA.out.up hD.up).pairs).mono ?_); rintro e wn ⟨rfl, hwn⟩; replace hD := hD.next hwn; clear hwn; clear t0 t1 t2 f0 f1 f2 s0 s1 s2 z0 z1 z2; obtain ⟨t0, t1, t2, f0, f1, f2⟩ := RowAt.c3 (hD.get 0 rfl); obtain ⟨s0, s1, s2, z0, z1, z2⟩ := RowAt.c3 (hD.get 1 rfl)))
    exact bodyPost_ret (v := .tuple #[.agg #[.slice none 0 0, .string ⟨#[]⟩, .int .i64 0], .int .i64 1]) (by simp [results, Try.results28, go_sem, *]) rfl (HP.out _ (by (repeat (refine Up.setCell ?_ _ _ _ (by omega))); exact hD.up))
  rw [h1] at CR
  cases hB : findB x.l k
  · have e1 : dE x k = 7 := by simp [dE, h1, hB]
    have HP := Lib.hid (post_none (w := w) (show dD x k = noneL by simp [dD, e1]) e1)
    generalize LfPost w (dD x k) (dE x k) = PP at *
    rw [hB] at CF
    clear h1 e1 hB
    obtain ⟨L, H, N⟩ := x
    simp only [lfV] at *
    replace hA : SlAt w (some ⟨g, o, sp⟩) c L := hA
    have HA := Lib.hid hA
    clear hA hx
    go_enter Try.func28, Try.ntmps28
    go_upto_region 1 with fail
    have hD := ((Hold.start w).madeRow (.slice (some ⟨g, o, sp⟩) L.length c) [.string H, .int .i64 N] 29).madeRow (.slice none 0 0) [.string ⟨#[]⟩, .int .i64 0] 29
    simp only [World.size_alloc, List.nil_append] at hD
    generalize (w.alloc (.cells #[.slice (some ⟨g, o, sp⟩) L.length c, .string H, .int .i64 N] 29)).alloc (.cells #[.slice none 0 0, .string ⟨#[]⟩, .int .i64 0] 29) = w0 at *
    replace hD : Hold w w0 [rowR w.heap.size (.slice (some ⟨g, o, sp⟩) L.length c) [.string H, .int .i64 N], rowR (w.heap.size + 1) (.slice none 0 0) [.string ⟨#[]⟩, .int .i64 0]] := hD
    obtain ⟨t0, t1, t2, f0, f1, f2⟩ := RowAt.c3 (hD.get 0 rfl)
    obtain ⟨s0, s1, s2, z0, z1, z2⟩ := RowAt.c3 (hD.get 1 rfl)
    go_wp2_with (first
      | ((with_reducible refine (CR.out _ (HA.out.up hD.up).pairs).mono ?_); rintro e wn ⟨rfl, hwn⟩; replace hD := hD.next hwn; clear hwn; clear t0 t1 t2 f0 f1 f2 s0 s1 s2 z0 z1 z2; obtain ⟨t0, t1, t2, f0, f1, f2⟩ := RowAt.c3 (hD.get 0 rfl); obtain ⟨s0, s1, s2, z0, z1, z2⟩ := RowAt.c3 (hD.get 1 rfl))
      | ((with_reducible refine (CF.out _ (HA.out.up hD.up).pairs).mono ?_); rintro e wn ⟨rfl, hwn⟩; replace hD := hD.next hwn; clear hwn; clear t0 t1 t2 f0 f1 f2 s0 s1 s2 z0 z1 z2; obtain ⟨t0, t1, t2, f0, f1, f2⟩ := RowAt.c3 (hD.get 0 rfl); obtain ⟨s0, s1, s2, z0, z1, z2⟩ := RowAt.c3 (hD.get 1 rfl)))
    exact bodyPost_ret (v := .tuple #[.agg #[.slice none 0 0, .string ⟨#[]⟩, .int .i64 0], .int .i64 7]) (by simp [results, Try.results28, go_sem, *]) rfl (HP.out _ (by (repeat (refine Up.setCell ?_ _ _ _ (by omega))); exact hD.up))
  obtain ⟨hI, -⟩ := findB_iff.1 hB
  have hsm := right_sm h1
  have HL := Lib.hid (show delL x.l k = overL x.l [] (findI x.l k) (findI x.l k + 1) from delL_over x.l k)
  have hM := overL_length (l := x.l) (ws := []) (i := findI x.l k) (j := findI x.l k + 1) (by omega) (by omega)
  rw [← HL.out] at hM
  have HC := Lib.hid (show cellsP (x.l.take (findI x.l k)) ++ cellsP (x.l.drop (findI x.l k + 1)) = cellsP (delL x.l k) by rw [HL.out, overL, cellsP_append, cellsP_append]; simp [cellsP])
  have e1 : dE x k = 0 := by simp [dE, h1, hB]
  have e2 : dD x k = ⟨delL x.l k, x.high, x.next⟩ := by simp [dD, e1]
  have HP := Lib.hid (show ∀ w' q' c', Below w.heap.size w w' → (slR q' c' (delL x.l k)).holds w' → NewQ w q' → LfPost w (dD x k) (dE x k) (.returned (.tuple #[.agg #[.slice q' (delL x.l k).length c', .string x.high, .int .i64 x.next], .int .i64 0])) w' from fun w' q' c' hb hs hn => by
    rw [e1, e2]; exact ⟨q', c', rfl, hs, hn, hb⟩)
  generalize LfPost w (dD x k) (dE x k) = PP at *
  rw [hB] at CF
  have HM := Lib.hid (show (delL x.l k).length = findI x.l k + (x.l.length - (findI x.l k + 1)) from by rw [hM]; simp)
  clear HL h1 e1 e2 hB hM
  generalize delL x.l k = L' at *
  generalize findI x.l k = I at *
  have i0 : (I : Int) ≤ 1000 := by omega
  have i1 : (0 : Int) ≤ (I : Int) := by omega
  obtain ⟨L, H, N⟩ := x
  simp only [lfV] at *
  replace hA : SlAt w (some ⟨g, o, sp⟩) c L := hA
  have HA := Lib.hid hA
  have hlc := hA.2.1
  replace hI : I < L.length := hI
  have u1 := Lib.hid (cellsP_one (L.take I))
  have u3 := Lib.hid (cellsP_one (L.drop (I + 1)))
  have ht1 := Lib.hid (show (cellsP (L.take I)).length = I * 2 by rw [cellsP_length, List.length_take]; omega)
  have ht3 := Lib.hid (show (cellsP (L.drop (I + 1))).length = (L.length - (I + 1)) * 2 by rw [cellsP_length, List.length_drop])
  have B1 := Lib.hid (show 0 + I ≤ 2000 by omega)
  have B3 := Lib.hid (show I + (L.length - (I + 1)) ≤ 2000 by omega)
  have i7 : (L.length : Int) ≤ 1000 := by have : L.length ≤ 77 := hsm.1; omega
  clear hA hsm hx
  have hII : (I : Int) < (L.length : Int) := by omega
  have i4 : (L.length : Int) ≤ (c : Int) := by omega
  obtain ⟨inf, hi0', hz0, hz1, hz2⟩ := infoPair
  generalize hX1 : cellsP (L.take I) = X1 at *
  generalize hX3 : cellsP (L.drop (I + 1)) = X3 at *
  have HX1 := Lib.hid hX1
  have HX3 := Lib.hid hX3
  clear hX1 hX3
  go_enter Try.func28, Try.ntmps28
  go_upto_region 1 with fail
  have hD := ((Hold.start w).madeRow (.slice (some ⟨g, o, sp⟩) L.length c) [.string H, .int .i64 N] 29).madeRow (.slice none 0 0) [.string ⟨#[]⟩, .int .i64 0] 29
  simp only [World.size_alloc, List.nil_append] at hD
  generalize (w.alloc (.cells #[.slice (some ⟨g, o, sp⟩) L.length c, .string H, .int .i64 N] 29)).alloc (.cells #[.slice none 0 0, .string ⟨#[]⟩, .int .i64 0] 29) = w0 at *
  replace hD : Hold w w0 [rowR w.heap.size (.slice (some ⟨g, o, sp⟩) L.length c) [.string H, .int .i64 N], rowR (w.heap.size + 1) (.slice none 0 0) [.string ⟨#[]⟩, .int .i64 0]] := hD
  obtain ⟨t0, t1, t2, f0, f1, f2⟩ := RowAt.c3 (hD.get 0 rfl)
  obtain ⟨s0, s1, s2, z0, z1, z2⟩ := RowAt.c3 (hD.get 1 rfl)
  go_upto_region 6 with (first
    | ((with_reducible refine (CR.out _ (HA.out.up hD.up).pairs).mono ?_); rintro e wn ⟨rfl, hwn⟩; replace hD := hD.next hwn; clear hwn; clear t0 t1 t2 f0 f1 f2 s0 s1 s2 z0 z1 z2; obtain ⟨t0, t1, t2, f0, f1, f2⟩ := RowAt.c3 (hD.get 0 rfl); obtain ⟨s0, s1, s2, z0, z1, z2⟩ := RowAt.c3 (hD.get 1 rfl))
    | ((with_reducible refine (CF.out _ (HA.out.up hD.up).pairs).mono ?_); rintro e wn ⟨rfl, hwn⟩; replace hD := hD.next hwn; clear hwn; clear t0 t1 t2 f0 f1 f2 s0 s1 s2 z0 z1 z2; obtain ⟨t0, t1, t2, f0, f1, f2⟩ := RowAt.c3 (hD.get 0 rfl); obtain ⟨s0, s1, s2, z0, z1, z2⟩ := RowAt.c3 (hD.get 1 rfl)))
  replace hD : Hold w (wn.alloc (.cells #[] 44)) [rowR w.heap.size (.slice (some ⟨g, o, sp⟩) L.length c) [.string H, .int .i64 N], rowR (w.heap.size + 1) (.slice none 0 0) [.string ⟨#[]⟩, .int .i64 0], ownZ 44 2 (.slice (some ⟨wn.heap.size, 0, none⟩) 0 0) 0 []] := hD.madeZ 44 2
  obtain ⟨x0, x1, x2, -⟩ := RowAt.c3 (hD.get 0 rfl)
  go_upto_region 7 with ((with_reducible refine wpList_at 27 ?_); refine wpList_appendIn rfl (.tmp 22) (.tmp 26) 22 rfl 44 inf (.agg #[.string ⟨#[]⟩, .string ⟨#[]⟩]) 2 32 (by kernel_rfl) hi0' hz0 hz1 hz2 rfl (by decide) hD 2 (0) _ ([]) rfl rfl (some ⟨g, o, sp⟩) (I) _ (X1) rfl ht1.out (fun h => by cases h) (fun ad i u h hu => (HA.out.up hD.up).takes I h i u (by simpa only [HX1.out] using hu)) u1.out (by have := B1.out; unfold maxLen; omega) (by have := B1.out; omega) ?_; intro q7 c7 w7 h7 h8 hD)
  simp only [Nat.zero_add, List.nil_append] at hD
  replace hD : Hold w w7 [rowR w.heap.size (.slice (some ⟨g, o, sp⟩) L.length c) [.string H, .int .i64 N], rowR (w.heap.size + 1) (.slice none 0 0) [.string ⟨#[]⟩, .int .i64 0], ownZ 44 2 (.slice q7 I c7) I X1] := hD
  clear h7 h8 x0 x1 x2 t0 t1 t2 f0 f1 f2 s0 s1 s2 z0 z1 z2 CR CF
  go_cut [8] (fun v10 wx => ∃ (q9 : Option Addr) (c9 : Nat), v10 = .slice q9 L'.length c9 ∧ L'.length ≤ c9 ∧ (q9 = none → c9 = 0) ∧ Hold w wx [rowR w.heap.size (.slice (some ⟨g, o, sp⟩) L.length c) [.string H, .int .i64 N], rowR (w.heap.size + 1) (.slice none 0 0) [.string ⟨#[]⟩, .int .i64 0], ownZ 44 2 (.slice q9 L'.length c9) L'.length (cellsP L')])
  case first =>
    obtain ⟨t0, t1, t2, -⟩ := RowAt.c3 (hD.get 0 rfl)
    by_cases hcj : c = I + 1
    · have hJL : L.length = I + 1 := by omega
      have i8 : (I : Int) + 1 ≤ (c : Int) := by omega
      subst hcj
      have i9 : (I : Int) + 1 ≤ (L.length : Int) := by omega
      clear hlc hI hII i4 i8
      have HLN := Lib.hid hJL
      clear hJL
      go_wp2_with ((with_reducible refine wpList_at 34 ?_); refine wpList_appendIn rfl (.tmp 28) (.tmp 33) 22 rfl 44 inf (.agg #[.string ⟨#[]⟩, .string ⟨#[]⟩]) 2 32 (by kernel_rfl) hi0' hz0 hz1 hz2 rfl (by decide) hD 2 (I) _ (X1) rfl rfl (some ⟨g, o, sp⟩) (L.length - (I + 1)) _ (X3) rfl ht3.out (fun h => by cases h) (fun ad i u h hu => (HA.out.up hD.up).drops (I + 1) ad (fun hh => absurd (HLN.out ▸ hh : I + 1 < I + 1) (Nat.lt_irrefl _)) i u (by simpa only [HX3.out] using hu)) u3.out (by have := B3.out; unfold maxLen; omega) (by have := B3.out; omega) ?_; intro q7 c7 w7 h7 h8 hD)
      go_meet
      rw [HM.out]
      refine ⟨_, _, rfl, h7, h8, ?_⟩
      rw [← HC.out]
      exact hD
    · have i8 : (I : Int) + 1 ≤ (L.length : Int) := by omega
      go_wp2_with ((with_reducible refine wpList_at 34 ?_); refine wpList_appendIn rfl (.tmp 28) (.tmp 33) 22 rfl 44 inf (.agg #[.string ⟨#[]⟩, .string ⟨#[]⟩]) 2 32 (by kernel_rfl) hi0' hz0 hz1 hz2 rfl (by decide) hD 2 (I) _ (X1) rfl rfl (some ((⟨g, o, sp⟩ : Addr).add ((I + 1) * 2))) (L.length - (I + 1)) _ (X3) rfl ht3.out (fun h => by cases h) (fun ad i u h hu => (HA.out.up hD.up).drops (I + 1) ad (fun hh => (Option.some.inj h).symm) i u (by simpa only [HX3.out] using hu)) u3.out (by have := B3.out; unfold maxLen; omega) (by have := B3.out; omega) ?_; intro q7 c7 w7 h7 h8 hD)
      go_meet
      rw [HM.out]
      refine ⟨_, _, rfl, h7, h8, ?_⟩
      rw [← HC.out]
      exact hD
  case rest =>
  clear hD
  obtain ⟨q9, c9, rfl, h7, h8, hD⟩ := hcut
  have HQ := Lib.hid h8
  clear h8 ht1 ht3 u1 u3 B1 B3 HX1 HX3 HC i4
  have hF : Hold w wc [rowR w.heap.size (.slice (some ⟨g, o, sp⟩) L.length c) [.string H, .int .i64 N], rowR (w.heap.size + 1) (.slice none 0 0) [.string ⟨#[]⟩, .int .i64 0], slR q9 c9 L'] := hold_toSl hD 2 rfl rfl h7 HQ.out
  clear hD h7 HQ
  obtain ⟨t0, t1, t2, -⟩ := RowAt.c3 (hF.get 0 rfl)
  obtain ⟨s0, s1, s2, z0, z1, z2⟩ := RowAt.c3 (hF.get 1 rfl)
  go_wp2_with fail
  have hE := ((hF.putRow 1 (g := w.heap.size + 1) rfl 0 (.slice q9 L'.length c9) (.slice q9 L'.length c9) [.string ⟨#[]⟩, .int .i64 0] (by simp) rfl).putRow 1 (g := w.heap.size + 1) rfl 1 (.string H) (.slice q9 L'.length c9) [.string H, .int .i64 0] (by simp) rfl).putRow 1 (g := w.heap.size + 1) rfl 2 (.int .i64 N) (.slice q9 L'.length c9) [.string H, .int .i64 N] (by simp) rfl
  exact bodyPost_ret (v := .tuple #[.agg #[.slice q9 L'.length c9, .string H, .int .i64 N], .int .i64 0]) (by simp [results, Try.results28, go_sem, *]) rfl (HP.out _ q9 c9 hE.up (hE.get 2 rfl) (slR_new hE (j := 2) rfl))
end Go.Proofs.Ytdlcmbnbfghdmaa
