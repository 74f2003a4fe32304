/- Layer 10, the document's answer: Split. -/
import Derived.Test.YtdlcmbnbfghdmaaLfRef5
import Derived.Test.YtdlcmbnbfghdmaaLfWalk6
namespace Go.Proofs.Ytdlcmbnbfghdmaa
open Go.RowKit Bw
set_option linter.unusedVariables false
theorem PairsAt.take {w : World} {q : Option Addr} {l : List PairD} (h : PairsAt w q l) (n : Nat) : PairsAt w q (l.take n) := fun k hk => by
  have hk' : k < l.length := by rw [List.length_take] at hk; omega
  obtain ⟨g, o, e, c1, c2⟩ := h k hk'
  refine ⟨g, o, e, ?_, ?_⟩ <;> rw [List.getElem_take] <;> assumption
set_option maxHeartbeats 4000000 in
set_option maxRecDepth 100000 in
theorem ref10_Split_bad (x : LfD) (hx : x.Sm) (page : Int) (g o c : Nat) (sp : Option Nat) (w : World) (hA : SlAt w (some ⟨g, o, sp⟩) c x.l) (hm : maySplit x page = false) :
    Calls Try.prog 30 #[lfV x (some ⟨g, o, sp⟩) c, .int .i64 page] w (LfPost2 w (sA x page) (sB x page) (sE x page)) := by
  have HP := Lib.hid (post2_none (w := w) (show sA x page = noneL by simp [sA, hm]) (show sB x page = noneL by simp [sB, hm]) (show sE x page = 1 by simp [sE, hm]))
  generalize LfPost2 w (sA x page) (sB x page) (sE x page) = PP at *
  have CR := Lib.hid (fun w hA => ref10_Right x hx (some ⟨g, o, sp⟩) c w hA)
  rw [maySplit] at hm
  obtain ⟨L, H, N⟩ := x
  simp only [lfV] at *
  replace hA : SlAt w (some ⟨g, o, sp⟩) c L := hA
  have key : LfD.right ⟨L, H, N⟩ = false ∨ (LfD.right ⟨L, H, N⟩ = true ∧ (L.length : Int) < 2) ∨ (LfD.right ⟨L, H, N⟩ = true ∧ ¬ (L.length : Int) < 2 ∧ page < 0) ∨ (LfD.right ⟨L, H, N⟩ = true ∧ ¬ (L.length : Int) < 2 ∧ ¬ page < 0 ∧ 1023 < page) := by
    cases h1 : LfD.right ⟨L, H, N⟩
    · exact .inl rfl
    · simp [h1] at hm
      by_cases h2 : (L.length : Int) < 2
      · exact .inr (.inl ⟨rfl, h2⟩)
      · by_cases h3 : page < 0
        · exact .inr (.inr (.inl ⟨rfl, h2, h3⟩))
        · exact .inr (.inr (.inr ⟨rfl, h2, h3, by have := hm (by omega) (by omega); omega⟩))
  clear hm hx
  rcases key with h1 | ⟨h1, h2⟩ | ⟨h1, h2, h3⟩ | ⟨h1, h2, h3, h4⟩
  all_goals
    rw [h1] at CR
    clear h1
    go_enter Try.func30, Try.ntmps30
    go_upto_region 1 with fail
    have hD := (((Hold.start w).madeRow (.slice (some ⟨g, o, sp⟩) L.length c) [.string H, .int .i64 N] 29).madeRow (.slice none 0 0) [.string ⟨#[]⟩, .int .i64 0] 29).madeRow (.slice none 0 0) [.string ⟨#[]⟩, .int .i64 0] 29
    simp only [World.size_alloc, List.nil_append] at hD
    generalize hw0 : ((w.alloc (.cells #[.slice (some ⟨g, o, sp⟩) L.length c, .string H, .int .i64 N] 29)).alloc (.cells #[.slice none 0 0, .string ⟨#[]⟩, .int .i64 0] 29)).alloc (.cells #[.slice none 0 0, .string ⟨#[]⟩, .int .i64 0] 29) = w0 at *
    replace hD : Hold w w0 [rowR w.heap.size (.slice (some ⟨g, o, sp⟩) L.length c) [.string H, .int .i64 N], rowR (w.heap.size + 1) (.slice none 0 0) [.string ⟨#[]⟩, .int .i64 0], rowR (w.heap.size + 1 + 1) (.slice none 0 0) [.string ⟨#[]⟩, .int .i64 0]] := hD
    clear hw0
    obtain ⟨t0, t1, t2, f0, f1, f2⟩ := RowAt.c3 (hD.get 0 rfl)
    obtain ⟨s0, s1, s2, z0, z1, z2⟩ := RowAt.c3 (hD.get 1 rfl)
    obtain ⟨r0, r1, r2, y0, y1, y2⟩ := RowAt.c3 (hD.get 2 rfl)
    have HA := Lib.hid (hA.up hD.up)
    clear hA
    go_wp2_with ((with_reducible refine (CR.out _ HA.out.pairs).mono ?_); rintro e wn ⟨rfl, hwn⟩; replace hD := hD.next hwn; clear hwn; clear t0 t1 t2 f0 f1 f2 s0 s1 s2 z0 z1 z2 r0 r1 r2 y0 y1 y2; obtain ⟨t0, t1, t2, f0, f1, f2⟩ := RowAt.c3 (hD.get 0 rfl); obtain ⟨s0, s1, s2, z0, z1, z2⟩ := RowAt.c3 (hD.get 1 rfl); obtain ⟨r0, r1, r2, y0, y1, y2⟩ := RowAt.c3 (hD.get 2 rfl))
    exact bodyPost_ret (v := .tuple #[.agg #[.slice none 0 0, .string ⟨#[]⟩, .int .i64 0], .agg #[.slice none 0 0, .string ⟨#[]⟩, .int .i64 0], .int .i64 1]) (by simp [results, Try.results30, go_sem, *]) rfl (HP.out _ (by (repeat (refine Up.setCell ?_ _ _ _ (by omega))); exact hD.up))
set_option maxHeartbeats 4000000 in
set_option maxRecDepth 100000 in
theorem ref10_Split_good (x : LfD) (hx : x.Sm) (page : Int) (g o c : Nat) (sp : Option Nat) (w : World) (hA : SlAt w (some ⟨g, o, sp⟩) c x.l) (hm : maySplit x page = true) :
    Calls Try.prog 30 #[lfV x (some ⟨g, o, sp⟩) c, .int .i64 page] w (LfPost2 w (sA x page) (sB x page) (sE x page)) := by
  have hm' := hm
  rw [maySplit] at hm
  simp only [Bool.and_eq_true, decide_eq_true_eq] at hm
  obtain ⟨⟨⟨h1, h2⟩, h3⟩, h4⟩ := hm
  have hsm := right_sm h1
  have hwt := (right_row h1).2.2.2
  have CR := Lib.hid (fun w hA => ref10_Right x hx (some ⟨g, o, sp⟩) c w hA)
  rw [h1] at CR
  have HW := Lib.hid (wtL_take hx.each hx.len)
  have CW := Lib.hid (fun w hA => ref10_weight x.l hx.len hx.each (some ⟨g, o, sp⟩) c w hA)
  have CWT := Lib.hid (show ∀ (n : Nat), n ≤ x.l.length → ∀ w, PairsAt w (some ⟨g, o, sp⟩) x.l → Calls Try.prog 45 #[.slice (some ⟨g, o, sp⟩) n c] w fun e w' => e = .returned (.int .i64 (wtL (x.l.take n))) ∧ Below w.heap.size w w' from fun n hn w h => by
    have hl : (x.l.take n).length = n := by rw [List.length_take]; omega
    have := ref10_weight (x.l.take n) (by have := hx.len; omega) (fun p hp => hx.each p (List.mem_of_mem_take hp)) (some ⟨g, o, sp⟩) c w (h.take n)
    rw [hl] at this
    exact this)
  have hlen := hx.len
  have HP := Lib.hid (show ∀ w' qa ca qb cb n (hn : n < x.l.length), splitN x.l = n → Below w.heap.size w w' → (slR qa ca (x.l.take n)).holds w' → NewQ w qa → (slR qb cb (x.l.drop n)).holds w' → NewQ w qb →
      LfPost2 w (sA x page) (sB x page) (sE x page) (.returned (.tuple #[.agg #[.slice qa (x.l.take n).length ca, .string x.l[n].1, .int .i64 (page + 1)], .agg #[.slice qb (x.l.drop n).length cb, .string x.high, .int .i64 x.next], .int .i64 0])) w' from by
    intro w' qa ca qb cb n hn hs hb a1 a2 b1 b2
    have e1 : sA x page = ⟨x.l.take n, x.l[n].1, page + 1⟩ := by simp [sA, hm', hs, List.getElem?_eq_getElem hn]
    have e2 : sB x page = ⟨x.l.drop n, x.high, x.next⟩ := by simp [sB, hm', hs]
    have e3 : sE x page = 0 := by simp [sE, hm']
    rw [e1, e2, e3]
    exact ⟨qa, ca, qb, cb, rfl, a1, a2, b1, b2, hb⟩)
  generalize LfPost2 w (sA x page) (sB x page) (sE x page) = PP at *
  have h0 : 0 < x.l.length := by omega
  have HSP := Lib.hid (show splitN x.l = halfN (wtL x.l) x.l.length 1 (wtL (x.l.take 1)) (x.l.drop 1) from by
    have := halfN_step (z := wtL x.l) (L := x.l) (n := 0) (had := 0) h0 ⟨by omega, .inl rfl⟩
    have e := wtL_take_succ (l := x.l) (k := 0) h0
    have e0 : wtL (x.l.take 0) = 0 := rfl
    rw [e0] at e
    rw [e]
    exact this)
  generalize splitN x.l = SP at *
  clear hm' h1
  obtain ⟨L, H, N⟩ := x
  simp only [lfV] at *
  replace hA : SlAt w (some ⟨g, o, sp⟩) c L := hA
  have hlc : L.length ≤ c := hA.2.1
  have b1 : ¬ (L.length : Int) < 2 := by omega
  have b2 : ¬ page < 0 := by omega
  have b3 : ¬ 1023 < page := by omega
  have b7 : (L.length : Int) ≤ 1000 := by omega
  have b8 := wtL_nonneg L
  have b9 : (L.length : Int) ≤ (c : Int) := by omega
  obtain ⟨z, hz⟩ : ∃ z, z = wtL L := ⟨_, rfl⟩
  rw [← hz] at CW HSP hwt b8
  clear hz hsm hx h3 h4
  have b10 : 0 ≤ z := by omega
  clear b8
  obtain ⟨inf, hi0', hz0, hz1, hz2⟩ := infoPair
  go_enter Try.func30, Try.ntmps30
  go_upto_region 1 with fail
  have hD := (((Hold.start w).madeRow (.slice (some ⟨g, o, sp⟩) L.length c) [.string H, .int .i64 N] 29).madeRow (.slice none 0 0) [.string ⟨#[]⟩, .int .i64 0] 29).madeRow (.slice none 0 0) [.string ⟨#[]⟩, .int .i64 0] 29
  simp only [World.size_alloc, List.nil_append] at hD
  generalize hw0 : ((w.alloc (.cells #[.slice (some ⟨g, o, sp⟩) L.length c, .string H, .int .i64 N] 29)).alloc (.cells #[.slice none 0 0, .string ⟨#[]⟩, .int .i64 0] 29)).alloc (.cells #[.slice none 0 0, .string ⟨#[]⟩, .int .i64 0] 29) = w0 at *
  replace hD : Hold w w0 [rowR w.heap.size (.slice (some ⟨g, o, sp⟩) L.length c) [.string H, .int .i64 N], rowR (w.heap.size + 1) (.slice none 0 0) [.string ⟨#[]⟩, .int .i64 0], rowR (w.heap.size + 1 + 1) (.slice none 0 0) [.string ⟨#[]⟩, .int .i64 0]] := hD
  clear hw0
  obtain ⟨t0, t1, t2, f0, f1, f2⟩ := RowAt.c3 (hD.get 0 rfl)
  obtain ⟨s0, s1, s2, z0, z1, z2⟩ := RowAt.c3 (hD.get 1 rfl)
  obtain ⟨r0, r1, r2, y0, y1, y2⟩ := RowAt.c3 (hD.get 2 rfl)
  have HA0 := Lib.hid hA
  clear hA
  go_upto_region 3 with ((with_reducible refine (CR.out _ (HA0.out.up hD.up).pairs).mono ?_); rintro e wn ⟨rfl, hwn⟩; replace hD := hD.next hwn; clear hwn; clear t0 t1 t2 f0 f1 f2 s0 s1 s2 z0 z1 z2 r0 r1 r2 y0 y1 y2; obtain ⟨t0, t1, t2, f0, f1, f2⟩ := RowAt.c3 (hD.get 0 rfl); obtain ⟨s0, s1, s2, z0, z1, z2⟩ := RowAt.c3 (hD.get 1 rfl); obtain ⟨r0, r1, r2, y0, y1, y2⟩ := RowAt.c3 (hD.get 2 rfl))
  clear CR
  go_wp2_with fail
  go_loopw [7] (fun v wr => ∃ n : Nat, 1 ≤ n ∧ n < L.length ∧ v = .int .i64 n ∧ SP = halfN z L.length n (wtL (L.take n)) (L.drop n) ∧ Hold w wr [rowR w.heap.size (.slice (some ⟨g, o, sp⟩) L.length c) [.string H, .int .i64 N], rowR (w.heap.size + 1) (.slice none 0 0) [.string ⟨#[]⟩, .int .i64 0], rowR (w.heap.size + 1 + 1) (.slice none 0 0) [.string ⟨#[]⟩, .int .i64 0]]) (fun v _ => L.length - (intOf v).toNat)
  case atStart => exact ⟨1, by omega, by omega, rfl, HSP.out, hD⟩
  case round =>
  clear hD t0 t1 t2 f0 f1 f2 s0 s1 s2 z0 z1 z2 r0 r1 r2 y0 y1 y2 HSP
  obtain ⟨n, hn1, hn, rfl, hsp, hD⟩ := hrel
  have HSN := Lib.hid hsp
  clear hsp
  have hb := HW.out n
  obtain ⟨t0, t1, t2, -⟩ := RowAt.c3 (hD.get 0 rfl)
  have i0 : (0 : Int) ≤ (n : Int) := by omega
  have i1 : (n : Int) < (L.length : Int) := by omega
  have i3 : (n : Int) ≤ (c : Int) := by omega
  have CW1 := Lib.hid (CWT.out n (by omega))
  have HA := Lib.hid (HA0.out.up hD.up)
  have l0 := Later.cell_of t0
  have hne := later_ne wr
  clear t0 t1 t2
  by_cases hgo : n + 1 < L.length ∧ (n = 0 ∨ 2 * wtL (L.take n) < z)
  · have HN2 := Lib.hid (HSN.out.trans (halfN_step hn hgo))
    have HE := Lib.hid (wtL_take_succ hn)
    rw [← HE.out] at HN2
    have j1 : (n : Int) < (L.length : Int) - 1 := by omega
    have j2 : 2 * wtL (L.take n) < z := hgo.2.resolve_left (by omega)
    clear hgo
    generalize wtL (L.take n) = hd at *
    go_upto_region 4 with fail
    refine wp_region_later (by kernel_rfl) (by kernel_rfl) ?_
    repeat (go_big_quiet_step (first
      | (go_at_call 45; rename_i ul; with_reducible exact Calls.later (CW1.out _ (HA.out.up ul.up).pairs))
      | (go_at_call 45; rename_i ul; with_reducible exact Calls.later (CW.out _ (HA.out.up ul.up).pairs))))
    refine wpQuiet_nil ?_
    intro w9 hw9
    obtain ⟨u9, rfl⟩ := hw9
    replace hD := hD.next u9.up
    clear l0 hne HA
    generalize u9.world = w9 at *
    go_wp2_with fail
    exact ⟨⟨n + 1, by omega, by omega, by go_num, HN2.out, hD⟩, by simp [intOf]; omega⟩
  · have HN2 := Lib.hid (HSN.out.trans (halfN_stop hn hgo))
    generalize hhd : wtL (L.take n) = hd at *
    have key : ¬ ((n : Int) < (L.length : Int) - 1) ∨ ((n : Int) < (L.length : Int) - 1 ∧ ¬ 2 * hd < z) := by
      by_cases h0 : n + 1 < L.length
      · exact .inr ⟨by omega, fun h => hgo ⟨h0, .inr h⟩⟩
      · exact .inl (by omega)
    clear hgo hhd HSN
    obtain ⟨PK, hPK⟩ : ∃ PK, PK = L[n].1 := ⟨_, rfl⟩
    have HPK := Lib.hid (show ∀ h : 0 < (L.drop n).length, PK = ((L.drop n)[0]'h).1 from fun h => by rw [hPK, List.getElem_drop]; rfl)
    have hP2 := fun w' qa ca qb cb h1 => HP.out w' qa ca qb cb n hn HN2.out h1
    have ha1 : (L.take n).length = n := by rw [List.length_take]; omega
    have hb1 : (L.drop n).length = L.length - n := by rw [List.length_drop]
    rw [← hPK, ha1, hb1] at hP2
    have HP2 := Lib.hid hP2
    clear hPK hP2 HP HN2 HW
    have u1 := Lib.hid (cellsP_one (L.take n))
    have u3 := Lib.hid (cellsP_one (L.drop n))
    have ht1 := Lib.hid (show (cellsP (L.take n)).length = n * 2 by rw [cellsP_length, List.length_take]; omega)
    have ht3 := Lib.hid (show (cellsP (L.drop n)).length = (L.length - n) * 2 by rw [cellsP_length, List.length_drop])
    have B1 := Lib.hid (show 0 + n ≤ 2000 by omega)
    have B3 := Lib.hid (show 0 + (L.length - n) ≤ 2000 by omega)
    have HB0 := Lib.hid (show 0 < (L.drop n).length by omega)
    have HA1 := Lib.hid ha1
    have HB1 := Lib.hid hb1
    have hcn : ¬ c = n := by omega
    have hb0 : 0 < L.length - n := by omega
    clear ha1 hb1
    obtain ⟨X1, hX1⟩ : ∃ X, X = cellsP (L.take n) := ⟨_, rfl⟩
    obtain ⟨X3, hX3⟩ : ∃ X, X = cellsP (L.drop n) := ⟨_, rfl⟩
    have HX1 := Lib.hid hX1.symm
    have HX3 := Lib.hid hX3.symm
    rw [← hX1] at u1 ht1
    rw [← hX3] at u3 ht3
    clear hX1 hX3
    generalize hAA : L.take n = A at *
    generalize hBB : L.drop n = B at *
    have HAA := Lib.hid hAA
    have HBB := Lib.hid hBB
    clear hAA hBB
    rcases key with k1 | ⟨k1, k2⟩
    all_goals
      go_upto_region 4 with fail
      refine wp_region_later (by kernel_rfl) (by kernel_rfl) ?_
      repeat (go_big_quiet_step (first
        | (go_at_call 45; rename_i ul; with_reducible exact Calls.later (CW1.out _ (HA.out.up ul.up).pairs))
        | (go_at_call 45; rename_i ul; with_reducible exact Calls.later (CW.out _ (HA.out.up ul.up).pairs))))
      refine wpQuiet_nil ?_
      intro w9 hw9
      obtain ⟨u9, rfl⟩ := hw9
      replace hD := hD.next u9.up
      clear l0 hne HA
      generalize u9.world = w9 at *
      obtain ⟨t0, t1, t2, f0, f1, f2⟩ := RowAt.c3 (hD.get 0 rfl)
      clear f0 f1 f2
      go_upto_region 6 with fail
      have HA := Lib.hid (HA0.out.up hD.up)
      replace hD : Hold w (w9.alloc (.cells #[] 44)) [rowR w.heap.size (.slice (some ⟨g, o, sp⟩) L.length c) [.string H, .int .i64 N], rowR (w.heap.size + 1) (.slice none 0 0) [.string ⟨#[]⟩, .int .i64 0], rowR (w.heap.size + 1 + 1) (.slice none 0 0) [.string ⟨#[]⟩, .int .i64 0], ownZ 44 2 (.slice (some ⟨w9.heap.size, 0, none⟩) 0 0) 0 []] := hD.madeZ 44 2
      obtain ⟨x0, x1, x2, -⟩ := RowAt.c3 (hD.get 0 rfl)
      go_upto_region 7 with ((with_reducible refine wpList_at 54 ?_); refine wpList_appendIn rfl (.tmp 49) (.tmp 53) 22 rfl 44 inf (.agg #[.string ⟨#[]⟩, .string ⟨#[]⟩]) 2 32 (by kernel_rfl) hi0' hz0 hz1 hz2 rfl (by decide) hD 3 (0) _ ([]) rfl rfl (some ⟨g, o, sp⟩) (n) _ (X1) rfl ht1.out (fun h => by cases h) (fun ad i u h hu => (HA0.out.up hD.up).takes n h i u (by simpa only [HAA.out, HX1.out] using hu)) u1.out (by have := B1.out; unfold maxLen; omega) (by have := B1.out; omega) ?_; intro q7 c7 w7 h7 h8 hD)
      simp only [Nat.zero_add, List.nil_append] at hD h7
      replace hD : Hold w w7 [rowR w.heap.size (.slice (some ⟨g, o, sp⟩) L.length c) [.string H, .int .i64 N], rowR (w.heap.size + 1) (.slice none 0 0) [.string ⟨#[]⟩, .int .i64 0], rowR (w.heap.size + 1 + 1) (.slice none 0 0) [.string ⟨#[]⟩, .int .i64 0], ownZ 44 2 (.slice q7 n c7) n X1] := hD
      have HQ7 := Lib.hid h8
      have HC7 := Lib.hid h7
      clear h7 h8 x0 x1 x2 t0 t1 t2 HA
      generalize q7 = q8 at *
      generalize c7 = c8 at *
      generalize w7 = w8 at *
      have hF : Hold w (w8.alloc (.cells #[] 44)) [rowR w.heap.size (.slice (some ⟨g, o, sp⟩) L.length c) [.string H, .int .i64 N], rowR (w.heap.size + 1) (.slice none 0 0) [.string ⟨#[]⟩, .int .i64 0], rowR (w.heap.size + 1 + 1) (.slice none 0 0) [.string ⟨#[]⟩, .int .i64 0], ownZ 44 2 (.slice q8 n c8) n X1, ownZ 44 2 (.slice (some ⟨w8.heap.size, 0, none⟩) 0 0) 0 []] := hD.madeZ 44 2
      obtain ⟨t0, t1, t2, -⟩ := RowAt.c3 (hD.get 0 rfl)
      obtain ⟨x0, x1, x2, -⟩ := RowAt.c3 (hF.get 0 rfl)
      clear hD
      have hD := hF
      clear hF
      go_upto_region 8 with ((with_reducible refine wpList_at 60 ?_); refine wpList_appendIn rfl (.tmp 55) (.tmp 59) 22 rfl 44 inf (.agg #[.string ⟨#[]⟩, .string ⟨#[]⟩]) 2 32 (by kernel_rfl) hi0' hz0 hz1 hz2 rfl (by decide) hD 4 (0) _ ([]) rfl rfl (some ((⟨g, o, sp⟩ : Addr).add (n * 2))) (L.length - n) _ (X3) rfl ht3.out (fun h => by cases h) (fun ad i u h hu => (HA0.out.up hD.up).drops n ad (fun hh => (Option.some.inj h).symm) i u (by simpa only [HBB.out, HX3.out] using hu)) u3.out (by have := B3.out; unfold maxLen; omega) (by have := B3.out; omega) ?_; intro q7 c7 w7 h7 h8 hD)
      simp only [Nat.zero_add, List.nil_append] at hD h7
      replace hD : Hold w w7 [rowR w.heap.size (.slice (some ⟨g, o, sp⟩) L.length c) [.string H, .int .i64 N], rowR (w.heap.size + 1) (.slice none 0 0) [.string ⟨#[]⟩, .int .i64 0], rowR (w.heap.size + 1 + 1) (.slice none 0 0) [.string ⟨#[]⟩, .int .i64 0], ownZ 44 2 (.slice q8 n c8) n X1, ownZ 44 2 (.slice q7 (L.length - n) c7) (L.length - n) X3] := hD
      rw [← HX1.out, ← HX3.out] at hD
      have hF : Hold w w7 [rowR w.heap.size (.slice (some ⟨g, o, sp⟩) L.length c) [.string H, .int .i64 N], rowR (w.heap.size + 1) (.slice none 0 0) [.string ⟨#[]⟩, .int .i64 0], rowR (w.heap.size + 1 + 1) (.slice none 0 0) [.string ⟨#[]⟩, .int .i64 0], slR q8 c8 A, slR q7 c7 B] := hold_toSl (hold_toSl hD 3 rfl HA1.out.symm HC7.out HQ7.out) 4 rfl HB1.out.symm h7 h8
      clear hD h7 h8 x0 x1 x2 t0 t1 t2 HQ7 HC7 ht1 ht3 u1 u3 B1 B3
      have hD := hF
      clear hF
      refine wp_region_two Eq (AllS (fun k => k = w.heap.size + 1 ∨ k = w.heap.size + 1 + 1)) (allS_ok _) (by kernel_rfl) (by kernel_rfl) (by kernel_rfl) ?_
      replace hD := hD.next ((Below.refl _ w7).drew)
      generalize w7.drew = wa at *
      obtain ⟨gb, ob, rfl, a1, -⟩ := slR_pairs (hD.get 4 rfl) 0 HB0.out
      have e1 : ¬ (gb = w.heap.size + 1 ∨ gb = w.heap.size + 1 + 1) := fun h => h.elim (fun h => hD.apart' 4 1 rfl rfl (by decide) gb ⟨_, rfl, rfl⟩ h) (fun h => hD.apart' 4 2 rfl rfl (by decide) gb ⟨_, rfl, rfl⟩ h)
      have e0 : ¬ (w.heap.size = w.heap.size + 1 ∨ w.heap.size = w.heap.size + 1 + 1) := by omega
      replace a1 : wa.cell? ⟨gb, ob, none⟩ = some (.string PK) := by rw [HPK.out HB0.out]; exact a1
      obtain ⟨t0, t1, t2, f0, f1, f2⟩ := RowAt.c3 (hD.get 0 rfl)
      clear f0 f1 f2
      refine wpAnyTS_quiet 0 14 3 75 (by rfl) (by kernel_rfl) (fun _ _ _ _ _ h => h) (by kernel_rfl) (by kernel_rfl) ?_
      apply Exists.intro
      refine ⟨fun w2 hw2 => ?_, ?_⟩
      · have hne := laterR_ne (R := Eq) eqOK w2
        obtain ⟨l0, l1, l2⟩ := And.intro (laterS a1 e1 hw2) (And.intro (laterS t1 e0 hw2) (laterS t2 e0 hw2))
        simp only [List.drop_zero, List.take_succ_cons, List.take_zero]
        repeat (go_big_quiet_step (fail))
        exact wpQuiet_nil rfl
      clear t0 t1 t2 a1 e0 e1
      have hE := ((hD.putRow 1 (g := w.heap.size + 1) rfl 0 (.slice q8 n c8) (.slice q8 n c8) [.string ⟨#[]⟩, .int .i64 0] (by simp) rfl).putRow 1 (g := w.heap.size + 1) rfl 1 (.string PK) (.slice q8 n c8) [.string PK, .int .i64 0] (by simp) rfl).putRow 1 (g := w.heap.size + 1) rfl 2 (.int .i64 (page + 1)) (.slice q8 n c8) [.string PK, .int .i64 (page + 1)] (by simp) rfl
      refine wpAnyTS_some 14 [] 2 (by rfl) (by kernel_rfl) (by kernel_rfl) ?_
      rintro w2 rfl
      refine ⟨?_, trivial⟩
      simp only [List.drop_succ_cons, List.drop_zero, List.take_succ_cons, List.take_zero]
      obtain ⟨x0, x1, x2, g0, g1, g2⟩ := RowAt.c3 (hD.get 1 rfl)
      go_wp2_with fail
      refine ⟨.inr ?_, ?_⟩
      · exact (((AllS.refl _ wa).setCell _ 0 _ (.inl (.inl rfl))).setCell _ 1 _ (.inl (.inl rfl))).setCell _ 2 _ (.inl (.inl rfl))
      clear hD x0 x1 x2 g0 g1 g2
      have hD := hE
      clear hE
      generalize ((wa.setCell ⟨w.heap.size + 1, 0, none⟩ (.slice q8 n c8)).setCell ⟨w.heap.size + 1, 1, none⟩ (.string PK)).setCell ⟨w.heap.size + 1, 2, none⟩ (.int .i64 (page + 1)) = wb at *
      have hE := ((hD.putRow 2 (g := w.heap.size + 1 + 1) rfl 0 (.slice (some ⟨gb, ob, none⟩) (L.length - n) c7) (.slice (some ⟨gb, ob, none⟩) (L.length - n) c7) [.string ⟨#[]⟩, .int .i64 0] (by simp) rfl).putRow 2 (g := w.heap.size + 1 + 1) rfl 1 (.string H) (.slice (some ⟨gb, ob, none⟩) (L.length - n) c7) [.string H, .int .i64 0] (by simp) rfl).putRow 2 (g := w.heap.size + 1 + 1) rfl 2 (.int .i64 N) (.slice (some ⟨gb, ob, none⟩) (L.length - n) c7) [.string H, .int .i64 N] (by simp) rfl
      refine wpAnyTS_some 15 [] 1 (by rfl) (by kernel_rfl) (by kernel_rfl) ?_
      rintro w2 rfl
      refine ⟨?_, trivial⟩
      simp only [List.drop_succ_cons, List.drop_zero, List.take_succ_cons, List.take_zero]
      obtain ⟨x0, x1, x2, g0, g1, g2⟩ := RowAt.c3 (hD.get 2 rfl)
      go_wp2_with fail
      refine ⟨.inr ?_, ?_⟩
      · exact (((AllS.refl _ wb).setCell _ 0 _ (.inl (.inr rfl))).setCell _ 1 _ (.inl (.inr rfl))).setCell _ 2 _ (.inl (.inr rfl))
      clear hD x0 x1 x2 g0 g1 g2
      have hD := hE
      clear hE
      generalize ((wb.setCell ⟨w.heap.size + 1 + 1, 0, none⟩ (.slice (some ⟨gb, ob, none⟩) (L.length - n) c7)).setCell ⟨w.heap.size + 1 + 1, 1, none⟩ (.string H)).setCell ⟨w.heap.size + 1 + 1, 2, none⟩ (.int .i64 N) = wd at *
      refine wpAnyTS_quiet 16 1 0 75 (by rfl) (by kernel_rfl) (fun _ _ _ _ _ h => h) (by kernel_rfl) (by kernel_rfl) ?_
      apply Exists.intro
      refine ⟨fun w2 hw2 => ?_, ?_⟩
      · have hne := laterR_ne (R := Eq) eqOK w2
        skip
        simp only [List.drop_succ_cons, List.drop_zero, List.take_succ_cons, List.take_zero]
        repeat (go_big_quiet_step (fail))
        exact wpQuiet_nil rfl
      refine wpAnyTS_done (by kernel_rfl) ?_
      rintro w2 rfl
      have HF := Lib.hid (HP2.out _ _ _ _ _ hD.up (hD.get 3 rfl) (slR_new hD (j := 3) rfl) (hD.get 4 rfl) (slR_new hD (j := 4) rfl))
      obtain ⟨t0, t1, t2, f0, f1, f2⟩ := RowAt.c3 (hD.get 1 rfl)
      obtain ⟨s0, s1, s2, z0, z1, z2⟩ := RowAt.c3 (hD.get 2 rfl)
      clear hD
      go_wp2_with fail
      exact bodyPost_ret (v := .tuple #[.agg #[.slice q8 n c8, .string PK, .int .i64 (page + 1)], .agg #[.slice (some ⟨gb, ob, none⟩) (L.length - n) c7, .string H, .int .i64 N], .int .i64 0]) (by simp [results, Try.results30, go_sem, *]) rfl HF.out
theorem ref10_Split (x : LfD) (hx : x.Sm) (page : Int) (g o c : Nat) (sp : Option Nat) (w : World) (hA : SlAt w (some ⟨g, o, sp⟩) c x.l) :
    Calls Try.prog 30 #[lfV x (some ⟨g, o, sp⟩) c, .int .i64 page] w (LfPost2 w (sA x page) (sB x page) (sE x page)) := by
  cases hm : maySplit x page
  · exact ref10_Split_bad x hx page g o c sp w hA hm
  · exact ref10_Split_good x hx page g o c sp w hA hm
end Go.Proofs.Ytdlcmbnbfghdmaa
