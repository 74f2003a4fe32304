/- Layer 10, the document's answer: Decode. -/
import Derived.Test.YtdlcmbnbfghdmaaLfRef4
import Derived.Test.YtdlcmbnbfghdmaaLfRef5
import Derived.Test.YtdlcmbnbfghdmaaLfWalk8
import Derived.Test.YtdlcmbnbfghdmaaAllR
import Derived.Test.YtdlcmbnbfghdmaaLfPure4
import Derived.Test.YtdlcmbnbfghdmaaRef1WalkA
namespace Bw
theorem toList_inj' {a b : ByteArray} (h : a.toList = b.toList) : a = b := by
  rw [Go.Lib.toList_data, Go.Lib.toList_data] at h
  rw [← str_lst a, ← str_lst b]
  exact congrArg str h
end Bw
namespace Go.Proofs.Ytdlcmbnbfghdmaa
open Go.RowKit Bw
set_option linter.unusedVariables false
set_option maxHeartbeats 8000000 in
set_option maxRecDepth 100000 in
theorem ref10_Decode_walk (s : ByteArray) (h5 : 5 ≤ s.size) (h252 : s.size ≤ 252) (n : Nat) (hn : s[1].toNat = n) (nx : Int) (hnx : (s[2].toNat : Int) + (256 : Int) * (s[3].toNat : Int) = nx) (w : World) :
    Calls Try.prog 12 #[.string s] w (LfPost w ((rfO s n nx).getD noneL) (if (rfO s n nx).isSome then 0 else 4)) := by
  have HP0 := Lib.hid (show rfO s n nx = none → ∀ w', Below w.heap.size w w' → LfPost w ((rfO s n nx).getD noneL) (if (rfO s n nx).isSome then 0 else 4) (.returned (.tuple #[.agg #[.slice none 0 0, .string ⟨#[]⟩, .int .i64 0], .int .i64 4])) w' from fun h => by
    rw [h]; exact post_none (w := w) rfl rfl)
  have HP1 := Lib.hid (show ∀ x q c w', rfO s n nx = some x → Below w.heap.size w w' → (slR q c x.l).holds w' → NewQ w q → LfPost w ((rfO s n nx).getD noneL) (if (rfO s n nx).isSome then 0 else 4) (.returned (.tuple #[lfV x q c, .int .i64 0])) w' from fun x q c w' h hb hs hq => by
    rw [h]; exact ⟨q, c, rfl, hs, hq, hb⟩)
  generalize LfPost w ((rfO s n nx).getD noneL) (if (rfO s n nx).isSome then 0 else 4) = PP at *
  have HN := Lib.hid (rfO_none (s := s) (n := n) (nx := nx))
  have HS := Lib.hid (fun L err => rfO_some (s := s) (n := n) (nx := nx) (L := L) (err := err))
  generalize hO : rfO s n nx = O at *
  clear hO
  obtain ⟨R, hR⟩ : ∃ R, rfL s n (textTo s 4) (textE s 4) [] = R := ⟨_, rfl⟩
  rw [hR] at HN HS
  have HR := Lib.hid hR
  clear hR
  have CT := Lib.hid (fun i w => ref1_Text s i w (by omega))
  have HZ := Lib.hid (fun L => enc_size_le ⟨L, textS s 4, nx⟩)
  have HIs := Lib.hid (show (textS s 4).size ≤ 1000 by have := textS_le s 4; omega)
  have hn2 : n ≤ 255 := by have := s[1].toNat_lt; omega
  have g1 : (1 : Int) < (s.size : Int) := by omega
  have g2 : (2 : Int) < (s.size : Int) := by omega
  have g3 : (3 : Int) < (s.size : Int) := by omega
  have y2 := s[2].toNat_lt
  have y3 := s[3].toNat_lt
  have v1 : (0 : Int) ≤ (s[2].toNat : Int) := by omega
  have v2 : (s[2].toNat : Int) ≤ 255 := by omega
  have v3 : (0 : Int) ≤ (s[3].toNat : Int) := by omega
  have v4 : (s[3].toNat : Int) ≤ 255 := by omega
  have b1 : ¬ (s.size : Int) < 5 := by omega
  have b2 : ¬ (252 : Int) < (s.size : Int) := by omega
  clear y2 y3
  have hD := (Hold.start w).madeRow (.slice none 0 0) [.string ⟨#[]⟩, .int .i64 0] 29
  rw [List.nil_append] at hD
  go_enter Try.func12, Try.ntmps12
  go_upto_region 1 with fail
  generalize w.alloc _ = w0 at *
  go_upto_region 3 with fail
  go_cut [4] (fun v4 wx => ∃ g4 : Nat, v4 = .pointer (some ⟨g4, 0, none⟩) ∧ Hold w wx [rowR w.heap.size (.slice none 0 0) [.string ⟨#[]⟩, .int .i64 0], rowR g4 (.slice none 0 0) [.string ⟨#[]⟩, .int .i64 nx]])
  case first =>
    refine wp_region_two Eq (AllS NoS) (allS_ok NoS) (by kernel_rfl) (by kernel_rfl) (by kernel_rfl) ?_
    replace hD := hD.next ((Below.refl _ w0).drew)
    generalize w0.drew = wa at *
    refine wpAnyTS_quiet 0 9 2 107 (by rfl) (by kernel_rfl) (fun _ _ _ _ _ h => h) (by kernel_rfl) (by kernel_rfl) ?_
    apply Exists.intro
    refine ⟨fun w2 hw2 => ?_, ?_⟩
    · have hne := laterR_ne (R := Eq) eqOK w2
      skip
      simp only [List.drop_zero, List.take_succ_cons, List.take_zero]
      repeat (go_big_quiet_step (fail))
      exact wpQuiet_nil rfl
    refine wpAnyTS_some 9 [] 1 (by rfl) (by kernel_rfl) (by kernel_rfl) ?_
    rintro w2 rfl
    refine ⟨?_, trivial⟩
    simp only [List.drop_succ_cons, List.drop_zero, List.take_succ_cons, List.take_zero]
    go_wp2_with fail
    refine ⟨.inr (AllS.of_up ((Up.refl _).alloc _)), ?_⟩
    replace hD := hD.madeRow (.slice none 0 0) [.string ⟨#[]⟩, .int .i64 0] 29
    generalize wa.heap.size = g4 at *
    generalize wa.alloc _ = wy at *
    refine wpAnyTS_some 10 [] 0 (by rfl) (by kernel_rfl) (by kernel_rfl) ?_
    rintro w2 rfl
    refine ⟨?_, trivial⟩
    obtain ⟨x0, x1, x2, y0, y1, y2⟩ := RowAt.c3 (hD.get 1 rfl)
    simp only [List.drop_succ_cons, List.drop_zero, List.take_succ_cons, List.take_zero]
    go_wp2_with fail
    refine ⟨.inl (by kernel_rfl), ?_⟩
    replace hD := ((hD.putRow 1 (g := g4) rfl 0 (.slice none 0 0) (.slice none 0 0) [.string ⟨#[]⟩, .int .i64 0] (by simp) rfl).putRow 1 (g := g4) rfl 1 (.string ⟨#[]⟩) (.slice none 0 0) [.string ⟨#[]⟩, .int .i64 0] (by simp) rfl).putRow 1 (g := g4) rfl 2 (.int .i64 nx) (.slice none 0 0) [.string ⟨#[]⟩, .int .i64 nx] (by simp) rfl
    refine wpAnyTS_done (by kernel_rfl) ?_
    rintro w2 rfl
    go_wp2_with fail
    go_meet
    exact ⟨g4, rfl, hD⟩
  case rest =>
  clear hD v1 v2 v3 v4 hnx g2 g3
  obtain ⟨g4, rfl, hD⟩ := hcut
  obtain ⟨x0, x1, x2, y0, y1, y2⟩ := RowAt.c3 (hD.get 1 rfl)
  have C4 := Lib.hid (fun w => CT.out 4 w)
  go_upto_region 6 with ((with_reducible refine (C4.out _).mono ?_); rintro e wn ⟨rfl, rfl⟩)
  clear C4
  replace hD := hD.putRow 1 (g := g4) rfl 1 (.string (textS s 4)) (.slice none 0 0) [.string (textS s 4), .int .i64 nx] (by simp) rfl
  clear x0 x1 x2 y0 y1 y2
  generalize wc.setCell _ _ = w5 at *
  replace hD : Hold w w5 [rowR w.heap.size (.slice none 0 0) [.string ⟨#[]⟩, .int .i64 0], rowR g4 (.slice none 0 0) [.string (textS s 4), .int .i64 nx], ownZ 44 2 (.slice none 0 0) 0 (cellsP ([] : List PairD))] := hD.nilZ 44 2
  obtain ⟨HI, hHI⟩ : ∃ H, H = textS s 4 := ⟨_, rfl⟩
  rw [← hHI] at hD HS HIs HZ
  rw [← hHI]
  clear hHI
  have n0 : (0 : Int) ≤ (n : Int) := by omega
  have n1 : (n : Int) ≤ 255 := by omega
  go_wp2_with fail
  go_loopw [6, 7, 8] (fun v6 v7 v8 wr => ∃ (m k : Nat) (i err : Int) (L : List PairD) (q : Option Addr) (c : Nat), k + m = n ∧ v6 = .int .i64 i ∧ v7 = .int .i64 err ∧ v8 = .int .i64 k ∧ rfL s m i err L = R ∧ L.length = k ∧ (∀ p ∈ L, p.1.size ≤ 1000 ∧ p.2.size ≤ 1000) ∧ Hold w wr [rowR w.heap.size (.slice none 0 0) [.string ⟨#[]⟩, .int .i64 0], rowR g4 (.slice q k c) [.string HI, .int .i64 nx], ownZ 44 2 (.slice q k c) k (cellsP L)]) (fun _ _ v _ => n - (intOf v).toNat)
  case atStart => exact ⟨n, 0, _, _, [], none, 0, by omega, rfl, rfl, rfl, HR.out, rfl, (fun p hp => by cases hp), hD⟩
  case round =>
  clear hD HR
  obtain ⟨m, k, i, err, L, q, c, hkm, rfl, rfl, rfl, hl, hlk, he, hD⟩ := hrel
  subst hlk
  have HEa := Lib.hid he
  clear he
  have i0 : (0 : Int) ≤ (L.length : Int) := by omega
  by_cases herr : err = 0
  · subst herr
    cases m with
    | zero =>
      have b3 : ¬ (L.length : Int) < (n : Int) := by omega
      have HRL := Lib.hid (hl.symm.trans (rfL_zero s i 0 L))
      clear hl
      obtain ⟨hc1, hc2⟩ := own_cap (hD.get 2 rfl)
      have hF : Hold w wr [rowR w.heap.size (.slice none 0 0) [.string ⟨#[]⟩, .int .i64 0], rowR g4 (.slice q L.length c) [.string HI, .int .i64 nx], slR q c L] := hold_toSl hD 2 rfl rfl hc1 hc2
      clear hD hc1 hc2
      have hD := hF
      clear hF
      obtain ⟨t0, t1, t2, f0, f1, f2⟩ := RowAt.c3 (hD.get 0 rfl)
      obtain ⟨x0, x1, x2, y0, y1, y2⟩ := RowAt.c3 (hD.get 1 rfl)
      have HSx := HS.out L 0 HRL.out
      have hSm : LfD.Sm ⟨L, HI, nx⟩ := ⟨by simp only; omega, HIs.out, HEa.out⟩
      have CE := Lib.hid (fun w hA => ref10_Encode ⟨L, HI, nx⟩ hSm q c w hA)
      have CR := Lib.hid (fun w hA => ref10_Right ⟨L, HI, nx⟩ hSm q c w hA)
      have CP := Lib.hid (fun w => ref1_Pad (LfD.enc ⟨L, HI, nx⟩) (s.size : Int) w (HZ.out L))
      simp only [lfV] at CE CR
      rw [rfFin] at HSx
      generalize hEN : LfD.enc ⟨L, HI, nx⟩ = EN at *
      clear hEN hSm
      generalize padE EN s.size = PE at *
      generalize padS EN s.size = PS at *
      by_cases hPE : PE = 0
      · subst hPE
        by_cases hPS : PS = s
        · subst hPS
          cases hr : LfD.right ⟨L, HI, nx⟩
          · have HOn := Lib.hid (show O = none by rw [HSx, hr]; simp)
            rw [hr] at CR
            clear hr HSx
            go_wp2_with (first
              | ((with_reducible refine (CE.out _ (slR_pairs (hD.get 2 rfl))).mono ?_); rintro e wn ⟨rfl, hwn⟩; replace hD := hD.next hwn; clear hwn; clear t0 t1 t2 f0 f1 f2 x0 x1 x2 y0 y1 y2; obtain ⟨t0, t1, t2, f0, f1, f2⟩ := RowAt.c3 (hD.get 0 rfl); obtain ⟨x0, x1, x2, y0, y1, y2⟩ := RowAt.c3 (hD.get 1 rfl))
              | ((with_reducible refine (CP.out _).mono ?_); rintro e wn2 ⟨rfl, hwn⟩; replace hD := hD.next hwn; clear hwn; clear t0 t1 t2 f0 f1 f2 x0 x1 x2 y0 y1 y2; obtain ⟨t0, t1, t2, f0, f1, f2⟩ := RowAt.c3 (hD.get 0 rfl); obtain ⟨x0, x1, x2, y0, y1, y2⟩ := RowAt.c3 (hD.get 1 rfl))
              | ((with_reducible refine (CR.out _ (slR_pairs (hD.get 2 rfl))).mono ?_); rintro e wn3 ⟨rfl, hwn⟩; replace hD := hD.next hwn; clear hwn; clear t0 t1 t2 f0 f1 f2 x0 x1 x2 y0 y1 y2; obtain ⟨t0, t1, t2, f0, f1, f2⟩ := RowAt.c3 (hD.get 0 rfl); obtain ⟨x0, x1, x2, y0, y1, y2⟩ := RowAt.c3 (hD.get 1 rfl)))
            exact bodyPost_ret (v := .tuple #[.agg #[.slice none 0 0, .string ⟨#[]⟩, .int .i64 0], .int .i64 4]) (by simp [results, Try.results12, go_sem, *]) rfl (HP0.out HOn.out _ (by (repeat (refine Up.setCell ?_ _ _ _ (by omega))); exact hD.up))
          · have HOs := Lib.hid (show O = some ⟨L, HI, nx⟩ by rw [HSx, hr]; simp)
            rw [hr] at CR
            clear hr HSx
            go_wp2_with (first
              | ((with_reducible refine (CE.out _ (slR_pairs (hD.get 2 rfl))).mono ?_); rintro e wn ⟨rfl, hwn⟩; replace hD := hD.next hwn; clear hwn; clear t0 t1 t2 f0 f1 f2 x0 x1 x2 y0 y1 y2; obtain ⟨t0, t1, t2, f0, f1, f2⟩ := RowAt.c3 (hD.get 0 rfl); obtain ⟨x0, x1, x2, y0, y1, y2⟩ := RowAt.c3 (hD.get 1 rfl))
              | ((with_reducible refine (CP.out _).mono ?_); rintro e wn2 ⟨rfl, hwn⟩; replace hD := hD.next hwn; clear hwn; clear t0 t1 t2 f0 f1 f2 x0 x1 x2 y0 y1 y2; obtain ⟨t0, t1, t2, f0, f1, f2⟩ := RowAt.c3 (hD.get 0 rfl); obtain ⟨x0, x1, x2, y0, y1, y2⟩ := RowAt.c3 (hD.get 1 rfl))
              | ((with_reducible refine (CR.out _ (slR_pairs (hD.get 2 rfl))).mono ?_); rintro e wn3 ⟨rfl, hwn⟩; replace hD := hD.next hwn; clear hwn; clear t0 t1 t2 f0 f1 f2 x0 x1 x2 y0 y1 y2; obtain ⟨t0, t1, t2, f0, f1, f2⟩ := RowAt.c3 (hD.get 0 rfl); obtain ⟨x0, x1, x2, y0, y1, y2⟩ := RowAt.c3 (hD.get 1 rfl)))
            have hE := ((hD.putRow 0 (g := w.heap.size) rfl 0 (.slice q L.length c) (.slice q L.length c) [.string ⟨#[]⟩, .int .i64 0] (by simp) rfl).putRow 0 (g := w.heap.size) rfl 1 (.string HI) (.slice q L.length c) [.string HI, .int .i64 0] (by simp) rfl).putRow 0 (g := w.heap.size) rfl 2 (.int .i64 nx) (.slice q L.length c) [.string HI, .int .i64 nx] (by simp) rfl
            exact bodyPost_ret (v := .tuple #[.agg #[.slice q L.length c, .string HI, .int .i64 nx], .int .i64 0]) (by simp [results, Try.results12, go_sem, *]) rfl (HP1.out ⟨L, HI, nx⟩ q c _ HOs.out hE.up (hE.get 2 rfl) (slR_new hE (j := 2) rfl))
        · have HOn := Lib.hid (show O = none by rw [HSx]; simp [hPS])
          have hPL : ¬ PS.toList = s.toList := fun h => hPS (toList_inj' h)
          clear hPS HSx CR
          have CR := CE
          go_wp2_with (first
            | ((with_reducible refine (CE.out _ (slR_pairs (hD.get 2 rfl))).mono ?_); rintro e wn ⟨rfl, hwn⟩; replace hD := hD.next hwn; clear hwn; clear t0 t1 t2 f0 f1 f2 x0 x1 x2 y0 y1 y2; obtain ⟨t0, t1, t2, f0, f1, f2⟩ := RowAt.c3 (hD.get 0 rfl); obtain ⟨x0, x1, x2, y0, y1, y2⟩ := RowAt.c3 (hD.get 1 rfl))
            | ((with_reducible refine (CP.out _).mono ?_); rintro e wn2 ⟨rfl, hwn⟩; replace hD := hD.next hwn; clear hwn; clear t0 t1 t2 f0 f1 f2 x0 x1 x2 y0 y1 y2; obtain ⟨t0, t1, t2, f0, f1, f2⟩ := RowAt.c3 (hD.get 0 rfl); obtain ⟨x0, x1, x2, y0, y1, y2⟩ := RowAt.c3 (hD.get 1 rfl))
            | ((with_reducible refine (CR.out _ (slR_pairs (hD.get 2 rfl))).mono ?_); rintro e wn3 ⟨rfl, hwn⟩; replace hD := hD.next hwn; clear hwn; clear t0 t1 t2 f0 f1 f2 x0 x1 x2 y0 y1 y2; obtain ⟨t0, t1, t2, f0, f1, f2⟩ := RowAt.c3 (hD.get 0 rfl); obtain ⟨x0, x1, x2, y0, y1, y2⟩ := RowAt.c3 (hD.get 1 rfl)))
          exact bodyPost_ret (v := .tuple #[.agg #[.slice none 0 0, .string ⟨#[]⟩, .int .i64 0], .int .i64 4]) (by simp [results, Try.results12, go_sem, *]) rfl (HP0.out HOn.out _ (by (repeat (refine Up.setCell ?_ _ _ _ (by omega))); exact hD.up))
      · have HOn := Lib.hid (show O = none by rw [HSx]; simp [hPE])
        clear HSx CR
        have CR := CE
        go_wp2_with (first
          | ((with_reducible refine (CE.out _ (slR_pairs (hD.get 2 rfl))).mono ?_); rintro e wn ⟨rfl, hwn⟩; replace hD := hD.next hwn; clear hwn; clear t0 t1 t2 f0 f1 f2 x0 x1 x2 y0 y1 y2; obtain ⟨t0, t1, t2, f0, f1, f2⟩ := RowAt.c3 (hD.get 0 rfl); obtain ⟨x0, x1, x2, y0, y1, y2⟩ := RowAt.c3 (hD.get 1 rfl))
          | ((with_reducible refine (CP.out _).mono ?_); rintro e wn2 ⟨rfl, hwn⟩; replace hD := hD.next hwn; clear hwn; clear t0 t1 t2 f0 f1 f2 x0 x1 x2 y0 y1 y2; obtain ⟨t0, t1, t2, f0, f1, f2⟩ := RowAt.c3 (hD.get 0 rfl); obtain ⟨x0, x1, x2, y0, y1, y2⟩ := RowAt.c3 (hD.get 1 rfl))
          | ((with_reducible refine (CR.out _ (slR_pairs (hD.get 2 rfl))).mono ?_); rintro e wn3 ⟨rfl, hwn⟩; replace hD := hD.next hwn; clear hwn; clear t0 t1 t2 f0 f1 f2 x0 x1 x2 y0 y1 y2; obtain ⟨t0, t1, t2, f0, f1, f2⟩ := RowAt.c3 (hD.get 0 rfl); obtain ⟨x0, x1, x2, y0, y1, y2⟩ := RowAt.c3 (hD.get 1 rfl)))
        exact bodyPost_ret (v := .tuple #[.agg #[.slice none 0 0, .string ⟨#[]⟩, .int .i64 0], .int .i64 4]) (by simp [results, Try.results12, go_sem, *]) rfl (HP0.out HOn.out _ (by (repeat (refine Up.setCell ?_ _ _ _ (by omega))); exact hD.up))
    | succ m =>
      have b3 : (L.length : Int) < (n : Int) := by omega
      by_cases hte : textE s i = 0
      · have HR2 := Lib.hid ((rfL_step hte).symm.trans hl)
        have hx1 := textS_le s i
        have hx2 := textS_le s (textTo s i)
        have C1 := CT.out i
        have C2 := CT.out (textTo s i)
        rw [hte] at C1
        clear hte hl
        generalize textTo s i = j at *
        generalize textS s i = x at *
        generalize textS s j = y at *
        generalize textTo s j = j2 at *
        generalize textE s j = e2 at *
        have CA := Lib.hid C1
        have CB := Lib.hid C2
        clear C1 C2
        obtain ⟨t0, t1, t2, f0, f1, f2⟩ := RowAt.c3 (hD.get 0 rfl)
        obtain ⟨x0, x1, x2, y0, y1, y2⟩ := RowAt.c3 (hD.get 1 rfl)
        go_upto_region 15 with (first | ((with_reducible refine (CA.out _).mono ?_); rintro e wn ⟨rfl, rfl⟩) | ((with_reducible refine (CB.out _).mono ?_); rintro e wn ⟨rfl, rfl⟩))
        have hF : Hold w (wr.alloc (.cells #[.string x, .string y] 44)) _ := hD.madeRow (.string x) [.string y] 44
        have r7 : RowAt (wr.alloc (.cells #[.string x, .string y] 44)) wr.heap.size [.string x, .string y] := hF.get 3 rfl
        have k5 : L.length + 1 ≤ 1000 := by omega
        obtain ⟨inf, hi0', hz0, hz1, hz2⟩ := infoPair
        clear t0 t1 t2 f0 f1 f2 hD
        go_wp2_with ((with_reducible refine wpList_at 79 ?_); refine wpList_appendZ rfl _ _ 22 rfl 44 inf (.agg #[.string ⟨#[]⟩, .string ⟨#[]⟩]) 2 32 (by kernel_rfl) hi0' hz0 hz1 hz2 rfl (by decide) hF 2 _ (cellsP L) L.length rfl rfl ⟨wr.heap.size, 0, none⟩ 1 [.string x, .string y] rfl rfl r7.addsAt (fun x hx => by simp at hx; rcases hx with rfl | rfl <;> rfl) (by unfold maxLen; omega) (by omega) ?_; intro b5 c5 w6 hw; clear x0 x1 x2 y0 y1 y2; obtain ⟨x0, x1, x2, y0, y1, y2⟩ := RowAt.c3 (hw.get 1 rfl))
        replace hw := hw.putRow 1 (g := g4) rfl 0 (.slice (some ⟨b5, 0, none⟩) (L.length + 1) c5) (.slice (some ⟨b5, 0, none⟩) (L.length + 1) c5) [.string HI, .int .i64 nx] (by simp) rfl
        refine ⟨⟨m, L.length + 1, j2, e2, L ++ [(x, y)], some ⟨b5, 0, none⟩, c5, by omega, rfl, rfl, by go_num, HR2.out, by simp, ?_, ?_⟩, by simp [intOf]; omega⟩
        · intro p hp
          rw [List.mem_append, List.mem_singleton] at hp
          rcases hp with hp | rfl
          · exact HEa.out p hp
          · exact ⟨by simp only; omega, by simp only; omega⟩
        · rw [cellsP_append]
          exact hw.sub (List.sublist_append_left [_, _, _] [_])
      · have HOn := Lib.hid (HN.out (hl.symm.trans (rfL_no hte)))
        have C1 := CT.out i
        generalize textTo s i = j at *
        generalize textS s i = x at *
        generalize textE s i = e1 at *
        have CA := Lib.hid C1
        clear C1 hl
        obtain ⟨t0, t1, t2, f0, f1, f2⟩ := RowAt.c3 (hD.get 0 rfl)
        obtain ⟨x0, x1, x2, y0, y1, y2⟩ := RowAt.c3 (hD.get 1 rfl)
        go_wp2_with ((with_reducible refine (CA.out _).mono ?_); rintro e wn ⟨rfl, rfl⟩)
        exact bodyPost_ret (v := .tuple #[.agg #[.slice none 0 0, .string ⟨#[]⟩, .int .i64 0], .int .i64 4]) (by simp [results, Try.results12, go_sem, *]) rfl (HP0.out HOn.out _ (by (repeat (refine Up.setCell ?_ _ _ _ (by omega))); exact hD.up))
  · have HRL := Lib.hid (hl.symm.trans (rfL_err herr))
    clear hl
    obtain ⟨hc1, hc2⟩ := own_cap (hD.get 2 rfl)
    have hF : Hold w wr [rowR w.heap.size (.slice none 0 0) [.string ⟨#[]⟩, .int .i64 0], rowR g4 (.slice q L.length c) [.string HI, .int .i64 nx], slR q c L] := hold_toSl hD 2 rfl rfl hc1 hc2
    clear hD hc1 hc2
    have hD := hF
    clear hF
    obtain ⟨t0, t1, t2, f0, f1, f2⟩ := RowAt.c3 (hD.get 0 rfl)
    obtain ⟨x0, x1, x2, y0, y1, y2⟩ := RowAt.c3 (hD.get 1 rfl)
    have HSx := HS.out L err HRL.out
    have hSm : LfD.Sm ⟨L, HI, nx⟩ := ⟨by simp only; omega, HIs.out, HEa.out⟩
    have CE := Lib.hid (fun w hA => ref10_Encode ⟨L, HI, nx⟩ hSm q c w hA)
    have CR := Lib.hid (fun w hA => ref10_Right ⟨L, HI, nx⟩ hSm q c w hA)
    have CP := Lib.hid (fun w => ref1_Pad (LfD.enc ⟨L, HI, nx⟩) (s.size : Int) w (HZ.out L))
    simp only [lfV] at CE CR
    rw [rfFin] at HSx
    generalize hEN : LfD.enc ⟨L, HI, nx⟩ = EN at *
    clear hEN hSm
    have HOn := Lib.hid (show O = none by rw [HSx]; simp [herr])
    clear HSx CR
    have CR := CE
    generalize padE EN s.size = PE at *
    generalize padS EN s.size = PS at *
    by_cases b3 : (L.length : Int) < (n : Int)
    all_goals
      go_wp2_with (first
        | ((with_reducible refine (CE.out _ (slR_pairs (hD.get 2 rfl))).mono ?_); rintro e wn ⟨rfl, hwn⟩; replace hD := hD.next hwn; clear hwn; clear t0 t1 t2 f0 f1 f2 x0 x1 x2 y0 y1 y2; obtain ⟨t0, t1, t2, f0, f1, f2⟩ := RowAt.c3 (hD.get 0 rfl); obtain ⟨x0, x1, x2, y0, y1, y2⟩ := RowAt.c3 (hD.get 1 rfl))
        | ((with_reducible refine (CP.out _).mono ?_); rintro e wn2 ⟨rfl, hwn⟩; replace hD := hD.next hwn; clear hwn; clear t0 t1 t2 f0 f1 f2 x0 x1 x2 y0 y1 y2; obtain ⟨t0, t1, t2, f0, f1, f2⟩ := RowAt.c3 (hD.get 0 rfl); obtain ⟨x0, x1, x2, y0, y1, y2⟩ := RowAt.c3 (hD.get 1 rfl))
        | ((with_reducible refine (CR.out _ (slR_pairs (hD.get 2 rfl))).mono ?_); rintro e wn3 ⟨rfl, hwn⟩; replace hD := hD.next hwn; clear hwn; clear t0 t1 t2 f0 f1 f2 x0 x1 x2 y0 y1 y2; obtain ⟨t0, t1, t2, f0, f1, f2⟩ := RowAt.c3 (hD.get 0 rfl); obtain ⟨x0, x1, x2, y0, y1, y2⟩ := RowAt.c3 (hD.get 1 rfl)))
      exact bodyPost_ret (v := .tuple #[.agg #[.slice none 0 0, .string ⟨#[]⟩, .int .i64 0], .int .i64 4]) (by simp [results, Try.results12, go_sem, *]) rfl (HP0.out HOn.out _ (by (repeat (refine Up.setCell ?_ _ _ _ (by omega))); exact hD.up))
end Go.Proofs.Ytdlcmbnbfghdmaa
