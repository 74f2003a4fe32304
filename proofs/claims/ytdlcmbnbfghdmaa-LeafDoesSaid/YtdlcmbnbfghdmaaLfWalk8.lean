/- Layer 10: read. -/
import Derived.Test.YtdlcmbnbfghdmaaLfWalk7
import Derived.Test.YtdlcmbnbfghdmaaLfRead
import Derived.LoopN
namespace Go.Proofs.Ytdlcmbnbfghdmaa
open Go.RowKit Bw
set_option linter.unusedVariables false
/-- What read answers where bytes are no leaf's. -/
def ReadNo (w : World) (e : Ending) (w' : World) : Prop := ∃ (lv hv nv av : Value), e = .returned (.tuple #[.agg #[lv, hv, nv], av, .bool false]) ∧ (∃ (q : Option Addr) (n c : Nat) (h : ByteArray) (m i : Int), lv = .slice q n c ∧ hv = .string h ∧ nv = .int .i64 m ∧ av = .int .i64 i) ∧ Below w.heap.size w w'
theorem readNo_mk {w w' : World} {q : Option Addr} {n c : Nat} {h : ByteArray} {m i : Int} (hb : Below w.heap.size w w') : ReadNo w (.returned (.tuple #[.agg #[.slice q n c, .string h, .int .i64 m], .int .i64 i, .bool false])) w' := ⟨_, _, _, _, rfl, ⟨q, n, c, h, m, i, rfl, rfl, rfl, rfl⟩, hb⟩
/-- What read answers where bytes may be a leaf's. -/
def ReadYes (w : World) (x : LfD) (i : Nat) (e : Ending) (w' : World) : Prop := ∃ q c, e = .returned (.tuple #[lfV x q c, .int .i64 i, .bool true]) ∧ (slR q c x.l).holds w' ∧ NewQ w q ∧ Below w.heap.size w w'
set_option maxHeartbeats 2000000 in
set_option maxRecDepth 100000 in
theorem leaf_read_bad (s : ByteArray) (hs : s.size ≤ 1000) (w : World) (h : roomE s 1 1 ≠ 0 ∨ roomE s 2 2 ≠ 0 ∨ textE s 4 ≠ 0 ∨ (∃ h0 : 0 < s.size, s[0] ≠ 76)) : Calls Try.prog 39 #[.string s] w (ReadNo w) := by
  have C2 := Lib.hid (fun w => field_Get s 1 1 w (by omega))
  have C3 := Lib.hid (fun w => field_Get s 2 2 w (by omega))
  have C4 := Lib.hid (fun w => field_Text s 4 w (by omega))
  have key : ((roomE s 1 1 != 0) = true) ∨ ((roomE s 1 1 != 0) = false ∧ (roomE s 2 2 != 0) = true) ∨ ((roomE s 1 1 != 0) = false ∧ (roomE s 2 2 != 0) = false ∧ (textE s 4 != 0) = true) ∨ ((roomE s 1 1 != 0) = false ∧ (roomE s 2 2 != 0) = false ∧ (textE s 4 != 0) = false ∧ ∃ h0 : 0 < s.size, ((s[0].toNat : Int) != 76) = true) := by
    by_cases h1 : roomE s 1 1 = 0
    · by_cases h2 : roomE s 2 2 = 0
      · by_cases h3 : textE s 4 = 0
        · refine .inr (.inr (.inr ⟨by simp [h1], by simp [h2], by simp [h3], ?_⟩))
          rcases h with h | h | h | ⟨h0, h⟩
          · exact absurd h1 h
          · exact absurd h2 h
          · exact absurd h3 h
          · refine ⟨h0, ?_⟩
            have : ¬ s[0].toNat = 76 := fun e => h (UInt8.toNat_inj.1 e)
            simp; omega
        · exact .inr (.inr (.inl ⟨by simp [h1], by simp [h2], by simpa using h3⟩))
      · exact .inr (.inl ⟨by simp [h1], by simpa using h2⟩)
    · exact .inl (by simpa using h1)
  clear h
  generalize roomE s 1 1 = e1 at *
  generalize roomE s 2 2 = e2 at *
  generalize textE s 4 = e3 at *
  generalize textTo s 4 = too at *
  generalize textS s 4 = tx at *
  generalize getV s 1 1 = v1 at *
  generalize getV s 2 2 = v2 at *
  have hD := (Hold.start w).madeRow (.slice none 0 0) [.string ⟨#[]⟩, .int .i64 0] 24
  obtain ⟨t0, t1, t2, f0, f1, f2⟩ := RowAt.c3 (hD.get 0 rfl)
  rcases key with k1 | ⟨k1, k2⟩ | ⟨k1, k2, k3⟩ | ⟨k1, k2, k3, h0, k4⟩
  all_goals
    go_enter Try.func39, Try.ntmps39
    go_wp2_with fail
    go_step3
    go_wp2_with (first | ((with_reducible refine (C2.out _).mono ?_); rintro e wn ⟨rfl, rfl⟩) | ((with_reducible refine (C3.out _).mono ?_); rintro e wn ⟨rfl, rfl⟩) | ((with_reducible refine (C4.out _).mono ?_); rintro e wn ⟨rfl, rfl⟩))
    try rw [Exit.noGoto_ret]
    exact bodyPost_ret (v := .tuple #[.agg #[.slice none 0 0, .string ⟨#[]⟩, .int .i64 0], .int .i64 0, .bool false]) (by simp [results, Try.results39, go_sem, *]) rfl (readNo_mk (by (repeat (refine Up.setCell ?_ _ _ _ (by omega))); exact hD.up))
theorem own_cap {w : World} {e : TypeId} {size : Nat} {q : Option Addr} {n c : Nat} {xs : List Value} (h : (ownZ e size (.slice q n c) n xs).holds w) : n ≤ c ∧ (q = none → c = 0) := by
  have h' : w.ownsRow 0 e size (.slice q n c) n xs := h
  rcases h'.2 with ⟨h1, h2⟩ | ⟨g, cap, cur, h1, -, -, h2, -⟩
  · injection h1 with e1 e2 e3
    subst e1 e3
    exact ⟨by omega, fun _ => rfl⟩
  · injection h1 with e1 e2 e3
    subst e1 e3
    exact ⟨h2, fun h => by cases h⟩
set_option maxHeartbeats 4000000 in
set_option maxRecDepth 100000 in
theorem leaf_read_good (s : ByteArray) (hs : s.size ≤ 1000) (w : World) (h1 : roomE s 1 1 = 0) (h2 : roomE s 2 2 = 0) (h3 : textE s 4 = 0) (h0 : 0 < s.size) (h4 : s[0] = 76) (n i0 : Nat) (hn : getV s 1 1 = (n : Int)) (hn2 : n ≤ 255) (hi : textTo s 4 = (i0 : Int)) (hi2 : i0 ≤ s.size)
    (hv1 : 0 ≤ getV s 2 2) (hv2 : getV s 2 2 ≤ 65535) : Calls Try.prog 39 #[.string s] w fun e w' =>
      (rPairs n ((lst s).drop i0) = none → ReadNo w e w') ∧ ∀ L t, rPairs n ((lst s).drop i0) = some (L, t) → ∃ i : Nat, i ≤ s.size ∧ t = (lst s).drop i ∧ ReadYes w ⟨L, textS s 4, getV s 2 2⟩ i e w' := by
  have C2 := Lib.hid (fun w => field_Get s 1 1 w (by omega))
  have C3 := Lib.hid (fun w => field_Get s 2 2 w (by omega))
  have C4 := Lib.hid (fun w => field_Text s 4 w (by omega))
  have CT := Lib.hid (fun (i : Nat) w => field_Text s i w (by omega))
  have HX := Lib.hid (rfl : rPairs n ((lst s).drop i0) = rPairs n ((lst s).drop i0))
  rw [h1, hn] at C2
  rw [h2] at C3
  rw [h3, hi] at C4
  have k4 : ((s[0].toNat : Int) != 76) = false := by rw [h4]; rfl
  clear h1 h2 h3 h4 hn hi HX
  obtain ⟨HI, hHI⟩ : ∃ HI, HI = textS s 4 := ⟨_, rfl⟩
  obtain ⟨NX, hNX⟩ : ∃ NX, NX = getV s 2 2 := ⟨_, rfl⟩
  rw [← hHI] at C4
  rw [← hNX] at C3 hv1 hv2
  rw [← hHI, ← hNX]
  clear hHI hNX
  have hD := (Hold.start w).madeRow (.slice none 0 0) [.string ⟨#[]⟩, .int .i64 0] 24
  rw [List.nil_append] at hD
  go_enter Try.func39, Try.ntmps39
  go_upto_region 1 with fail
  generalize w.alloc _ = w0 at *
  go_wp2_with fail
  go_step3
  go_upto_region 7 with (first | ((with_reducible refine (C2.out _).mono ?_); rintro e wn ⟨rfl, rfl⟩) | ((with_reducible refine (C3.out _).mono ?_); rintro e wn ⟨rfl, rfl⟩) | ((with_reducible refine (C4.out _).mono ?_); rintro e wn ⟨rfl, rfl⟩))
  clear C2 C3 C4 k4
  have hz := (hD.madeRow (.slice none 0 0) [.string HI, .int .i64 NX] 24).nilZ 44 2
  clear hD
  have hD := hz
  clear hz
  generalize w0.heap.size = g12 at *
  generalize w0.alloc _ = w1 at *
  replace hD : Hold w w1 [rowR w.heap.size (.slice none 0 0) [.string ⟨#[]⟩, .int .i64 0], rowR g12 (.slice none 0 0) [.string HI, .int .i64 NX], ownZ 44 2 (.slice none 0 0) 0 (cellsP [])] := hD
  have hne : ¬ g12 = w.heap.size := fun h => hD.apart' 1 0 rfl rfl (by decide) g12 rfl h
  have ix0 : ∀ (p q : Value) w, (Instr.index 92 (.agg #[p, q]) (.int .i64 0)).run Try.prog w = .ok p w := fun _ _ _ => by kernel_rfl
  have ix1 : ∀ (p q : Value) w, (Instr.index 92 (.agg #[p, q]) (.int .i64 1)).run Try.prog w = .ok q w := fun _ _ _ => by kernel_rfl
  go_step3
  go_wp2_with fail
  go_loopw [10, 13, 57] (fun v10 v13 v57 wr => ∃ (k i : Nat) (L : List PairD) (q : Option Addr) (c : Nat), k ≤ n ∧ v10 = .int .i64 i ∧ v13 = .bool true ∧ v57 = .int .u64 k ∧ i ≤ s.size ∧ LeftP s n i0 k i L ∧ L.length = k ∧ Hold w wr [rowR w.heap.size (.slice none 0 0) [.string ⟨#[]⟩, .int .i64 0], rowR g12 (.slice q k c) [.string HI, .int .i64 NX], ownZ 44 2 (.slice q k c) k (cellsP L)]) (fun _ _ v _ => n - (intOf v).toNat)
  case atStart => exact ⟨0, i0, [], none, 0, by omega, rfl, rfl, rfl, hi2, left_start s n i0, rfl, hD⟩
  case round =>
  clear hD hi2
  obtain ⟨k, i, L, q, c, hk, rfl, rfl, rfl, hi, hL, hlk, hD⟩ := hrel
  have HL := Lib.hid hL
  have HK := Lib.hid hlk
  clear hL hlk
  obtain ⟨t0, t1, t2, f0, f1, f2⟩ := RowAt.c3 (hD.get 0 rfl)
  obtain ⟨s0, s1, s2, z0, z1, z2⟩ := RowAt.c3 (hD.get 1 rfl)
  by_cases hlt : k < n
  · have b0 : (0 : Int) ≤ (k : Int) := by omega
    have b1 : (k : Int) < (n : Int) := by omega
    have b2 : (n : Int) ≤ 255 := by omega
    have hE : Hold w (wr.alloc (.cells #[.string ⟨#[]⟩, .string ⟨#[]⟩] 44)) _ := hD.madeRow (.string ⟨#[]⟩) [.string ⟨#[]⟩] 44
    go_upto_region 10 with fail
    clear hD t0 t1 t2 f0 f1 f2 s0 s1 s2 z0 z1 z2
    generalize wr.heap.size = g14 at *
    generalize wr.alloc _ = w8 at *
    replace hE : Hold w w8 [rowR w.heap.size (.slice none 0 0) [.string ⟨#[]⟩, .int .i64 0], rowR g12 (.slice q k c) [.string HI, .int .i64 NX], ownZ 44 2 (.slice q k c) k (cellsP L), rowR g14 (.string ⟨#[]⟩) [.string ⟨#[]⟩]] := hE
    obtain ⟨t0, t1, t2, f0, f1, f2⟩ := RowAt.c3 (hE.get 0 rfl)
    obtain ⟨s0, s1, s2, z0, z1, z2⟩ := RowAt.c3 (hE.get 1 rfl)
    obtain ⟨p0, p1, y0, y1⟩ := RowAt.c2 (hE.get 3 rfl)
    have n1 : ¬ g14 = w.heap.size := fun h => hE.apart' 3 0 rfl rfl (by decide) g14 rfl h
    have n2 : ¬ g14 = g12 := fun h => hE.apart' 3 1 rfl rfl (by decide) g14 rfl h
    have n3 : ¬ w.heap.size = g14 := fun h => n1 h.symm
    have n4 : ¬ g12 = g14 := fun h => n2 h.symm
    have n5 : ¬ w.heap.size = g12 := fun h => hne h.symm
    cases hr : rText ((lst s).drop i) with
    | none =>
      have ct := CT.out i
      rw [rText_no hr hi] at ct
      have C1 := Lib.hid ct
      have HN := Lib.hid (left_none1 HL.out hlt hr)
      clear ct CT hr
      generalize textS s (i : Int) = tx at *
      generalize textTo s (i : Int) = tq at *
      go_wp2_with fail
      refine wp_loop_rounds 3 ?_
      rw [rounds_succ]
      go_wp2_with ((with_reducible refine (C1.out _).mono ?_); rintro e wn ⟨rfl, rfl⟩)
      rw [Exit.noGoto_ret]
      exact bodyPost_ret (v := .tuple #[.agg #[.slice q k c, .string HI, .int .i64 NX], .int .i64 i, .bool false]) (by simp [results, Try.results39, go_sem, *]) rfl ⟨fun _ => readNo_mk (by (repeat (refine Up.setCell ?_ _ _ _ (by omega))); exact hE.up), fun L t h => by rw [HN.out] at h; cases h⟩
    | some x =>
      obtain ⟨x, t1⟩ := x
      obtain ⟨e1, e2, e3, e4, e5⟩ := rText_at hr hi
      have ct := CT.out i
      rw [e1, e2, e3] at ct
      have C1 := Lib.hid ct
      obtain ⟨j, hj⟩ : ∃ j, j = i + 1 + x.size := ⟨_, rfl⟩
      rw [← hj] at C1 e4 e5
      have HR := Lib.hid (e5 ▸ hr)
      clear ct e1 e2 e3 e5 hr hj
      cases hr2 : rText ((lst s).drop j) with
      | none =>
        have ct := CT.out j
        rw [rText_no hr2 e4] at ct
        have C2 := Lib.hid ct
        have HN := Lib.hid (left_none2 HL.out hlt HR.out hr2)
        clear ct CT hr2
        generalize textS s (j : Int) = tx at *
        generalize textTo s (j : Int) = tq at *
        go_wp2_with fail
        refine wp_loop_rounds 3 ?_
        rw [rounds_succ]
        go_wp2_with ((with_reducible refine (C1.out _).mono ?_); rintro e wn ⟨rfl, rfl⟩)
        replace hE := hE.putRow 3 (g := g14) rfl 0 (.string x) (.string x) [.string ⟨#[]⟩] (by simp) rfl
        replace hE : Hold w _ [rowR w.heap.size (.slice none 0 0) [.string ⟨#[]⟩, .int .i64 0], rowR g12 (.slice q k c) [.string HI, .int .i64 NX], ownZ 44 2 (.slice q k c) k (cellsP L), rowR g14 _ _] := hE
        clear t0 t1 t2 f0 f1 f2 s0 s1 s2 z0 z1 z2 p0 p1 y0 y1
        obtain ⟨t0, t1, t2, f0, f1, f2⟩ := RowAt.c3 (hE.get 0 rfl)
        obtain ⟨s0, s1, s2, z0, z1, z2⟩ := RowAt.c3 (hE.get 1 rfl)
        obtain ⟨p0, p1, y0, y1⟩ := RowAt.c2 (hE.get 3 rfl)
        generalize w8.setCell ⟨g14, 0, none⟩ (.string x) = w9 at *
        rw [rounds_succ]
        go_wp2_with ((with_reducible refine (C2.out _).mono ?_); rintro e wn ⟨rfl, rfl⟩)
        rw [Exit.noGoto_ret]
        exact bodyPost_ret (v := .tuple #[.agg #[.slice q k c, .string HI, .int .i64 NX], .int .i64 j, .bool false]) (by simp [results, Try.results39, go_sem, *]) rfl ⟨fun _ => readNo_mk (by (repeat (refine Up.setCell ?_ _ _ _ (by omega))); exact hE.up), fun L t h => by rw [HN.out] at h; cases h⟩
      | some y =>
        obtain ⟨y, t2⟩ := y
        obtain ⟨e1, e2, e3, e6, e5⟩ := rText_at hr2 e4
        have ct := CT.out j
        rw [e1, e2, e3] at ct
        have C2 := Lib.hid ct
        obtain ⟨j2, hj⟩ : ∃ j2, j2 = j + 1 + y.size := ⟨_, rfl⟩
        rw [← hj] at C2 e6 e5
        have HR2 := Lib.hid (e5 ▸ hr2)
        have HL2 := Lib.hid (left_step HL.out hlt HR.out HR2.out)
        clear ct e1 e2 e3 e5 hr2 hj CT
        go_wp2_with fail
        refine wp_loop_rounds 3 ?_
        rw [rounds_succ]
        go_wp2_with ((with_reducible refine (C1.out _).mono ?_); rintro e wn ⟨rfl, rfl⟩)
        replace hE := hE.putRow 3 (g := g14) rfl 0 (.string x) (.string x) [.string ⟨#[]⟩] (by simp) rfl
        replace hE : Hold w _ [rowR w.heap.size (.slice none 0 0) [.string ⟨#[]⟩, .int .i64 0], rowR g12 (.slice q k c) [.string HI, .int .i64 NX], ownZ 44 2 (.slice q k c) k (cellsP L), rowR g14 _ _] := hE
        clear t0 t1 t2 f0 f1 f2 s0 s1 s2 z0 z1 z2 p0 p1 y0 y1
        obtain ⟨t0, t1, t2, f0, f1, f2⟩ := RowAt.c3 (hE.get 0 rfl)
        obtain ⟨s0, s1, s2, z0, z1, z2⟩ := RowAt.c3 (hE.get 1 rfl)
        obtain ⟨p0, p1, y0, y1⟩ := RowAt.c2 (hE.get 3 rfl)
        generalize w8.setCell ⟨g14, 0, none⟩ (.string x) = w9 at *
        rw [rounds_succ]
        go_wp2_with ((with_reducible refine (C2.out _).mono ?_); rintro e wn ⟨rfl, rfl⟩)
        replace hE := hE.putRow 3 (g := g14) rfl 1 (.string y) (.string x) [.string y] (by simp) rfl
        replace hE : Hold w _ [rowR w.heap.size (.slice none 0 0) [.string ⟨#[]⟩, .int .i64 0], rowR g12 (.slice q k c) [.string HI, .int .i64 NX], ownZ 44 2 (.slice q k c) k (cellsP L), rowR g14 _ _] := hE
        clear t0 t1 t2 f0 f1 f2 s0 s1 s2 z0 z1 z2 p0 p1 y0 y1
        obtain ⟨t0, t1, t2, f0, f1, f2⟩ := RowAt.c3 (hE.get 0 rfl)
        obtain ⟨s0, s1, s2, z0, z1, z2⟩ := RowAt.c3 (hE.get 1 rfl)
        obtain ⟨p0, p1, y0, y1⟩ := RowAt.c2 (hE.get 3 rfl)
        generalize w9.setCell ⟨g14, 1, none⟩ (.string y) = w10 at *
        rw [rounds_succ]
        go_upto_region 18 with fail
        have hF : Hold w (w10.alloc (.cells #[.string x, .string y] 44)) _ := hE.madeRow (.string x) [.string y] 44
        have r7 : RowAt (w10.alloc (.cells #[.string x, .string y] 44)) w10.heap.size [.string x, .string y] := hF.get 4 rfl
        have k5 : k + 1 ≤ 1000 := by omega
        obtain ⟨inf, hi0', hz0, hz1, hz2⟩ := infoPair
        clear t0 t1 t2 f0 f1 f2 y0 y1 hE
        go_wp2_with ((with_reducible refine wpList_at 83 ?_); refine wpList_appendZ rfl _ _ 22 rfl 44 inf (.agg #[.string ⟨#[]⟩, .string ⟨#[]⟩]) 2 32 (by kernel_rfl) hi0' hz0 hz1 hz2 rfl (by decide) hF 2 _ (cellsP L) k rfl rfl ⟨w10.heap.size, 0, none⟩ 1 [.string x, .string y] rfl rfl r7.addsAt (fun x hx => by simp at hx; rcases hx with rfl | rfl <;> rfl) (by unfold maxLen; omega) (by omega) ?_; intro b5 c5 w6 hw; clear s0 s1 s2 z0 z1 z2; obtain ⟨s0, s1, s2, z0, z1, z2⟩ := RowAt.c3 (hw.get 1 rfl))
        replace hw := hw.putRow 1 (g := g12) rfl 0 (.slice (some ⟨b5, 0, none⟩) (k + 1) c5) (.slice (some ⟨b5, 0, none⟩) (k + 1) c5) [.string HI, .int .i64 NX] (by simp) rfl
        refine ⟨⟨k + 1, j2, L ++ [(x, y)], some ⟨b5, 0, none⟩, c5, by omega, rfl, rfl, by go_num, e6, HL2.out, by simp [HK.out], ?_⟩, by simp [intOf]; omega⟩
        rw [cellsP_append]
        exact hw.sub (List.sublist_append_left [_, _, _] [_, _])
  · obtain rfl : k = n := by omega
    have HF := Lib.hid (left_end HL.out)
    obtain ⟨hc1, hc2⟩ := own_cap (hD.get 2 rfl)
    have HC := Lib.hid hc2
    clear hc2
    have b1 : ¬ (k : Int) < (k : Int) := by omega
    go_wp2_with fail
    have hE := ((hD.putRow 0 (g := w.heap.size) rfl 0 (.slice q k c) (.slice q k c) [.string ⟨#[]⟩, .int .i64 0] (by simp) rfl).putRow 0 (g := w.heap.size) rfl 1 (.string HI) (.slice q k c) [.string HI, .int .i64 0] (by simp) rfl).putRow 0 (g := w.heap.size) rfl 2 (.int .i64 NX) (.slice q k c) [.string HI, .int .i64 NX] (by simp) rfl
    refine bodyPost_ret (v := .tuple #[.agg #[.slice q k c, .string HI, .int .i64 NX], .int .i64 i, .bool true]) (by simp [results, Try.results39, go_sem, *]) rfl ⟨fun h => (by rw [HF.out] at h; cases h), fun L' t h => ?_⟩
    rw [HF.out] at h
    injection h with h
    injection h with h5 h6
    subst h5 h6
    obtain ⟨y1, y2⟩ := slR_own hE (j := 2) rfl HK.out.symm hc1 HC.out
    exact ⟨i, hi, rfl, q, c, by simp only [lfV, HK.out], y1, y2, hE.up⟩
/-- read. -/
theorem leaf_read (s : ByteArray) (hs : s.size ≤ 1000) (w : World) : Calls Try.prog 39 #[.string s] w fun e w' =>
    (rLf (lst s) = none → ReadNo w e w') ∧ ∀ x t, rLf (lst s) = some (x, t) → ∃ i : Nat, i ≤ s.size ∧ t = (lst s).drop i ∧ ReadYes w x i e w' := by
  by_cases h : roomE s 1 1 ≠ 0 ∨ roomE s 2 2 ≠ 0 ∨ textE s 4 ≠ 0 ∨ (∃ h0 : 0 < s.size, s[0] ≠ 76)
  · have hb := rLf_bad h
    refine (leaf_read_bad s hs w h).mono fun e w' h2 => ⟨fun _ => h2, fun x t h3 => ?_⟩
    rw [hb] at h3; cases h3
  · have h1 : roomE s 1 1 = 0 := Decidable.byContradiction fun h' => h (.inl h')
    have h2 : roomE s 2 2 = 0 := Decidable.byContradiction fun h' => h (.inr (.inl h'))
    have h3 : textE s 4 = 0 := Decidable.byContradiction fun h' => h (.inr (.inr (.inl h')))
    have h0 : 0 < s.size := by simp [roomE] at h2; omega
    have h4 : s[0] = 76 := Decidable.byContradiction fun h' => h (.inr (.inr (.inr ⟨h0, h'⟩)))
    obtain ⟨n, i, g1, g2, g3, g4, g5, g6, g7⟩ := rLf_good h1 h2 h3 h0 h4
    refine (leaf_read_good s hs w h1 h2 h3 h0 h4 n i g1 g2 g3 g4 g5 g6).mono fun e w' hp => ?_
    rw [g7]
    refine ⟨fun h5 => hp.1 ?_, fun x t h5 => ?_⟩
    · cases hq : rPairs n ((lst s).drop i) with
      | none => rfl
      | some y => rw [hq] at h5; cases h5
    · obtain ⟨ps, hq, h6⟩ := Option.map_eq_some_iff.1 h5
      injection h6 with h6 h7
      subst h6 h7
      exact hp.2 ps.1 ps.2 hq
end Go.Proofs.Ytdlcmbnbfghdmaa
