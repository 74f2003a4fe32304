/- LeafHigh: the walk. -/
import Derived.Test.YtdlcmbnbfghdmaaLfPuts
import Derived.Test.YtdlcmbnbfghdmaaLfRef9
namespace Bw
theorem lt_ff : ∀ (n : Nat) (l : List UInt8), l.length ≤ n → l ≠ List.replicate n 255 → l < List.replicate n 255
  | 0, l, h, hne => absurd (List.length_eq_zero_iff.1 (by omega)) hne
  | n + 1, [], _, _ => by rw [List.replicate_succ]; exact List.nil_lt_cons _ _
  | n + 1, a :: t, h, hne => by
    rw [List.replicate_succ, List.cons_lt_cons_iff]
    by_cases ha : a = 255
    · refine .inr ⟨ha, lt_ff n t (by simpa using h) fun ht => hne ?_⟩
      rw [List.replicate_succ, ha, ht]
    · refine .inl ?_
      have h1 : a.toNat ≠ 255 := fun h => ha (UInt8.toNat_inj.1 h)
      have h2 := a.toNat_lt
      exact UInt8.lt_iff_toNat_lt.2 (by show a.toNat < 255; omega)
theorem lastK_last (s : ByteArray) : ∀ (l : List PairD) (m : Nat) (h : l.length = m + 1), lastK s l = (l[m]'(by omega)).1
  | [p], 0, _ => rfl
  | p :: r :: l, m, h => by
    obtain ⟨m', rfl⟩ : ∃ m', m = m' + 1 := ⟨m - 1, by simp at h; omega⟩
    rw [lastK, lastK_last p.1 (r :: l) m' (by simpa using h)]
    rfl
theorem right_high {A : List PairD} {H H' : ByteArray} {N N' : Int} (h : LfD.right ⟨A, H, N⟩ = true) (h0 : 0 ≤ N') (h1 : N' ≤ 1024) : LfD.right ⟨A, H', N'⟩ = highB (lastK ByteArray.empty A) H' := by
  obtain ⟨r1, -, -, r4⟩ := right_row h
  simp only at r1 r4
  simp [LfD.right, r1, r4, inB, h0, h1]
theorem highB_of {k h : ByteArray} (hs : h.size ≤ 16) (hk : k = ByteArray.empty ∨ keyB k = true) : highB k h = (decide (h = ByteArray.empty) || ltS k h) := by
  unfold highB
  by_cases he : h = ByteArray.empty
  · simp [he]
  · have hk : keyB h = true := by
      have : h.size ≠ 0 := fun hh => he (by
        have : lst h = [] := List.length_eq_zero_iff.1 (by rw [lst_length]; exact hh)
        rw [← str_lst h, this]; rfl)
      simp only [keyB, Bool.and_eq_true, decide_eq_true_eq]; omega
    simp [hk]
end Bw
namespace Go.Proofs.Ytdlcmbnbfghdmaa
open Go.RowKit Bw
set_option linter.unusedVariables false
theorem ff_lst : lst ⟨#[255, 255, 255, 255, 255, 255, 255, 255, 255, 255, 255, 255, 255, 255, 255, 255]⟩ = List.replicate 16 255 := by kernel_rfl
set_option maxHeartbeats 4000000 in
set_option maxRecDepth 100000 in
theorem high_law (x : LfD) (qa : Option Addr) (ca : Nat) (W : World) (hX : LfIn W x qa) (s : ByteArray) (hs : s.size ≤ maxLen) (n : Int) (hn0 : 0 ≤ n) (hn1 : n ≤ 65535) :
    Calls Try.prog 9 #[lfV x qa ca, .string s, .int .u16 n] W fun e w' => e = .returned (.bool true) ∧ Below W.heap.size W w' := by
  unfold maxLen at hs
  have CX := Lib.hid (fun w hP => leaf_Cut x qa ca w hP hX.len hX.each hX.2)
  have PX := Lib.hid hX.pairs
  clear hX
  have sa := lcutD_sm x
  generalize lcutD x = a at *
  have CG := Lib.hid (fun w => law10_fixed w)
  have C1 := Lib.hid (fun q c w h => leaf_Right a sa q c w h)
  obtain ⟨L, H, N⟩ := x
  cases hr : a.right
  · have C5 := Lib.hid (fun q c w h => leaf_Encode a sa q c w h)
    have he : a.enc = ⟨#[]⟩ := by rw [LfD.enc, hr]; rfl
    rw [hr] at C1
    rw [he] at C5
    clear he hr sa
    obtain ⟨A, HA, NA⟩ := a
    simp only [lfV] at *
    go_enter Try.func9, Try.ntmps9
    go_upto_region 1 with fail
    have hD : Hold W (W.alloc (.cells #[.slice qa L.length ca, .string H, .int .i64 N] 24)) [rowR W.heap.size (.slice qa L.length ca) [.string H, .int .i64 N]] := (Hold.start W).madeRow (.slice qa L.length ca) [.string H, .int .i64 N] 24
    generalize W.alloc _ = w0 at *
    obtain ⟨t0, t1, t2, f0, f1, f2⟩ := RowAt.c3 (hD.get 0 rfl)
    go_upto_region 2 with ((with_reducible refine (CX.out _ (PX.out.up hD.up)).mono ?_); rintro e wn ⟨ga, ka, rfl, hs, hn, hb⟩; replace hD := hold_addSl hD hb hs hn; clear hs hn hb; clear t0 t1 t2 f0 f1 f2; obtain ⟨t0, t1, t2, f0, f1, f2⟩ := RowAt.c3 (hD.get 0 rfl))
    clear t0 t1 t2 f0 f1 f2
    replace hD := ((hD.putRow 0 (g := W.heap.size) rfl 0 (.slice (some ⟨ga, 0, none⟩) A.length ka) (.slice (some ⟨ga, 0, none⟩) A.length ka) [.string H, .int .i64 N] (by simp) rfl).putRow 0 (g := W.heap.size) rfl 1 (.string HA) (.slice (some ⟨ga, 0, none⟩) A.length ka) [.string HA, .int .i64 N] (by simp) rfl).putRow 0 (g := W.heap.size) rfl 2 (.int .i64 NA) (.slice (some ⟨ga, 0, none⟩) A.length ka) [.string HA, .int .i64 NA] (by simp) rfl
    generalize ((wn.setCell ⟨W.heap.size, 0, none⟩ (.slice (some ⟨ga, 0, none⟩) A.length ka)).setCell ⟨W.heap.size, 1, none⟩ (.string HA)).setCell ⟨W.heap.size, 2, none⟩ (.int .i64 NA) = wb at *
    obtain ⟨t0, t1, t2, f0, f1, f2⟩ := RowAt.c3 (hD.get 0 rfl)
    clear CX PX
    go_wp2_with (first | ((with_reducible refine (C1.out _ _ _ (slR_pairs (hD.get 1 rfl))).mono ?_); rintro e wn ⟨rfl, hb⟩; replace hD := hD.next hb; clear hb; clear t0 t1 t2 f0 f1 f2; obtain ⟨t0, t1, t2, f0, f1, f2⟩ := RowAt.c3 (hD.get 0 rfl)) | ((with_reducible refine (C5.out _ _ _ (slR_pairs (hD.get 1 rfl))).mono ?_); rintro e wn ⟨rfl, hb⟩; replace hD := hD.next hb; clear hb; clear t0 t1 t2 f0 f1 f2; obtain ⟨t0, t1, t2, f0, f1, f2⟩ := RowAt.c3 (hD.get 0 rfl)) | ((with_reducible refine (CG.out _).mono ?_); rintro e wn ⟨rfl, hb⟩; replace hD := hD.next hb; clear hb; clear t0 t1 t2 f0 f1 f2; obtain ⟨t0, t1, t2, f0, f1, f2⟩ := RowAt.c3 (hD.get 0 rfl)))
    go_ret
    exact ⟨rfl, hD.up⟩
  · obtain ⟨S, hS⟩ : ∃ S, S = s.extract 0 (min (s.size : Int) 16).toNat := ⟨_, rfl⟩
    have hS3 : S.size ≤ 16 := by rw [hS, ByteArray.size_extract]; omega
    obtain ⟨A, HA, NA⟩ := a
    have hkeys := right_sm hr
    have hrow := (right_row hr).1
    have hsmF : LfD.Sm ⟨A, ⟨#[255, 255, 255, 255, 255, 255, 255, 255, 255, 255, 255, 255, 255, 255, 255, 255]⟩, NA⟩ := ⟨sa.len, by show (16 : Nat) ≤ 1000; omega, sa.each⟩
    have C2 := Lib.hid (fun q c w h => leaf_Right ⟨A, ⟨#[255, 255, 255, 255, 255, 255, 255, 255, 255, 255, 255, 255, 255, 255, 255, 255]⟩, NA⟩ hsmF q c w h)
    have hn2 : 0 ≤ n % 1025 := by omega
    have hn3 : n % 1025 ≤ 1024 := by omega
    have hsmS : LfD.Sm ⟨A, S, n % 1025⟩ := ⟨sa.len, by show S.size ≤ 1000; omega, sa.each⟩
    have C3 := Lib.hid (fun q c w h => leaf_Right ⟨A, S, n % 1025⟩ hsmS q c w h)
    have hNA := (right_row hr).2.2.1
    rw [right_high hr hNA.1 hNA.2] at C2
    rw [right_high hr hn2 hn3] at C3
    rw [hr] at C1
    have hA77 : A.length ≤ 77 := hkeys.1
    simp only at hrow
    by_cases hA0 : A = []
    · have hk : lastK ByteArray.empty A = ByteArray.empty := by rw [hA0]; rfl
      rw [hk] at C2 C3
      rw [show highB ByteArray.empty ⟨#[255, 255, 255, 255, 255, 255, 255, 255, 255, 255, 255, 255, 255, 255, 255, 255]⟩ = true by kernel_rfl] at C2
      have hK := Lib.hid (show highB ByteArray.empty S = true by
        rw [highB_of hS3 (.inl rfl)]
        by_cases h : S = ByteArray.empty
        · simp [h]
        · have : keyB S = true := by
            have : S.size ≠ 0 := fun hh => h (by
              have : lst S = [] := List.length_eq_zero_iff.1 (by rw [lst_length]; exact hh)
              rw [← str_lst S, this]; rfl)
            simp only [keyB, Bool.and_eq_true, decide_eq_true_eq]; omega
          simp [keyB_ltS this])
      rw [hK.out] at C3
      have hl0 : A.length = 0 := by rw [hA0]; rfl
      clear hK hk hA0 hr sa hkeys hrow hsmF hsmS hNA
      simp only [lfV] at *
      have key : (S.toList = [] ∧ S.toList.isEmpty = true) ∨ (¬ S.toList = [] ∧ S.toList.isEmpty = false) := by
        by_cases h : S = ByteArray.empty
        · exact .inl (by subst h; rw [Lib.toList_data]; exact ⟨rfl, rfl⟩)
        · exact .inr ⟨toList_ne h, toList_nonempty h⟩
      rw [hl0] at CX C1 C2 C3
      clear hl0 hA77
      go_enter Try.func9, Try.ntmps9
      go_upto_region 1 with fail
      have hD : Hold W (W.alloc (.cells #[.slice qa L.length ca, .string H, .int .i64 N] 24)) [rowR W.heap.size (.slice qa L.length ca) [.string H, .int .i64 N]] := (Hold.start W).madeRow (.slice qa L.length ca) [.string H, .int .i64 N] 24
      generalize W.alloc _ = w0 at *
      obtain ⟨t0, t1, t2, f0, f1, f2⟩ := RowAt.c3 (hD.get 0 rfl)
      go_upto_region 2 with ((with_reducible refine (CX.out _ (PX.out.up hD.up)).mono ?_); rintro e wn ⟨ga, ka, rfl, hs, hn, hb⟩; replace hD := hold_addSl hD hb hs hn; clear hs hn hb; clear t0 t1 t2 f0 f1 f2; obtain ⟨t0, t1, t2, f0, f1, f2⟩ := RowAt.c3 (hD.get 0 rfl))
      clear t0 t1 t2 f0 f1 f2
      replace hD := ((hD.putRow 0 (g := W.heap.size) rfl 0 (.slice (some ⟨ga, 0, none⟩) 0 ka) (.slice (some ⟨ga, 0, none⟩) 0 ka) [.string H, .int .i64 N] (by simp) rfl).putRow 0 (g := W.heap.size) rfl 1 (.string HA) (.slice (some ⟨ga, 0, none⟩) 0 ka) [.string HA, .int .i64 N] (by simp) rfl).putRow 0 (g := W.heap.size) rfl 2 (.int .i64 NA) (.slice (some ⟨ga, 0, none⟩) 0 ka) [.string HA, .int .i64 NA] (by simp) rfl
      generalize ((wn.setCell ⟨W.heap.size, 0, none⟩ (.slice (some ⟨ga, 0, none⟩) 0 ka)).setCell ⟨W.heap.size, 1, none⟩ (.string HA)).setCell ⟨W.heap.size, 2, none⟩ (.int .i64 NA) = wb at *
      obtain ⟨t0, t1, t2, f0, f1, f2⟩ := RowAt.c3 (hD.get 0 rfl)
      clear CX PX
      go_upto_region 5 with ((with_reducible refine (C1.out _ _ _ (slR_pairs (hD.get 1 rfl))).mono ?_); rintro e wn ⟨rfl, hb⟩; replace hD := hD.next hb; clear hb; clear t0 t1 t2 f0 f1 f2; obtain ⟨t0, t1, t2, f0, f1, f2⟩ := RowAt.c3 (hD.get 0 rfl))
      replace hD := hD.putRow 0 (g := W.heap.size) rfl 1 (.string ⟨#[255, 255, 255, 255, 255, 255, 255, 255, 255, 255, 255, 255, 255, 255, 255, 255]⟩) (.slice (some ⟨ga, 0, none⟩) 0 ka) [.string ⟨#[255, 255, 255, 255, 255, 255, 255, 255, 255, 255, 255, 255, 255, 255, 255, 255]⟩, .int .i64 NA] (by simp) rfl
      generalize wn.setCell ⟨W.heap.size, 1, none⟩ (.string ⟨#[255, 255, 255, 255, 255, 255, 255, 255, 255, 255, 255, 255, 255, 255, 255, 255]⟩) = w5 at *
      clear t0 t1 t2 f0 f1 f2
      obtain ⟨t0, t1, t2, f0, f1, f2⟩ := RowAt.c3 (hD.get 0 rfl)
      have l0 := Later.cell_of t0; have l1 := Later.cell_of t1; have l2 := Later.cell_of t2
      have hne := later_ne w5
      clear t0 t1 t2 f0 f1 f2
      refine wp_region_later (by kernel_rfl) (by kernel_rfl) ?_
      repeat (go_big_quiet_step (fail))
      refine wpQuiet_nil ?_
      intro w6 hw6
      obtain ⟨u6, rfl⟩ := hw6
      replace hD := hD.next u6.up
      generalize u6.world = w7 at *
      clear l0 l1 l2 hne
      obtain ⟨t0, t1, t2, f0, f1, f2⟩ := RowAt.c3 (hD.get 0 rfl)
      go_upto_region 10 with ((with_reducible refine (C2.out _ _ _ (slR_pairs (hD.get 1 rfl))).mono ?_); rintro e wn ⟨rfl, hb⟩; replace hD := hD.next hb; clear hb; clear t0 t1 t2 f0 f1 f2; obtain ⟨t0, t1, t2, f0, f1, f2⟩ := RowAt.c3 (hD.get 0 rfl))
      replace hD := hD.putRow 0 (g := W.heap.size) rfl 2 (.int .i64 (n % 1025)) (.slice (some ⟨ga, 0, none⟩) (0) ka) [.string ⟨#[255, 255, 255, 255, 255, 255, 255, 255, 255, 255, 255, 255, 255, 255, 255, 255]⟩, .int .i64 (n % 1025)] (by simp) rfl
      generalize wn.setCell ⟨W.heap.size, 2, none⟩ (.int .i64 (n % 1025)) = w9 at *
      clear t0 t1 t2 f0 f1 f2; obtain ⟨t0, t1, t2, f0, f1, f2⟩ := RowAt.c3 (hD.get 0 rfl)
      go_upto_region 11 with fail
      rw [← hS]
      clear hS hs
      go_upto_region 12 with fail
      replace hD := hD.putRow 0 (g := W.heap.size) rfl 1 (.string S) (.slice (some ⟨ga, 0, none⟩) (0) ka) [.string S, .int .i64 (n % 1025)] (by simp) rfl
      generalize w9.setCell ⟨W.heap.size, 1, none⟩ (.string S) = w11 at *
      clear t0 t1 t2 f0 f1 f2; obtain ⟨t0, t1, t2, f0, f1, f2⟩ := RowAt.c3 (hD.get 0 rfl)
      rcases key with ⟨k1, k2⟩ | ⟨k1, k2⟩
      all_goals
        go_wp2_with (first | ((with_reducible refine (C3.out _ _ _ (slR_pairs (hD.get 1 rfl))).mono ?_); rintro e wn ⟨rfl, hb⟩; replace hD := hD.next hb; clear hb; clear t0 t1 t2 f0 f1 f2; obtain ⟨t0, t1, t2, f0, f1, f2⟩ := RowAt.c3 (hD.get 0 rfl)) | ((with_reducible refine (CG.out _).mono ?_); rintro e wn ⟨rfl, hb⟩; replace hD := hD.next hb; clear hb; clear t0 t1 t2 f0 f1 f2; obtain ⟨t0, t1, t2, f0, f1, f2⟩ := RowAt.c3 (hD.get 0 rfl)))
        go_ret
        exact ⟨rfl, hD.up⟩
    · obtain ⟨m, hm⟩ : ∃ m, A.length = m + 1 := ⟨A.length - 1, by have : A.length ≠ 0 := fun h => hA0 (List.length_eq_zero_iff.1 h); omega⟩
      have hk := lastK_last ByteArray.empty A m hm
      rw [hk] at C2 C3
      have hml : m < A.length := by omega
      have hks := (hkeys.2.2 _ (List.getElem_mem hml)).1
      have HC := Lib.hid (show ∀ w g c, (slR (some ⟨g, 0, none⟩) c A).holds w → w.cell? ⟨g, m * 2, none⟩ = some (.string A[m].1) from fun w g c h => by
        obtain ⟨g', o', h1, h2, -⟩ := slR_pairs h m hml
        injection h1 with h1
        injection h1 with h1 h3
        subst h1 h3
        rw [Nat.zero_add] at h2
        exact h2)
      have him : m ≤ 76 := by omega
      generalize A[m].1 = K at *
      have i0 : (0 : Int) ≤ (m : Int) := by omega
      have i1 : (m : Int) ≤ 76 := by omega
      have hKb : keyB K = true := by simp only [keyB, Bool.and_eq_true, decide_eq_true_eq]; omega
      simp only [lfV] at *
      rw [hm] at CX C1 C2 C3
      clear hm hk hml hA0 hr sa hkeys hrow hsmF hsmS hNA hA77 him
      by_cases hKF : K = ⟨#[255, 255, 255, 255, 255, 255, 255, 255, 255, 255, 255, 255, 255, 255, 255, 255]⟩
      · rw [show highB K ⟨#[255, 255, 255, 255, 255, 255, 255, 255, 255, 255, 255, 255, 255, 255, 255, 255]⟩ = false by rw [hKF]; kernel_rfl] at C2
        rw [hKF] at HC
        clear hKF C3 hKb hks
        go_enter Try.func9, Try.ntmps9
        go_upto_region 1 with fail
        have hD : Hold W (W.alloc (.cells #[.slice qa L.length ca, .string H, .int .i64 N] 24)) [rowR W.heap.size (.slice qa L.length ca) [.string H, .int .i64 N]] := (Hold.start W).madeRow (.slice qa L.length ca) [.string H, .int .i64 N] 24
        generalize W.alloc _ = w0 at *
        obtain ⟨t0, t1, t2, f0, f1, f2⟩ := RowAt.c3 (hD.get 0 rfl)
        go_upto_region 2 with ((with_reducible refine (CX.out _ (PX.out.up hD.up)).mono ?_); rintro e wn ⟨ga, ka, rfl, hs, hn, hb⟩; replace hD := hold_addSl hD hb hs hn; clear hs hn hb; clear t0 t1 t2 f0 f1 f2; obtain ⟨t0, t1, t2, f0, f1, f2⟩ := RowAt.c3 (hD.get 0 rfl))
        clear t0 t1 t2 f0 f1 f2
        replace hD := ((hD.putRow 0 (g := W.heap.size) rfl 0 (.slice (some ⟨ga, 0, none⟩) (m + 1) ka) (.slice (some ⟨ga, 0, none⟩) (m + 1) ka) [.string H, .int .i64 N] (by simp) rfl).putRow 0 (g := W.heap.size) rfl 1 (.string HA) (.slice (some ⟨ga, 0, none⟩) (m + 1) ka) [.string HA, .int .i64 N] (by simp) rfl).putRow 0 (g := W.heap.size) rfl 2 (.int .i64 NA) (.slice (some ⟨ga, 0, none⟩) (m + 1) ka) [.string HA, .int .i64 NA] (by simp) rfl
        generalize ((wn.setCell ⟨W.heap.size, 0, none⟩ (.slice (some ⟨ga, 0, none⟩) (m + 1) ka)).setCell ⟨W.heap.size, 1, none⟩ (.string HA)).setCell ⟨W.heap.size, 2, none⟩ (.int .i64 NA) = wb at *
        obtain ⟨t0, t1, t2, f0, f1, f2⟩ := RowAt.c3 (hD.get 0 rfl)
        clear CX PX
        go_upto_region 5 with ((with_reducible refine (C1.out _ _ _ (slR_pairs (hD.get 1 rfl))).mono ?_); rintro e wn ⟨rfl, hb⟩; replace hD := hD.next hb; clear hb; clear t0 t1 t2 f0 f1 f2; obtain ⟨t0, t1, t2, f0, f1, f2⟩ := RowAt.c3 (hD.get 0 rfl))
        replace hD := hD.putRow 0 (g := W.heap.size) rfl 1 (.string ⟨#[255, 255, 255, 255, 255, 255, 255, 255, 255, 255, 255, 255, 255, 255, 255, 255]⟩) (.slice (some ⟨ga, 0, none⟩) (m + 1) ka) [.string ⟨#[255, 255, 255, 255, 255, 255, 255, 255, 255, 255, 255, 255, 255, 255, 255, 255]⟩, .int .i64 NA] (by simp) rfl
        generalize wn.setCell ⟨W.heap.size, 1, none⟩ (.string ⟨#[255, 255, 255, 255, 255, 255, 255, 255, 255, 255, 255, 255, 255, 255, 255, 255]⟩) = w5 at *
        clear t0 t1 t2 f0 f1 f2
        obtain ⟨t0, t1, t2, f0, f1, f2⟩ := RowAt.c3 (hD.get 0 rfl)
        have c0 := HC.out _ _ _ (hD.get 1 rfl)
        have n0 := Later.cell_of c0
        clear c0
        have l0 := Later.cell_of t0; have l1 := Later.cell_of t1; have l2 := Later.cell_of t2
        have hne := later_ne w5
        clear t0 t1 t2 f0 f1 f2
        refine wp_region_later (by kernel_rfl) (by kernel_rfl) ?_
        repeat (go_big_quiet_step (fail))
        refine wpQuiet_nil ?_
        intro w6 hw6
        obtain ⟨u6, rfl⟩ := hw6
        replace hD := hD.next u6.up
        generalize u6.world = w7 at *
        clear l0 l1 l2 hne n0
        obtain ⟨t0, t1, t2, f0, f1, f2⟩ := RowAt.c3 (hD.get 0 rfl)
        go_wp2_with (first | ((with_reducible refine (C2.out _ _ _ (slR_pairs (hD.get 1 rfl))).mono ?_); rintro e wn ⟨rfl, hb⟩; replace hD := hD.next hb; clear hb; clear t0 t1 t2 f0 f1 f2; obtain ⟨t0, t1, t2, f0, f1, f2⟩ := RowAt.c3 (hD.get 0 rfl)) | ((with_reducible refine (CG.out _).mono ?_); rintro e wn ⟨rfl, hb⟩; replace hD := hD.next hb; clear hb; clear t0 t1 t2 f0 f1 f2; obtain ⟨t0, t1, t2, f0, f1, f2⟩ := RowAt.c3 (hD.get 0 rfl)))
        go_ret
        exact ⟨rfl, hD.up⟩
      · have hne : ¬ lst K = List.replicate 16 255 := fun h => hKF (by rw [← str_lst K, h, ← ff_lst, str_lst])
        have hlt : ltS K ⟨#[255, 255, 255, 255, 255, 255, 255, 255, 255, 255, 255, 255, 255, 255, 255, 255]⟩ = true := by
          rw [ltS_iff, ff_lst]
          exact lt_ff 16 (lst K) (by rw [lst_length]; omega) hne
        rw [highB_of (h := ⟨#[255, 255, 255, 255, 255, 255, 255, 255, 255, 255, 255, 255, 255, 255, 255, 255]⟩) (by decide) (.inr hKb), hlt, Bool.or_true] at C2
        rw [highB_of hS3 (.inr hKb)] at C3
        have hKL : ¬ K.toList = [255, 255, 255, 255, 255, 255, 255, 255, 255, 255, 255, 255, 255, 255, 255, 255] := fun h => hne (by rw [Lib.toList_data] at h; exact h)
        have hKQ : (K.toList == [255, 255, 255, 255, 255, 255, 255, 255, 255, 255, 255, 255, 255, 255, 255, 255]) = false := beq_eq_false_iff_ne.2 hKL
        clear hne hlt hKF hKb hks
        have key : (S.toList = [] ∧ S.toList.isEmpty = true ∧ S = ByteArray.empty) ∨ (¬ S.toList = [] ∧ S.toList.isEmpty = false ∧ decide (S = ByteArray.empty) = false) := by
          by_cases h : S = ByteArray.empty
          · exact .inl ⟨by subst h; rw [Lib.toList_data]; rfl, by subst h; rw [Lib.toList_data]; rfl, h⟩
          · exact .inr ⟨toList_ne h, toList_nonempty h, decide_eq_false h⟩
        go_enter Try.func9, Try.ntmps9
        go_upto_region 1 with fail
        have hD : Hold W (W.alloc (.cells #[.slice qa L.length ca, .string H, .int .i64 N] 24)) [rowR W.heap.size (.slice qa L.length ca) [.string H, .int .i64 N]] := (Hold.start W).madeRow (.slice qa L.length ca) [.string H, .int .i64 N] 24
        generalize W.alloc _ = w0 at *
        obtain ⟨t0, t1, t2, f0, f1, f2⟩ := RowAt.c3 (hD.get 0 rfl)
        go_upto_region 2 with ((with_reducible refine (CX.out _ (PX.out.up hD.up)).mono ?_); rintro e wn ⟨ga, ka, rfl, hs, hn, hb⟩; replace hD := hold_addSl hD hb hs hn; clear hs hn hb; clear t0 t1 t2 f0 f1 f2; obtain ⟨t0, t1, t2, f0, f1, f2⟩ := RowAt.c3 (hD.get 0 rfl))
        clear t0 t1 t2 f0 f1 f2
        replace hD := ((hD.putRow 0 (g := W.heap.size) rfl 0 (.slice (some ⟨ga, 0, none⟩) (m + 1) ka) (.slice (some ⟨ga, 0, none⟩) (m + 1) ka) [.string H, .int .i64 N] (by simp) rfl).putRow 0 (g := W.heap.size) rfl 1 (.string HA) (.slice (some ⟨ga, 0, none⟩) (m + 1) ka) [.string HA, .int .i64 N] (by simp) rfl).putRow 0 (g := W.heap.size) rfl 2 (.int .i64 NA) (.slice (some ⟨ga, 0, none⟩) (m + 1) ka) [.string HA, .int .i64 NA] (by simp) rfl
        generalize ((wn.setCell ⟨W.heap.size, 0, none⟩ (.slice (some ⟨ga, 0, none⟩) (m + 1) ka)).setCell ⟨W.heap.size, 1, none⟩ (.string HA)).setCell ⟨W.heap.size, 2, none⟩ (.int .i64 NA) = wb at *
        obtain ⟨t0, t1, t2, f0, f1, f2⟩ := RowAt.c3 (hD.get 0 rfl)
        clear CX PX
        go_upto_region 5 with ((with_reducible refine (C1.out _ _ _ (slR_pairs (hD.get 1 rfl))).mono ?_); rintro e wn ⟨rfl, hb⟩; replace hD := hD.next hb; clear hb; clear t0 t1 t2 f0 f1 f2; obtain ⟨t0, t1, t2, f0, f1, f2⟩ := RowAt.c3 (hD.get 0 rfl))
        replace hD := hD.putRow 0 (g := W.heap.size) rfl 1 (.string ⟨#[255, 255, 255, 255, 255, 255, 255, 255, 255, 255, 255, 255, 255, 255, 255, 255]⟩) (.slice (some ⟨ga, 0, none⟩) (m + 1) ka) [.string ⟨#[255, 255, 255, 255, 255, 255, 255, 255, 255, 255, 255, 255, 255, 255, 255, 255]⟩, .int .i64 NA] (by simp) rfl
        generalize wn.setCell ⟨W.heap.size, 1, none⟩ (.string ⟨#[255, 255, 255, 255, 255, 255, 255, 255, 255, 255, 255, 255, 255, 255, 255, 255]⟩) = w5 at *
        clear t0 t1 t2 f0 f1 f2
        obtain ⟨t0, t1, t2, f0, f1, f2⟩ := RowAt.c3 (hD.get 0 rfl)
        have c0 := HC.out _ _ _ (hD.get 1 rfl)
        have n0 := Later.cell_of c0
        clear c0
        have l0 := Later.cell_of t0; have l1 := Later.cell_of t1; have l2 := Later.cell_of t2
        have hne := later_ne w5
        clear t0 t1 t2 f0 f1 f2
        refine wp_region_later (by kernel_rfl) (by kernel_rfl) ?_
        repeat (go_big_quiet_step (fail))
        refine wpQuiet_nil ?_
        intro w6 hw6
        obtain ⟨u6, rfl⟩ := hw6
        replace hD := hD.next u6.up
        generalize u6.world = w7 at *
        clear l0 l1 l2 hne n0
        obtain ⟨t0, t1, t2, f0, f1, f2⟩ := RowAt.c3 (hD.get 0 rfl)
        go_upto_region 10 with ((with_reducible refine (C2.out _ _ _ (slR_pairs (hD.get 1 rfl))).mono ?_); rintro e wn ⟨rfl, hb⟩; replace hD := hD.next hb; clear hb; clear t0 t1 t2 f0 f1 f2; obtain ⟨t0, t1, t2, f0, f1, f2⟩ := RowAt.c3 (hD.get 0 rfl))
        replace hD := hD.putRow 0 (g := W.heap.size) rfl 2 (.int .i64 (n % 1025)) (.slice (some ⟨ga, 0, none⟩) ((m + 1)) ka) [.string ⟨#[255, 255, 255, 255, 255, 255, 255, 255, 255, 255, 255, 255, 255, 255, 255, 255]⟩, .int .i64 (n % 1025)] (by simp) rfl
        generalize wn.setCell ⟨W.heap.size, 2, none⟩ (.int .i64 (n % 1025)) = w9 at *
        clear t0 t1 t2 f0 f1 f2; obtain ⟨t0, t1, t2, f0, f1, f2⟩ := RowAt.c3 (hD.get 0 rfl)
        go_upto_region 11 with fail
        rw [← hS]
        clear hS hs
        go_upto_region 12 with fail
        replace hD := hD.putRow 0 (g := W.heap.size) rfl 1 (.string S) (.slice (some ⟨ga, 0, none⟩) ((m + 1)) ka) [.string S, .int .i64 (n % 1025)] (by simp) rfl
        generalize w9.setCell ⟨W.heap.size, 1, none⟩ (.string S) = w11 at *
        clear t0 t1 t2 f0 f1 f2; obtain ⟨t0, t1, t2, f0, f1, f2⟩ := RowAt.c3 (hD.get 0 rfl)
        have c0 := HC.out _ _ _ (hD.get 1 rfl)
        rcases key with ⟨k1, k2, k3⟩ | ⟨k1, k2, k3⟩
        · rw [show (decide (S = ByteArray.empty) || ltS K S) = true by simp [k3]] at C3
          clear k3
          go_wp2_with (first | ((with_reducible refine (C3.out _ _ _ (slR_pairs (hD.get 1 rfl))).mono ?_); rintro e wn ⟨rfl, hb⟩; replace hD := hD.next hb; clear hb; clear t0 t1 t2 f0 f1 f2; obtain ⟨t0, t1, t2, f0, f1, f2⟩ := RowAt.c3 (hD.get 0 rfl)) | ((with_reducible refine (CG.out _).mono ?_); rintro e wn ⟨rfl, hb⟩; replace hD := hD.next hb; clear hb; clear t0 t1 t2 f0 f1 f2; obtain ⟨t0, t1, t2, f0, f1, f2⟩ := RowAt.c3 (hD.get 0 rfl)))
          go_ret
          exact ⟨rfl, hD.up⟩
        · rw [k3, Bool.false_or, ← str_ltB] at C3
          clear k3
          have hz : ((m : Int) + 1 == 0) = false := beq_eq_false_iff_ne.2 (by omega)
          go_wp2_with (first | ((with_reducible refine (C3.out _ _ _ (slR_pairs (hD.get 1 rfl))).mono ?_); rintro e wn ⟨rfl, hb⟩; replace hD := hD.next hb; clear hb; clear t0 t1 t2 f0 f1 f2; obtain ⟨t0, t1, t2, f0, f1, f2⟩ := RowAt.c3 (hD.get 0 rfl)) | ((with_reducible refine (CG.out _).mono ?_); rintro e wn ⟨rfl, hb⟩; replace hD := hD.next hb; clear hb; clear t0 t1 t2 f0 f1 f2; obtain ⟨t0, t1, t2, f0, f1, f2⟩ := RowAt.c3 (hD.get 0 rfl)))
          go_ret
          exact ⟨rfl, hD.up⟩
theorem high_row (x : LfD) (q : Option Addr) (c : Nat) (W : World) (hX : LfIn W x q) (s : ByteArray) (hs : s.size ≤ maxLen) (n : Int) (wn : (Lit.int .u16 n).wf = true) :
    Calls Try.prog 9 #[lfV x q c, .string s, .int .u16 n] W fun e w' => e = .returned (.bool true) ∧ Below W.heap.size W w' := by
  simp [Lit.wf, IntKind.min, IntKind.max, IntKind.bits, IntKind.signed] at wn
  exact high_law x q c W hX s hs n (by omega) (by omega)
end Go.Proofs.Ytdlcmbnbfghdmaa
