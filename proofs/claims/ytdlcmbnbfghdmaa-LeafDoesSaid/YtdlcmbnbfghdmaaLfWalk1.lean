/- Layer 10: weight, Size, fits, Right. -/
import Derived.Test.YtdlcmbnbfghdmaaLfPureA
import Derived.Test.YtdlcmbnbfghdmaaRecWalk5
import Derived.Test.YtdlcmbnbfghdmaaUpA
namespace Bw
theorem wtL_take_succ {l : List PairD} {k : Nat} (h : k < l.length) : wtL (l.take (k + 1)) = wtL (l.take k) + (2 + (l[k].1.size : Int) + (l[k].2.size : Int)) := by
  rw [List.take_succ_eq_append_getElem h, wtL_append]
  simp [wtL]
theorem wtL_take {l : List PairD} (hs : ∀ p ∈ l, p.1.size ≤ 1000 ∧ p.2.size ≤ 1000) (hl : l.length ≤ 1000) (k : Nat) : 0 ≤ wtL (l.take k) ∧ wtL (l.take k) ≤ 2002000 := by
  have h1 := wtL_nonneg (l.take k)
  have h2 := wtL_le (l := l.take k) (fun p hp => hs p (List.mem_of_mem_take hp))
  have h3 : (l.take k).length ≤ l.length := by rw [List.length_take]; omega
  omega
end Bw
namespace Go.Proofs.Ytdlcmbnbfghdmaa
open Go.RowKit Bw
set_option linter.unusedVariables false
def lfV (x : LfD) (q : Option Addr) (c : Nat) : Value := .agg #[.slice q x.l.length c, .string x.high, .int .i64 x.next]
theorem leaf_weight (p : PairD) (hk : p.1.size ≤ 1000) (hv : p.2.size ≤ 1000) (w : World) : Calls Try.prog 46 #[.agg #[.string p.1, .string p.2]] w fun e w' => e = .returned (.int .i64 (2 + (p.1.size : Int) + (p.2.size : Int))) ∧ Below w.heap.size w w' := by
  obtain ⟨k, v⟩ := p
  simp only at *
  have hu := Up.refl w
  go_enter Try.func46, Try.ntmps46
  go_wp2_with fail
  go_ret
  exact ⟨rfl, hu.alloc _⟩
set_option maxHeartbeats 1000000 in
theorem leaf_Size (x : LfD) (hx : x.Sm) (q : Option Addr) (c : Nat) (w : World) (hA : PairsAt w q x.l) : Calls Try.prog 16 #[lfV x q c] w fun e w' => e = .returned (.int .i64 x.size) ∧ Below w.heap.size w w' := by
  obtain ⟨L, H, N⟩ := x
  obtain ⟨s1, s2, s3⟩ := hx
  simp only [LfD.size, lfV] at *
  have HW := Lib.hid (wtL_take s3 s1)
  have HS := Lib.hid s3
  have h0 : (0 : Int) ≤ (H.size : Int) := by omega
  have h1 : (H.size : Int) ≤ 1000 := by omega
  have hu := (Up.refl w).alloc (.cells #[.slice q L.length c, .string H, .int .i64 N] 24)
  have HA := Lib.hid (hA.up hu)
  clear hA s3
  go_enter Try.func16, Try.ntmps16
  go_upto_region 3 with fail
  generalize w.alloc _ = w0 at *
  go_loopw [3, 13] (fun v3 v wr => ∃ k : Nat, k ≤ L.length ∧ v3 = .int .i64 (5 + (H.size : Int) + wtL (L.take k)) ∧ v = .int .i64 k ∧ Up w0 wr) (fun _ v _ => L.length - (intOf v).toNat)
  case atStart => exact ⟨0, by omega, by simp [wtL], rfl, Up.refl _⟩
  case round =>
  obtain ⟨k, hk, rfl, rfl, hr⟩ := hrel
  have hz := HW.out k
  by_cases hlt : k < L.length
  · have i0 : (0 : Int) ≤ (k : Int) := by omega
    have i1 : (k : Int) < (L.length : Int) := by omega
    obtain ⟨g, o, rfl, a1, a2⟩ := (HA.out.up hr) k hlt
    have hs := HS.out _ (List.getElem_mem hlt)
    have C1 := Lib.hid (leaf_weight L[k] hs.1 hs.2)
    have HE := Lib.hid (wtL_take_succ hlt)
    generalize L[k] = p at *
    obtain ⟨pk, pv⟩ := p
    simp only at hs C1 a1 a2 HE
    generalize wtL (L.take k) = z at *
    replace hr := hr.alloc (.cells #[.string pk, .string pv] 44)
    go_wp2_with ((with_reducible refine (C1.out _).mono ?_); rintro e wn ⟨rfl, hwn⟩; replace hr := hr.next hwn; clear hwn)
    exact ⟨⟨k + 1, by omega, by rw [HE.out, Int.add_assoc (5 + (H.size : Int))], by go_num, hr⟩, by simp [intOf]; omega⟩
  · have i1 : ¬ (k : Int) < (L.length : Int) := by omega
    obtain rfl : k = L.length := by omega
    rw [List.take_length] at hz ⊢
    go_wp2_with fail
    go_ret
    exact ⟨rfl, hu.trans hr⟩
theorem leaf_fits (x : LfD) (hx : x.Sm) (q : Option Addr) (c : Nat) (w : World) (hA : PairsAt w q x.l) : Calls Try.prog 44 #[lfV x q c] w fun e w' => e = .returned (.bool (decide (wtL x.l ≤ 231))) ∧ Below w.heap.size w w' := by
  have hz := wtL_take hx.each hx.len x.l.length
  rw [List.take_length] at hz
  have C1 := Lib.hid (fun w hA => leaf_Size x hx q c w hA)
  obtain ⟨L, H, N⟩ := x
  obtain ⟨s1, s2, s3⟩ := hx
  simp only [LfD.size, lfV] at *
  have h0 : (0 : Int) ≤ (H.size : Int) := by omega
  have h1 : (H.size : Int) ≤ 1000 := by omega
  have hu := (Up.refl w).alloc (.cells #[.slice q L.length c, .string H, .int .i64 N] 24)
  replace hA := hA.up hu
  have hd : decide (wtL L ≤ 231) = decide (5 + (H.size : Int) + wtL L - H.size + 16 ≤ 252) := by
    rw [decide_eq_decide]; omega
  rw [hd]
  generalize wtL L = z at *
  clear s3
  have rp := RowAt.made w 24 [.slice q L.length c, .string H, .int .i64 N]
  have hb0 : 0 ≤ 5 + (H.size : Int) + z := by omega
  have hb1 : 5 + (H.size : Int) + z ≤ 3000000 := by omega
  generalize hy : 5 + (H.size : Int) + z = y at *
  clear hy
  go_enter Try.func44, Try.ntmps44
  go_upto_region 1 with fail
  generalize w.heap.size = g at *
  change RowAt (w.alloc (.cells #[.slice q L.length c, .string H, .int .i64 N] 24)) _ _ at rp
  generalize w.alloc (.cells #[.slice q L.length c, .string H, .int .i64 N] 24) = w0 at *
  obtain ⟨t0, t1, t2, -⟩ := rp.c3
  have l0 := Later.cell_of t0; have l1 := Later.cell_of t1; have l2 := Later.cell_of t2
  have hne := later_ne w0
  have HA := Lib.hid hA
  clear t0 t1 t2 hA hd rp
  refine wp_region_later (by kernel_rfl) (by kernel_rfl) ?_
  repeat (go_big_quiet_step ((go_at_call 16; rename_i ul; exact Calls.later (C1.out _ (HA.out.up ul.up)))))
  refine wpQuiet_nil ?_
  intro w9 hw9
  obtain ⟨u9, rfl⟩ := hw9
  replace hu := hu.trans u9.up
  clear l0 l1 l2 hne
  generalize u9.world = w9 at *
  go_wp2_with fail
  go_ret
  exact ⟨rfl, hu⟩
set_option maxHeartbeats 2000000 in
theorem leaf_Right (x : LfD) (hx : x.Sm) (q : Option Addr) (c : Nat) (w : World) (hA : PairsAt w q x.l) : Calls Try.prog 13 #[lfV x q c] w fun e w' => e = .returned (.bool x.right) ∧ Below w.heap.size w w' := by
  have CF := Lib.hid (fun w hA => leaf_fits x hx q c w hA)
  obtain ⟨L, H, N⟩ := x
  obtain ⟨s1, s2, s3⟩ := hx
  have HK := Lib.hid (show LfD.right ⟨L, H, N⟩ = (rowFrom ByteArray.empty L && (decide (H = ByteArray.empty) || (keyB H && ltS (lastK ByteArray.empty L) H)) && (decide (0 ≤ N) && decide (N ≤ 1024)) && decide (wtL L ≤ 231)) from rfl)
  simp only [lfV] at *
  generalize LfD.right ⟨L, H, N⟩ = K at *
  have hu := (Up.refl w).alloc (.cells #[.slice q L.length c, .string H, .int .i64 N] 24)
  have HA := Lib.hid (hA.up hu)
  have rp := RowAt.made w 24 [.slice q L.length c, .string H, .int .i64 N]
  clear hA s3
  go_enter Try.func13, Try.ntmps13
  go_upto_region 3 with fail
  generalize w.heap.size = g at *
  change RowAt (w.alloc (.cells #[.slice q L.length c, .string H, .int .i64 N] 24)) _ _ at rp
  generalize w.alloc (.cells #[.slice q L.length c, .string H, .int .i64 N] 24) = w0 at *
  go_loopw [3, 10] (fun v3 v wr => ∃ (k : Nat) (last : ByteArray), k ≤ L.length ∧ v = .int .i64 k ∧ v3 = .string last ∧ rowFrom ByteArray.empty L = rowFrom last (L.drop k) ∧ lastK ByteArray.empty L = lastK last (L.drop k) ∧ Up w0 wr) (fun _ v _ => L.length - (intOf v).toNat)
  case atStart => exact ⟨0, ByteArray.empty, by omega, rfl, rfl, rfl, rfl, Up.refl _⟩
  case round =>
  obtain ⟨k, last, hk, rfl, rfl, htk, hlk, hr⟩ := hrel
  have HT := Lib.hid htk
  have HL := Lib.hid hlk
  clear htk hlk
  by_cases hlt : k < L.length
  · have i0 : (0 : Int) ≤ (k : Int) := by omega
    have i1 : (k : Int) < (L.length : Int) := by omega
    obtain ⟨ga, oa, rfl, a1, a2⟩ := (HA.out.up hr) k hlt
    have hd := List.drop_eq_getElem_cons hlt
    have HT2 := Lib.hid (show rowFrom ByteArray.empty L = (keyB L[k].1 && valB L[k].2 && ltS last L[k].1 && rowFrom L[k].1 (L.drop (k + 1))) by rw [HT.out, hd]; rfl)
    have HL2 := Lib.hid (show lastK ByteArray.empty L = lastK L[k].1 (L.drop (k + 1)) by rw [HL.out, hd]; rfl)
    clear hd HT HL
    generalize L[k] = x at *
    obtain ⟨x1, x2⟩ := x
    have C1 := Lib.hid (fun w => rec_Key x1 w)
    have C2 := Lib.hid (fun w => rec_Value x2 w)
    have E := Lib.hid (str_leB x1 last)
    simp only at a1 a2 HT2 HL2
    cases h1 : keyB x1
    · rw [h1] at C1 HT2
      go_wp2_with ((with_reducible refine (C1.out _).mono ?_); rintro e wn ⟨rfl, rfl⟩)
      go_ret
      refine ⟨?_, (hu.trans hr).alloc _⟩
      rw [HK.out, HT2.out]; rfl
    cases h2 : valB x2
    · rw [h1] at C1 HT2
      rw [h2] at C2 HT2
      go_wp2_with (first | ((with_reducible refine (C1.out _).mono ?_); rintro e wn ⟨rfl, rfl⟩) | ((with_reducible refine (C2.out _).mono ?_); rintro e wn ⟨rfl, rfl⟩))
      go_ret
      refine ⟨?_, (hu.trans hr).alloc _⟩
      rw [HK.out, HT2.out]; rfl
    rw [h1] at C1 HT2
    rw [h2] at C2 HT2
    clear h1 h2
    cases h3 : ltS last x1
    · have h4 : (Op.bytesLess x1.toList last.toList || x1.toList == last.toList) = true := by rw [E.out, h3]; rfl
      rw [h3] at HT2
      go_wp2_with (first | ((with_reducible refine (C1.out _).mono ?_); rintro e wn ⟨rfl, rfl⟩) | ((with_reducible refine (C2.out _).mono ?_); rintro e wn ⟨rfl, rfl⟩))
      go_ret
      refine ⟨?_, (hu.trans hr).alloc _⟩
      rw [HK.out, HT2.out]; rfl
    · have h4 : (Op.bytesLess x1.toList last.toList || x1.toList == last.toList) = false := by rw [E.out, h3]; rfl
      rw [h3] at HT2
      go_wp2_with (first | ((with_reducible refine (C1.out _).mono ?_); rintro e wn ⟨rfl, rfl⟩) | ((with_reducible refine (C2.out _).mono ?_); rintro e wn ⟨rfl, rfl⟩))
      go_roundw
      case rel =>
        exact ⟨k + 1, x1, by omega, by go_num, rfl, by rw [HT2.out]; rfl, HL2.out, hr.alloc _⟩
      case measure => simp [intOf]; omega
  · have i1 : ¬ (k : Int) < (L.length : Int) := by omega
    have hT := HT.out
    have hL := HL.out
    rw [List.drop_of_length_le (by omega)] at hT hL
    replace rp := rp.up hr
    replace hu := hu.trans hr
    have hAr := HA.out.up hr
    rw [hT, hL] at HK
    have hK : K = ((decide (H = ByteArray.empty) || (keyB H && ltS last H)) && (decide (0 ≤ N) && decide (N ≤ 1024)) && decide (wtL L ≤ 231)) := by
      rw [HK.out]; simp [rowFrom, lastK]
    clear HK hT hL HT HL
    have C1 := Lib.hid (fun w => rec_Key H w)
    have E1 : (H.toList == []) = decide (H = ByteArray.empty) := by
      have := str_eqB H ByteArray.empty
      rw [Lib.toList_data ByteArray.empty] at this
      exact this
    have E2 := str_ltB last H
    obtain ⟨t0, t1, t2, -⟩ := rp.c3
    have b0 : ∀ h : (0 ≤ N ∧ N ≤ 1024), (decide (0 ≤ N) && decide (N ≤ 1024)) = true := fun h => by simp [h.1, h.2]
    have key : (H = ByteArray.empty ∨ (H ≠ ByteArray.empty ∧ keyB H = false) ∨ (H ≠ ByteArray.empty ∧ keyB H = true ∧ ltS last H = false) ∨ (H ≠ ByteArray.empty ∧ keyB H = true ∧ ltS last H = true)) := by
      by_cases h : H = ByteArray.empty
      · exact .inl h
      · cases keyB H <;> cases ltS last H <;> simp [h]
    have hN : ¬ 0 ≤ N ∨ (0 ≤ N ∧ ¬ N ≤ 1024) ∨ (0 ≤ N ∧ N ≤ 1024) := by omega
    rcases key with h1 | ⟨h1, h2⟩ | ⟨h1, h2, h3⟩ | ⟨h1, h2, h3⟩
    · rw [decide_eq_true h1] at E1 hK
      rcases hN with d1 | ⟨d1, d2⟩ | ⟨d1, d2⟩
      · rw [decide_eq_false d1] at hK
        have HK := Lib.hid hK
        clear hK h1 b0
        go_wp2_with (first | ((with_reducible refine (C1.out _).mono ?_); rintro e wn ⟨rfl, rfl⟩) | ((with_reducible refine (CF.out _ hAr).mono ?_); rintro e wn ⟨rfl, hwn⟩; replace hu := hu.next hwn; clear hwn))
        go_ret
        exact ⟨by rw [HK.out]; simp, hu⟩
      · rw [decide_eq_false d2] at hK
        have HK := Lib.hid hK
        clear hK h1 b0
        go_wp2_with (first | ((with_reducible refine (C1.out _).mono ?_); rintro e wn ⟨rfl, rfl⟩) | ((with_reducible refine (CF.out _ hAr).mono ?_); rintro e wn ⟨rfl, hwn⟩; replace hu := hu.next hwn; clear hwn))
        go_ret
        exact ⟨by rw [HK.out]; simp, hu⟩
      · rw [b0 ⟨d1, d2⟩] at hK
        have HK := Lib.hid hK
        clear hK h1 b0
        go_wp2_with (first | ((with_reducible refine (C1.out _).mono ?_); rintro e wn ⟨rfl, rfl⟩) | ((with_reducible refine (CF.out _ hAr).mono ?_); rintro e wn ⟨rfl, hwn⟩; replace hu := hu.next hwn; clear hwn))
        go_ret
        exact ⟨by rw [HK.out]; simp, hu⟩
    · rw [decide_eq_false h1] at E1 hK
      rw [h2] at hK C1
      have HK := Lib.hid hK
      clear hK h1 b0
      go_wp2_with (first | ((with_reducible refine (C1.out _).mono ?_); rintro e wn ⟨rfl, rfl⟩) | ((with_reducible refine (CF.out _ hAr).mono ?_); rintro e wn ⟨rfl, hwn⟩; replace hu := hu.next hwn; clear hwn))
      go_ret
      exact ⟨by rw [HK.out]; simp, hu⟩
    · rw [decide_eq_false h1] at E1 hK
      rw [h2] at hK C1
      rw [h3] at hK E2
      have HK := Lib.hid hK
      clear hK h1 b0
      go_wp2_with (first | ((with_reducible refine (C1.out _).mono ?_); rintro e wn ⟨rfl, rfl⟩) | ((with_reducible refine (CF.out _ hAr).mono ?_); rintro e wn ⟨rfl, hwn⟩; replace hu := hu.next hwn; clear hwn))
      go_ret
      exact ⟨by rw [HK.out]; simp, hu⟩
    · rw [decide_eq_false h1] at E1 hK
      rw [h2] at hK C1
      rw [h3] at hK E2
      rcases hN with d1 | ⟨d1, d2⟩ | ⟨d1, d2⟩
      · rw [decide_eq_false d1] at hK
        have HK := Lib.hid hK
        clear hK h1 b0
        go_wp2_with (first | ((with_reducible refine (C1.out _).mono ?_); rintro e wn ⟨rfl, rfl⟩) | ((with_reducible refine (CF.out _ hAr).mono ?_); rintro e wn ⟨rfl, hwn⟩; replace hu := hu.next hwn; clear hwn))
        go_ret
        exact ⟨by rw [HK.out]; simp, hu⟩
      · rw [decide_eq_false d2] at hK
        have HK := Lib.hid hK
        clear hK h1 b0
        go_wp2_with (first | ((with_reducible refine (C1.out _).mono ?_); rintro e wn ⟨rfl, rfl⟩) | ((with_reducible refine (CF.out _ hAr).mono ?_); rintro e wn ⟨rfl, hwn⟩; replace hu := hu.next hwn; clear hwn))
        go_ret
        exact ⟨by rw [HK.out]; simp, hu⟩
      · rw [b0 ⟨d1, d2⟩] at hK
        have HK := Lib.hid hK
        clear hK h1 b0
        go_wp2_with (first | ((with_reducible refine (C1.out _).mono ?_); rintro e wn ⟨rfl, rfl⟩) | ((with_reducible refine (CF.out _ hAr).mono ?_); rintro e wn ⟨rfl, hwn⟩; replace hu := hu.next hwn; clear hwn))
        go_ret
        exact ⟨by rw [HK.out]; simp, hu⟩
end Go.Proofs.Ytdlcmbnbfghdmaa
