import Derived.Test.YtdlcmbnbfghdmaaRecWalk5
namespace Go.Proofs.Ytdlcmbnbfghdmaa
open Go.RowKit Bw
set_option linter.unusedVariables false

theorem str_isEmpty (s : ByteArray) : s.toList.isEmpty = decide (s = ByteArray.empty) := by
  by_cases h : s.size = 0
  · rw [str_empty h]
    have : s = ByteArray.empty := lst_inj (List.eq_nil_of_length_eq_zero (by rw [lst_length, h]))
    simp [this]
  · rw [str_nonempty h]
    have : ¬ s = ByteArray.empty := fun e => h (by rw [e]; rfl)
    simp [this]

theorem refForm1 (t : Int) (key val : ByteArray) (p u n : Int) (l : List PairD) : RecD.rightR ⟨1, t, key, val, p, u, n, l⟩ =
    (inB t 1 1099511627776 && key.toList.isEmpty && val.toList.isEmpty && valB val && !(p != 0) && !(u != 0) && !(n != 0) && (inB p 0 4 && inB u 0 1099511627776 && inB n 0 1099511627776 && ((l.length : Int) == 0) && rowB l)) := by
  have e1 : valB ByteArray.empty = true := rfl
  have e2 : rowB [] = true := rfl
  rw [Bool.eq_iff_iff]
  unfold RecD.rightR top5
  simp [RecD.same, RecD.bare, txnB, hkeyB, hvalB, passB, pairsB, inB, str_isEmpty]
  constructor <;> (intro h; simp_all) <;> omega
theorem refForm2 (t : Int) (key val : ByteArray) (p u n : Int) (l : List PairD) : RecD.rightR ⟨2, t, key, val, p, u, n, l⟩ =
    (inB t 1 1099511627776 && keyB key && valB val && !(p != 0) && !(u != 0) && !(n != 0) && (inB p 0 4 && inB u 0 1099511627776 && inB n 0 1099511627776 && ((l.length : Int) == 0) && rowB l)) := by
  have e1 : valB ByteArray.empty = true := rfl
  have e2 : rowB [] = true := rfl
  rw [Bool.eq_iff_iff]
  unfold RecD.rightR top5
  simp [RecD.same, RecD.bare, txnB, hkeyB, hvalB, passB, pairsB, inB]
  constructor <;> (intro h; simp_all) <;> omega
theorem refForm3 (t : Int) (key val : ByteArray) (p u n : Int) (l : List PairD) : RecD.rightR ⟨3, t, key, val, p, u, n, l⟩ =
    (inB t 1 1099511627776 && keyB key && val.toList.isEmpty && valB val && !(p != 0) && !(u != 0) && !(n != 0) && (inB p 0 4 && inB u 0 1099511627776 && inB n 0 1099511627776 && ((l.length : Int) == 0) && rowB l)) := by
  have e1 : valB ByteArray.empty = true := rfl
  have e2 : rowB [] = true := rfl
  rw [Bool.eq_iff_iff]
  unfold RecD.rightR top5
  simp [RecD.same, RecD.bare, txnB, hkeyB, hvalB, passB, pairsB, inB, str_isEmpty]
  constructor <;> (intro h; simp_all) <;> omega
theorem refForm4 (t : Int) (key val : ByteArray) (p u n : Int) (l : List PairD) : RecD.rightR ⟨4, t, key, val, p, u, n, l⟩ =
    (inB t 1 1099511627776 && key.toList.isEmpty && val.toList.isEmpty && valB val && !(p != 0) && !(u != 0) && !(n != 0) && (inB p 0 4 && inB u 0 1099511627776 && inB n 0 1099511627776 && ((l.length : Int) == 0) && rowB l)) := by
  have e1 : valB ByteArray.empty = true := rfl
  have e2 : rowB [] = true := rfl
  rw [Bool.eq_iff_iff]
  unfold RecD.rightR top5
  simp [RecD.same, RecD.bare, txnB, hkeyB, hvalB, passB, pairsB, inB, str_isEmpty]
  constructor <;> (intro h; simp_all) <;> omega
theorem refForm5 (t : Int) (key val : ByteArray) (p u n : Int) (l : List PairD) : RecD.rightR ⟨5, t, key, val, p, u, n, l⟩ =
    (inB t 1 1099511627776 && key.toList.isEmpty && val.toList.isEmpty && valB val && !(p != 0) && !(u != 0) && !(n != 0) && (inB p 0 4 && inB u 0 1099511627776 && inB n 0 1099511627776 && ((l.length : Int) == 0) && rowB l)) := by
  have e1 : valB ByteArray.empty = true := rfl
  have e2 : rowB [] = true := rfl
  rw [Bool.eq_iff_iff]
  unfold RecD.rightR top5
  simp [RecD.same, RecD.bare, txnB, hkeyB, hvalB, passB, pairsB, inB, str_isEmpty]
  constructor <;> (intro h; simp_all) <;> omega
theorem refForm6 (t : Int) (key val : ByteArray) (p u n : Int) (l : List PairD) : RecD.rightR ⟨6, t, key, val, p, u, n, l⟩ =
    (!(t != 0) && key.toList.isEmpty && val.toList.isEmpty && valB val && (inB p 0 4 && inB u 0 1099511627776 && inB n 0 1099511627776 && ((l.length : Int) == 0) && rowB l)) := by
  have e1 : valB ByteArray.empty = true := rfl
  have e2 : rowB [] = true := rfl
  rw [Bool.eq_iff_iff]
  unfold RecD.rightR top5
  simp [RecD.same, RecD.bare, txnB, hkeyB, hvalB, passB, pairsB, inB, str_isEmpty]
  constructor <;> (intro h; simp_all) <;> omega
theorem refForm7 (t : Int) (key val : ByteArray) (p u n : Int) (l : List PairD) : RecD.rightR ⟨7, t, key, val, p, u, n, l⟩ =
    (!(t != 0) && key.toList.isEmpty && val.toList.isEmpty && valB val && (inB p 0 4 && inB u 0 1099511627776 && inB n 0 1099511627776 && rowB l)) := by
  have e1 : valB ByteArray.empty = true := rfl
  have e2 : rowB [] = true := rfl
  rw [Bool.eq_iff_iff]
  unfold RecD.rightR top5
  simp [RecD.same, RecD.bare, txnB, hkeyB, hvalB, passB, pairsB, inB, str_isEmpty]
  constructor <;> (intro h; simp_all) <;> omega

theorem ref5_Key (s : ByteArray) (w : World) : Calls Try.prog 34 #[.string s] w fun e w' => e = .returned (.bool (keyB s)) ∧ w = w' := by
  have HF := Lib.hid (show keyB s = (decide (1 ≤ (s.size : Int)) && decide ((s.size : Int) ≤ 16)) from rfl)
  generalize keyB s = K at *
  go_enter Try.func34, Try.ntmps34
  go_wp2_with fail
  all_goals go_ret
  all_goals
    rename_i h
    refine ⟨?_, rfl⟩
    rw [HF.out]
    first
      | (have h2 : ¬ 1 ≤ (s.size : Int) := by omega
         simp [h2]; done)
      | (have h2 : 1 ≤ (s.size : Int) := by omega
         simp [h2]; done)

theorem ref5_Value (s : ByteArray) (w : World) : Calls Try.prog 35 #[.string s] w fun e w' => e = .returned (.bool (valB s)) ∧ w = w' := by
  unfold valB
  go_enter Try.func35, Try.ntmps35
  go_wp2_with fail
  all_goals go_ret
  all_goals exact ⟨rfl, rfl⟩

theorem ltS_at {a b : ByteArray} {k : Nat} (ha : k < a.size) (hb : k < b.size) (ht : (lst a).take k = (lst b).take k) (hne : a[k] ≠ b[k]) : ltS a b = decide (a[k] < b[k]) := by
  have key : ∀ (x y : List UInt8) (k : Nat) (hx : k < x.length) (hy : k < y.length), x.take k = y.take k → x[k] ≠ y[k] → decide (x < y) = decide (x[k] < y[k]) := by
    intro x
    induction x with
    | nil => intro y k hx; simp at hx
    | cons c x ih =>
      intro y k hx hy ht hne
      cases y with
      | nil => simp at hy
      | cons d y =>
        cases k with
        | zero =>
          simp only [List.getElem_cons_zero] at hne ⊢
          have : (c :: x < d :: y) ↔ (c < d ∨ c = d ∧ x < y) := List.cons_lt_cons_iff
          simp [this, hne]
        | succ k =>
          simp only [List.take_succ_cons, List.cons.injEq] at ht
          obtain ⟨rfl, ht⟩ := ht
          have : (c :: x < c :: y) ↔ (c < c ∨ c = c ∧ x < y) := List.cons_lt_cons_iff
          simp only [List.getElem_cons_succ] at hne ⊢
          have := ih y k (by simpa using hx) (by simpa using hy) ht hne
          rw [← this]
          simp
  rw [ltS, lst_getElem _ _ ha, lst_getElem _ _ hb]
  rw [lst_getElem _ _ ha, lst_getElem _ _ hb] at hne
  exact key _ _ k _ _ ht hne
theorem ltS_end {a b : ByteArray} {k : Nat} (hk : k = a.size ∨ k = b.size) (ha : k ≤ a.size) (hb : k ≤ b.size) (ht : (lst a).take k = (lst b).take k) : ltS a b = decide (a.size < b.size) := by
  have key : ∀ (x y : List UInt8) (k : Nat), (k = x.length ∨ k = y.length) → k ≤ x.length → k ≤ y.length → x.take k = y.take k → decide (x < y) = decide (x.length < y.length) := by
    intro x
    induction x with
    | nil =>
      intro y k _ _ _ _
      cases y <;> simp
    | cons c x ih =>
      intro y k hk hx hy ht
      cases y with
      | nil => simp
      | cons d y =>
        cases k with
        | zero => simp at hk
        | succ k =>
          simp only [List.take_succ_cons, List.cons.injEq] at ht
          obtain ⟨rfl, ht⟩ := ht
          have := ih y k (by simpa using hk) (by simpa using hx) (by simpa using hy) ht
          simp only [List.length_cons] at *
          rw [show decide (x.length + 1 < y.length + 1) = decide (x.length < y.length) by simp, ← this]
          simp
  have := key (lst a) (lst b) k (by rw [lst_length, lst_length]; exact hk) (by rw [lst_length]; exact ha) (by rw [lst_length]; exact hb) ht
  rw [ltS, this, lst_length, lst_length]

set_option maxHeartbeats 1000000 in
theorem ref5_Less (a b : ByteArray) (w : World) (la : a.size ≤ 1099511627776) (lb : b.size ≤ 1099511627776) : Calls Try.prog 38 #[.string a, .string b] w fun e w' => e = .returned (.bool (ltS a b)) ∧ Below w.heap.size w w' := by
  obtain ⟨K, hK⟩ : ∃ K, ltS a b = K := ⟨_, rfl⟩
  have HK := Lib.hid hK
  rw [hK]; clear hK
  go_enter Try.func38, Try.ntmps38
  go_wp2_with fail
  go_loopw [5] (fun v wr => ∃ k : Nat, k ≤ a.size ∧ k ≤ b.size ∧ v = .int .i64 k ∧ (lst a).take k = (lst b).take k ∧ Up w wr) (fun v _ => a.size - (intOf v).toNat)
  case atStart => exact ⟨0, by omega, by omega, rfl, rfl, Up.refl w⟩
  case round =>
    obtain ⟨k, hk, hk2, rfl, htk, hu⟩ := hrel
    have HT := Lib.hid htk; clear htk
    by_cases hlt : k < a.size
    · by_cases hlt2 : k < b.size
      · have i0 : (0 : Int) ≤ (k : Int) := by omega
        have i1 : (k : Int) < (a.size : Int) := by omega
        have i2 : (k : Int) < (b.size : Int) := by omega
        have hne := later_ne wr
        by_cases he : a[k] = b[k]
        · have hb : ((a[k].toNat : Int) != (b[k].toNat : Int)) = false := by rw [he]; simp
          have HE := Lib.hid he; clear he
          go_upto_region 4 with fail
          refine wp_region_later (by kernel_rfl) (by kernel_rfl) ?_
          repeat (go_big_quiet_step (fail))
          refine wpQuiet_nil ?_
          intro w9 hw9
          obtain ⟨u9, rfl⟩ := hw9
          replace hu := hu.trans u9.up
          clear hne
          generalize u9.world = w9 at *
          go_wp2_with fail
          case roundEnd =>
            refine ⟨⟨k + 1, by omega, by omega, by go_num, ?_, hu⟩, by simp [intOf]; omega⟩
            rw [List.take_succ_eq_append_getElem (by rw [lst_length]; exact hlt), List.take_succ_eq_append_getElem (by rw [lst_length]; exact hlt2), HT.out, ← lst_getElem _ _ hlt, ← lst_getElem _ _ hlt2, HE.out]
        · have hb : ((a[k].toNat : Int) != (b[k].toNat : Int)) = true := by
            simp; intro h; apply he; exact UInt8.toNat_inj.1 (by omega)
          go_upto_region 4 with fail
          refine wp_region_later (by kernel_rfl) (by kernel_rfl) ?_
          repeat (go_big_quiet_step (fail))
          refine wpQuiet_nil ?_
          intro w9 hw9
          obtain ⟨u9, rfl⟩ := hw9
          replace hu := hu.trans u9.up
          clear hne
          generalize u9.world = w9 at *
          have hne := later_ne w9
          go_upto_region 5 with fail
          refine wp_region_later (by kernel_rfl) (by kernel_rfl) ?_
          repeat (go_big_quiet_step (fail))
          refine wpQuiet_nil ?_
          intro w8 hw8
          obtain ⟨u8, rfl⟩ := hw8
          replace hu := hu.trans u8.up
          clear hne
          generalize u8.world = w8 at *
          go_wp2_with fail
          go_ret
          refine ⟨?_, hu⟩
          rw [← HK.out, ltS_at hlt hlt2 HT.out he]
          simp [UInt8.lt_iff_toNat_lt]
      · have j3 : decide (k < b.size) = false := by simp; omega
        go_wp2_with fail
        go_ret
        exact ⟨by rw [← HK.out, ltS_end (k := k) (by omega) hk hk2 HT.out]; rfl, hu⟩
    · have j3 : decide (k < a.size) = false := by simp; omega
      go_wp2_with fail
      go_ret
      exact ⟨by rw [← HK.out, ltS_end (k := k) (by omega) hk hk2 HT.out]; rfl, hu⟩
end Go.Proofs.Ytdlcmbnbfghdmaa
