/- Layer 10: Same, find (slices.BinarySearchFunc, strings.Compare), Get. -/
import Derived.Test.YtdlcmbnbfghdmaaLfWalk1
import Derived.Test.YtdlcmbnbfghdmaaLfPairs
import Derived.Lib.Bytealg
namespace Bw
open Go
theorem cmpB_lt : ∀ (a b : List UInt8), (Lib.compareBytes a b < 0) ↔ a < b
  | [], [] => by simp [Lib.compareBytes]
  | [], _ :: _ => by simp [Lib.compareBytes]
  | _ :: _, [] => by simp [Lib.compareBytes]
  | x :: a, y :: b => by
    have ih := cmpB_lt a b
    unfold Lib.compareBytes
    rw [List.cons_lt_cons_iff]
    by_cases h1 : x < y
    · simp [h1]
    · by_cases h2 : y < x
      · simp only [if_neg h1, if_pos h2]
        constructor
        · intro h; omega
        · rintro (h | ⟨rfl, -⟩)
          · exact absurd h h1
          · exact absurd h2 h1
      · have : x = y := UInt8.le_antisymm (UInt8.not_lt.1 h2) (UInt8.not_lt.1 h1)
        subst this
        simp [h1, ih]
theorem cmpB_eq : ∀ (a b : List UInt8), (Lib.compareBytes a b = 0) ↔ a = b
  | [], [] => by simp [Lib.compareBytes]
  | [], _ :: _ => by simp [Lib.compareBytes]
  | _ :: _, [] => by simp [Lib.compareBytes]
  | x :: a, y :: b => by
    have ih := cmpB_eq a b
    unfold Lib.compareBytes
    by_cases h1 : x < y
    · have : ¬ x = y := fun h => by subst h; exact absurd h1 (UInt8.lt_irrefl x)
      simp [h1, this]
    · by_cases h2 : y < x
      · have : ¬ x = y := fun h => by subst h; exact absurd h2 h1
        simp [h1, h2, this]
      · have : x = y := UInt8.le_antisymm (UInt8.not_lt.1 h2) (UInt8.not_lt.1 h1)
        subst this
        simp [h1, ih]
def cmpS (a b : ByteArray) : Int := Lib.compareBytes (lst a) (lst b)
theorem cmpS_lt (a b : ByteArray) : decide (cmpS a b < 0) = ltS a b := by
  rw [ltS, decide_eq_decide]; exact cmpB_lt _ _
theorem cmpS_eq (a b : ByteArray) : (cmpS a b == 0) = decide (a = b) := by
  rw [Bool.eq_iff_iff, beq_iff_eq, decide_eq_true_eq]
  exact (cmpB_eq _ _).trans ⟨fun h => lst_inj h, fun h => by rw [h]⟩
end Bw
namespace Go.Proofs.Ytdlcmbnbfghdmaa
open Go.RowKit Bw
set_option linter.unusedVariables false
theorem bytealg_CompareString (a b : ByteArray) (w : World) : Calls Try.prog 67 #[.string a, .string b] w fun e w' => e = .returned (.int .i64 (cmpS a b)) ∧ w = w' := by
  go_enter Try.func67, Try.ntmps67
  go_wp2_with fail
  rw [run_callFunc_extern Try.func68 (by kernel_rfl) (by kernel_rfl) (by kernel_rfl) (e := Extern.BytealgCompare.compare) (by kernel_rfl), Lib.run_compareString]
  simp only [Result.andThen]
  rw [Oper.upon_value]
  go_wp2_with fail
  go_ret
  exact ⟨rfl, rfl⟩
theorem strings_Compare (a b : ByteArray) (w : World) : Calls Try.prog 65 #[.string a, .string b] w fun e w' => e = .returned (.int .i64 (cmpS a b)) ∧ w = w' := by
  have C1 := Lib.hid (bytealg_CompareString a b)
  generalize cmpS a b = z at *
  go_enter Try.func65, Try.ntmps65
  go_wp2_with ((with_reducible refine (C1.out _).mono ?_); rintro e wn ⟨rfl, rfl⟩)
  go_ret
  exact ⟨rfl, rfl⟩
theorem leaf_find1 (p : PairD) (k : ByteArray) (w : World) : Calls Try.prog 64 #[.agg #[.string p.1, .string p.2], .string k] w fun e w' => e = .returned (.int .i64 (cmpS p.1 k)) ∧ Below w.heap.size w w' := by
  obtain ⟨x, y⟩ := p
  simp only
  have C1 := Lib.hid (strings_Compare x k)
  generalize cmpS x k = z at *
  have hu := (Up.refl w).alloc (.cells #[.string x, .string y] 44)
  go_enter Try.func64, Try.ntmps64
  go_wp2_with ((with_reducible refine (C1.out _).mono ?_); rintro e wn ⟨rfl, rfl⟩)
  go_ret
  exact ⟨rfl, hu⟩
theorem half_fact (i j : Nat) (h : i ≤ j) (hj : j ≤ 1000) : IntKind.i64.wrap (IntKind.u64.wrap ((i : Int) + (j : Int)) / 2 ^ 1) = ((i + j) / 2 : Nat) := by
  have : IntKind.u64.wrap ((i : Int) + (j : Int)) = (i : Int) + j := by rw [IntKind.wrap_u64]; omega
  rw [this, IntKind.wrap_i64]; omega
set_option maxHeartbeats 1000000 in
theorem slices_BinarySearchFunc (l : List PairD) (hl : l.length ≤ 1000) (hr : rowFrom ByteArray.empty l = true) (q : Option Addr) (c : Nat) (k : ByteArray) (w : World) (hA : PairsAt w q l) :
    Calls Try.prog 63 #[.slice q l.length c, .string k, .func (.func 64) #[] #[]] w fun e w' => e = .returned (.tuple #[.int .i64 (findI l k), .bool (findB l k)]) ∧ Below w.heap.size w w' := by
  have HA := Lib.hid hA
  have HR := Lib.hid hr
  clear hA hr
  go_enter Try.func63, Try.ntmps63
  go_wp2_with fail
  go_loopw [9, 10] (fun v9 v10 wr => ∃ i j : Nat, i ≤ j ∧ j ≤ l.length ∧ v9 = .int .i64 i ∧ v10 = .int .i64 j ∧ (∀ t (h : t < l.length), t < i → ltS l[t].1 k = true) ∧ (∀ t (h : t < l.length), j ≤ t → ltS l[t].1 k = false) ∧ Up w wr) (fun v9 v10 _ => (intOf v10 - intOf v9).toNat)
  case atStart => exact ⟨0, l.length, by omega, by omega, rfl, rfl, fun t _ h => absurd h (by omega), fun t h h' => absurd h (by omega), Up.refl w⟩
  case round =>
  obtain ⟨i, j, hij, hj, rfl, rfl, h1, h2, hu⟩ := hrel
  have H1 := Lib.hid h1
  have H2 := Lib.hid h2
  clear h1 h2
  by_cases hlt : i < j
  · have i0 : (i : Int) < (j : Int) := by omega
    have hf := half_fact i j hij (by omega)
    obtain ⟨m, hm⟩ : ∃ m, m = (i + j) / 2 := ⟨_, rfl⟩
    have m1 : m < l.length := by omega
    have m2 : i ≤ m := by omega
    have m3 : m < j := by omega
    clear hf
    have hm' : ((i : Int) + (j : Int)) / 2 = (m : Int) := by omega
    have HM := Lib.hid hm'
    clear hm'
    have j0 : (0 : Int) ≤ (m : Int) := by omega
    have j1 : (m : Int) < (l.length : Int) := by omega
    have j2 : (l.length : Int) ≤ 1000 := by omega
    clear hm
    obtain ⟨g, o, rfl, a1, a2⟩ := (HA.out.up hu) m m1
    have C1 := Lib.hid (leaf_find1 l[m] k)
    have hlt' := cmpS_lt l[m].1 k
    generalize hx : l[m] = x at a1 a2 C1 hlt'
    have HX := Lib.hid hx
    clear hx
    obtain ⟨x1, x2⟩ := x
    simp only at a1 a2 C1 hlt'
    generalize cmpS x1 k = z at *
    cases hb : ltS x1 k
    · have HB := Lib.hid hb
      rw [hb] at hlt'
      clear hb
      go_upto_region 5 with fail
      rw [HM.out]
      go_wp2_with ((with_reducible refine (C1.out _).mono ?_); rintro e wn ⟨rfl, hwn⟩; replace hu := hu.next hwn; clear hwn)
      go_roundw
      case rel =>
        exact ⟨i, m, by omega, by omega, rfl, rfl, H1.out, fun t h h' => by
          cases hq : ltS l[t].1 k
          · rfl
          · rcases Nat.lt_or_ge m t with h3 | h3
            · have h4 := rowFrom_lt HR.out h3 h
              have h5 := ltS_trans h4 hq
              rw [HX.out] at h5
              exact absurd (h5.symm.trans HB.out) (by decide)
            · obtain rfl : t = m := by omega
              rw [HX.out] at hq
              exact absurd (hq.symm.trans HB.out) (by decide), hu⟩
      case measure => simp [intOf]; omega
    · have HB := Lib.hid hb
      rw [hb] at hlt'
      clear hb
      go_upto_region 5 with fail
      rw [HM.out]
      go_wp2_with ((with_reducible refine (C1.out _).mono ?_); rintro e wn ⟨rfl, hwn⟩; replace hu := hu.next hwn; clear hwn)
      go_roundw
      case rel =>
        exact ⟨m + 1, j, by omega, by omega, by go_num, rfl, fun t h h' => by
          rcases Nat.lt_or_ge t m with h3 | h3
          · have h4 := rowFrom_lt HR.out h3 m1
            rw [HX.out] at h4
            exact ltS_trans h4 HB.out
          · obtain rfl : t = m := by omega
            rw [HX.out]
            exact HB.out, H2.out, hu⟩
      case measure => simp [intOf]; omega
  · obtain rfl : i = j := by omega
    have HI := Lib.hid (findI_of hj H1.out (fun h => H2.out i h (Nat.le_refl _)))
    have i0 : ¬ (i : Int) < (i : Int) := by omega
    have j0 : (0 : Int) ≤ (i : Int) := by omega
    by_cases hn : i < l.length
    · have j1 : (i : Int) < (l.length : Int) := by omega
      obtain ⟨g, o, rfl, a1, a2⟩ := (HA.out.up hu) i hn
      have C1 := Lib.hid (leaf_find1 l[i] k)
      have heq := cmpS_eq l[i].1 k
      have HF := Lib.hid (show findB l k = decide (l[i].1 = k) by
        unfold findB
        rw [HI.out, List.getElem?_eq_getElem hn])
      rw [← HF.out] at heq
      generalize l[i] = x at a1 a2 C1 heq
      obtain ⟨x1, x2⟩ := x
      simp only at a1 a2 C1 heq
      generalize cmpS x1 k = z at *
      obtain ⟨B, hB⟩ : ∃ B, B = findB l k := ⟨_, rfl⟩
      rw [← hB] at heq
      have HB := Lib.hid hB
      clear hlt hB
      go_wp2_with ((with_reducible refine (C1.out _).mono ?_); rintro e wn ⟨rfl, hwn⟩; replace hu := hu.next hwn; clear hwn)
      go_ret2
      exact ⟨by rw [HI.out, ← HB.out]; rfl, hu⟩
    · obtain rfl : i = l.length := by omega
      have HF := Lib.hid (show findB l k = false by
        unfold findB
        rw [HI.out, List.getElem?_eq_none (Nat.le_refl _)])
      clear hlt hn
      go_wp2_with fail
      go_ret2
      exact ⟨by rw [HI.out, HF.out]; rfl, hu⟩
theorem toList_ne {s : ByteArray} (h : ¬ s = ByteArray.empty) : ¬ s.toList = [] := fun h2 => h (by
  rw [Lib.toList_data] at h2
  exact lst_inj (h2.trans rfl))
theorem toList_nonempty {s : ByteArray} (h : ¬ s = ByteArray.empty) : s.toList.isEmpty = false := by
  rw [List.isEmpty_eq_false_iff]; exact toList_ne h
theorem leaf_find (x : LfD) (hx : x.right = true) (q : Option Addr) (c : Nat) (k : ByteArray) (w : World) (hA : PairsAt w q x.l) :
    Calls Try.prog 53 #[lfV x q c, .string k] w fun e w' => e = .returned (.tuple #[.int .i64 (findI x.l k), .bool (findB x.l k)]) ∧ Below w.heap.size w w' := by
  have hl := (LfD.sm hx).len
  have hr := (right_row hx).1
  obtain ⟨L, H, N⟩ := x
  simp only [lfV] at *
  have hu := (Up.refl w).alloc (.cells #[.slice q L.length c, .string H, .int .i64 N] 24)
  have C1 := Lib.hid (slices_BinarySearchFunc L hl hr q c k _ (hA.up hu))
  clear hr hA
  generalize findI L k = I at *
  generalize findB L k = B at *
  go_enter Try.func53, Try.ntmps53
  go_wp2_with ((with_reducible refine C1.out.mono ?_); rintro e wn ⟨rfl, hwn⟩; replace hu := hu.next hwn; clear hwn)
  go_ret2
  exact ⟨rfl, hu⟩
set_option maxHeartbeats 1000000 in
theorem leaf_Get (x : LfD) (hx : x.Sm) (q : Option Addr) (c : Nat) (k : ByteArray) (w : World) (hA : PairsAt w q x.l) :
    Calls Try.prog 23 #[lfV x q c, .string k] w fun e w' => e = .returned (.tuple #[.string (getS x k), .int .i64 (getE x k)]) ∧ Below w.heap.size w w' := by
  have hu := (Up.refl w).alloc (.cells #[.slice q x.l.length c, .string x.high, .int .i64 x.next] 24)
  have rp := RowAt.made w 24 [.slice q x.l.length c, .string x.high, .int .i64 x.next]
  have C1 := Lib.hid (fun w hA => leaf_Right x hx q c w hA)
  have HA := Lib.hid (hA.up hu)
  have HP := Lib.hid hA
  clear hA
  cases hR : x.right
  · have HS := Lib.hid (show getS x k = ⟨#[]⟩ ∧ getE x k = 1 by simp [getS, getE, hR]; rfl)
    rw [hR] at C1
    clear hR
    obtain ⟨L, H, N⟩ := x
    simp only [lfV] at *
    go_enter Try.func23, Try.ntmps23
    go_upto_region 1 with fail
    generalize w.heap.size = g at *
    change RowAt (w.alloc (.cells #[.slice q L.length c, .string H, .int .i64 N] 24)) _ _ at rp
    generalize w.alloc (.cells #[.slice q L.length c, .string H, .int .i64 N] 24) = w0 at *
    obtain ⟨t0, t1, t2, -⟩ := rp.c3
    go_wp2_with ((with_reducible refine (C1.out _ HA.out).mono ?_); rintro e wn ⟨rfl, hwn⟩; replace hu := hu.next hwn; clear hwn)
    go_ret2
    exact ⟨by rw [HS.out.1, HS.out.2]; rfl, hu⟩
  · have C2 := Lib.hid (fun w hA => leaf_find x hR q c k w hA)
    rw [hR] at C1
    cases hB : findB x.l k
    · have HS := Lib.hid (show getS x k = ⟨#[]⟩ ∧ getE x k = 7 by simp [getS, getE, hR, hB]; rfl)
      rw [hB] at C2
      clear hR hB
      obtain ⟨L, H, N⟩ := x
      simp only [lfV] at *
      generalize findI L k = I at *
      go_enter Try.func23, Try.ntmps23
      go_upto_region 1 with fail
      generalize w.heap.size = g at *
      change RowAt (w.alloc (.cells #[.slice q L.length c, .string H, .int .i64 N] 24)) _ _ at rp
      generalize w.alloc (.cells #[.slice q L.length c, .string H, .int .i64 N] 24) = w0 at *
      obtain ⟨t0, t1, t2, -⟩ := rp.c3
      have HU := Up.refl w0
      go_wp2_with (first
        | ((with_reducible refine (C1.out _ HA.out).mono ?_); rintro e wn ⟨rfl, hwn⟩; replace rp := rp.up hwn; obtain ⟨t0, t1, t2, -⟩ := rp.c3; replace HU := HU.next hwn; clear hwn)
        | ((with_reducible refine (C2.out _ (HA.out.up HU)).mono ?_); rintro e wn ⟨rfl, hwn⟩; replace HU := HU.next hwn; clear hwn))
      go_ret2
      exact ⟨by rw [HS.out.1, HS.out.2]; rfl, hu.trans HU⟩
    · obtain ⟨hi, hk⟩ := findB_iff.1 hB
      have HS := Lib.hid (show getS x k = x.l[findI x.l k].2 ∧ getE x k = 0 by simp [getS, getE, hR, hB, valAt, List.getElem?_eq_getElem hi])
      rw [hB] at C2
      clear hR hB
      obtain ⟨L, H, N⟩ := x
      simp only [lfV] at *
      generalize hI : findI L k = I at *
      have i0 : (0 : Int) ≤ (I : Int) := by omega
      have hi' : I < L.length := hi
      have i1 : (I : Int) < (L.length : Int) := by omega
      clear hI
      go_enter Try.func23, Try.ntmps23
      go_upto_region 1 with fail
      generalize w.heap.size = g at *
      change RowAt (w.alloc (.cells #[.slice q L.length c, .string H, .int .i64 N] 24)) _ _ at rp
      generalize w.alloc (.cells #[.slice q L.length c, .string H, .int .i64 N] 24) = w0 at *
      obtain ⟨t0, t1, t2, -⟩ := rp.c3
      have HU := Up.refl w0
      go_wp2_with (first
        | ((with_reducible refine (C1.out _ HA.out).mono ?_); rintro e wn ⟨rfl, hwn⟩; replace rp := rp.up hwn; obtain ⟨t0, t1, t2, -⟩ := rp.c3; replace HU := HU.next hwn; clear hwn)
        | ((with_reducible refine (C2.out _ (HA.out.up HU)).mono ?_); rintro e wn ⟨rfl, hwn⟩; replace rp := rp.up hwn; obtain ⟨t0, t1, t2, -⟩ := rp.c3; replace HU := HU.next hwn; clear hwn; obtain ⟨g1, o1, rfl, a1, a2⟩ := (HA.out.up HU) I hi'))
      go_ret2
      exact ⟨by rw [HS.out.1, HS.out.2]; rfl, hu.trans HU⟩
set_option maxHeartbeats 1000000 in
theorem leaf_Same (a b : LfD) (qa qb : Option Addr) (ca cb : Nat) (w : World) (hA : PairsAt w qa a.l) (hB : PairsAt w qb b.l) (la : a.l.length ≤ 1000) (lb : b.l.length ≤ 1000) :
    Calls Try.prog 20 #[lfV a qa ca, lfV b qb cb] w fun e w' => e = .returned (.bool (a.same b)) ∧ Below w.heap.size w w' := by
  have HK := Lib.hid (show a.same b = ((a.high.toList == b.high.toList) && a.next == b.next && decide (a.l = b.l)) by rw [str_eqB]; rfl)
  generalize a.same b = K at *
  obtain ⟨L, H, N⟩ := a
  obtain ⟨L2, H2, N2⟩ := b
  simp only [lfV] at *
  have hu := ((Up.refl w).alloc (.cells #[.slice qa L.length ca, .string H, .int .i64 N] 24)).alloc (.cells #[.slice qb L2.length cb, .string H2, .int .i64 N2] 24)
  have C1 := Lib.hid (slices_Equal L L2 qa qb ca cb _ (hA.up hu) (hB.up hu) (by omega) (by omega))
  generalize decide (L = L2) = d at *
  clear hA hB
  have key : ((H.toList == H2.toList) = false) ∨ ((H.toList == H2.toList) = true ∧ (N == N2) = false) ∨ ((H.toList == H2.toList) = true ∧ (N == N2) = true) := by
    cases H.toList == H2.toList <;> cases N == N2 <;> simp
  rcases key with d1 | ⟨d1, d2⟩ | ⟨d1, d2⟩
  all_goals
    have HK2 := HK.out
    rw [d1] at HK2
    try rw [d2] at HK2
    simp only [Bool.true_and, Bool.false_and] at HK2
    replace HK := Lib.hid HK2
    clear HK2
    go_enter Try.func20, Try.ntmps20
    go_wp2_with ((with_reducible refine C1.out.mono ?_); rintro e wn ⟨rfl, hwn⟩; replace hu := hu.next hwn; clear hwn)
    go_ret
    exact ⟨by rw [HK.out]; rfl, hu⟩
end Go.Proofs.Ytdlcmbnbfghdmaa
