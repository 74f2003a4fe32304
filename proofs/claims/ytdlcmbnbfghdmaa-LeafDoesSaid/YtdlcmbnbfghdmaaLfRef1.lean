/- Layer 10, the document's answer: Size, weight, Same, find, Get, Right. -/
import Derived.Test.YtdlcmbnbfghdmaaLfWalk3
import Derived.Test.YtdlcmbnbfghdmaaRec5Walk1
namespace Bw
set_option linter.unusedVariables false
def LfD.OkAt (x : LfD) (k : Nat) (h : k < x.l.length) : Prop :=
  keyB x.l[k].1 = true ∧ valB x.l[k].2 = true ∧ (0 < k → ltS (x.l[k - 1]'(by omega)).1 x.l[k].1 = true) ∧ (x.high = ByteArray.empty ∨ ltS x.l[k].1 x.high = true)
theorem rowFrom_of_ok {x : LfD} (h : ∀ k (hk : k < x.l.length), x.OkAt k hk) : ∀ m, (hm : m ≤ x.l.length) → rowFrom ByteArray.empty (x.l.take m) = true ∧ ∀ h0 : 0 < m, lastK ByteArray.empty (x.l.take m) = (x.l[m - 1]'(by omega)).1
  | 0, _ => ⟨rfl, fun h0 => absurd h0 (Nat.lt_irrefl _)⟩
  | m + 1, hm => by
    obtain ⟨h1, h2⟩ := rowFrom_of_ok h m (by omega)
    obtain ⟨o1, o2, o3, -⟩ := h m (by omega)
    rw [List.take_succ_eq_append_getElem (by omega)]
    refine ⟨?_, fun _ => ?_⟩
    · rw [rowFrom_append, h1]
      by_cases h0 : 0 < m
      · rw [h2 h0]
        simp [rowFrom, o1, o2, o3 h0]
      · obtain rfl : m = 0 := by omega
        simp [rowFrom, lastK, o1, o2, keyB_ltS o1]
    · rw [lastK_append]; rfl
theorem right_ok {x : LfD} (h : x.right = true) : ∀ k (hk : k < x.l.length), x.OkAt k hk := by
  obtain ⟨⟨h1, h2⟩, -⟩ := right_doc.1 h
  intro k hk
  obtain ⟨k1, k2⟩ := rowFrom_keys h1 _ (List.getElem_mem hk)
  exact ⟨k1, k2, fun h0 => rowFrom_lt h1 (show k - 1 < k by omega) hk, h2 _ (List.getElem_mem hk)⟩
theorem right_bad {x : LfD} {k : Nat} (hk : k < x.l.length) (h : ¬ x.OkAt k hk) : x.right = false := by
  cases hr : x.right
  · rfl
  · exact absurd (right_ok hr k hk) h
theorem right_end {x : LfD} (h : ∀ k (hk : k < x.l.length), x.OkAt k hk) : x.right = (decide (x.high.size ≤ 16) && decide (0 ≤ x.next) && decide (x.next ≤ 1024) && decide (wtL x.l ≤ 231)) := by
  have h1 := (rowFrom_of_ok h x.l.length (Nat.le_refl _)).1
  rw [List.take_length] at h1
  rw [Bool.eq_iff_iff, right_doc]
  simp only [Bool.and_eq_true, decide_eq_true_eq]
  constructor
  · rintro ⟨-, h2, h3, h4⟩
    exact ⟨⟨⟨h2, h3.1⟩, h3.2⟩, h4⟩
  · rintro ⟨⟨⟨h2, h3⟩, h3'⟩, h4⟩
    refine ⟨⟨h1, fun p hp => ?_⟩, h2, ⟨h3, h3'⟩, h4⟩
    obtain ⟨k, hk, rfl⟩ := List.mem_iff_getElem.1 hp
    exact (h k hk).2.2.2
end Bw
namespace Go.Proofs.Ytdlcmbnbfghdmaa
open Go.RowKit Bw
set_option linter.unusedVariables false
set_option maxHeartbeats 1000000 in
theorem ref10_Size (x : LfD) (hx : x.Sm) (q : Option Addr) (c : Nat) (w : World) (hA : PairsAt w q x.l) : Calls Try.prog 17 #[lfV x q c] w fun e w' => e = .returned (.int .i64 x.size) ∧ Below w.heap.size w w' := by
  obtain ⟨L, H, N⟩ := x
  obtain ⟨s1, s2, s3⟩ := hx
  simp only [LfD.size, lfV] at *
  have HW := Lib.hid (wtL_take s3 s1)
  have HS := Lib.hid s3
  have h0 : (0 : Int) ≤ (H.size : Int) := by omega
  have h1 : (H.size : Int) ≤ 1000 := by omega
  have b1 : (L.length : Int) ≤ 1000 := by omega
  have hD := (Hold.start w).madeRow (.slice q L.length c) [.string H, .int .i64 N] 29
  rw [List.nil_append] at hD
  have HA := Lib.hid hA
  clear hA s3 s1 s2
  go_enter Try.func17, Try.ntmps17
  go_upto_region 1 with fail
  generalize w.alloc _ = w0 at *
  obtain ⟨t0, t1, t2, f0, f1, f2⟩ := RowAt.c3 (hD.get 0 rfl)
  go_wp2_with fail
  go_loopw [3, 4] (fun v3 v wr => ∃ k : Nat, k ≤ L.length ∧ v3 = .int .i64 (5 + (H.size : Int) + wtL (L.take k)) ∧ v = .int .i64 k ∧ Hold w wr [rowR w.heap.size (.slice q L.length c) [.string H, .int .i64 N]]) (fun _ v _ => L.length - (intOf v).toNat)
  case atStart => exact ⟨0, by omega, by simp [wtL], rfl, hD⟩
  case round =>
  clear hD t0 t1 t2 f0 f1 f2
  obtain ⟨k, hk, rfl, rfl, hD⟩ := hrel
  obtain ⟨t0, t1, t2, f0, f1, f2⟩ := RowAt.c3 (hD.get 0 rfl)
  clear f0 f1 f2
  have hz := HW.out k
  have i0 : (0 : Int) ≤ (k : Int) := by omega
  by_cases hlt : k < L.length
  · have i1 : (k : Int) < (L.length : Int) := by omega
    obtain ⟨g, o, rfl, a1, a2⟩ := (HA.out.up hD.up) k hlt
    have hs := HS.out _ (List.getElem_mem hlt)
    have HE := Lib.hid (wtL_take_succ hlt)
    generalize L[k] = p at *
    obtain ⟨pk, pv⟩ := p
    simp only at hs a1 a2 HE
    generalize wtL (L.take k) = z at *
    obtain ⟨y, hy⟩ : ∃ y, y = 5 + (H.size : Int) + z := ⟨_, rfl⟩
    have HY := Lib.hid (show 5 + (H.size : Int) + (z + (2 + (pk.size : Int) + (pv.size : Int))) = y + 2 + pk.size + pv.size by omega)
    rw [← hy]
    have y0 : 0 ≤ y := by omega
    have y1 : y ≤ 3000000 := by omega
    have k0 : (0 : Int) ≤ (pk.size : Int) := by omega
    have k1 : (pk.size : Int) ≤ 1000 := by omega
    have v0 : (0 : Int) ≤ (pv.size : Int) := by omega
    have v1 : (pv.size : Int) ≤ 1000 := by omega
    clear hy hz hs h0 h1
    go_upto_region 5 with fail
    have l0 := Later.cell_of t0; have l1 := Later.cell_of a1; have l2 := Later.cell_of a2
    have hne := later_ne wr
    clear t0 t1 t2 a1 a2
    refine wp_region_later (by kernel_rfl) (by kernel_rfl) ?_
    repeat (go_big_quiet_step (fail))
    refine wpQuiet_nil ?_
    intro w9 hw9
    obtain ⟨u9, rfl⟩ := hw9
    replace hD := hD.next u9.up
    clear l0 l1 l2 hne
    generalize u9.world = w9 at *
    go_wp2_with fail
    exact ⟨⟨k + 1, by omega, by rw [HE.out, HY.out], by go_num, hD⟩, by simp [intOf]; omega⟩
  · have i1 : ¬ (k : Int) < (L.length : Int) := by omega
    obtain rfl : k = L.length := by omega
    rw [List.take_length] at hz ⊢
    go_wp2_with fail
    go_ret
    exact ⟨rfl, hD.up⟩
theorem ref10_weight (l : List PairD) (hl : l.length ≤ 1000) (hs : ∀ p ∈ l, p.1.size ≤ 1000 ∧ p.2.size ≤ 1000) (q : Option Addr) (c : Nat) (w : World) (hA : PairsAt w q l) : Calls Try.prog 45 #[.slice q l.length c] w fun e w' => e = .returned (.int .i64 (wtL l)) ∧ Below w.heap.size w w' := by
  have C1 := Lib.hid (ref10_Size ⟨l, ⟨#[]⟩, 0⟩ ⟨hl, (show (0 : Nat) ≤ 1000 from by omega), hs⟩ q c w hA)
  have hb := wtL_take hs hl l.length
  rw [List.take_length] at hb
  simp only [lfV, LfD.size] at C1
  obtain ⟨y, hy⟩ : ∃ y, y = 5 + (((⟨#[]⟩ : ByteArray).size : Nat) : Int) + wtL l := ⟨_, rfl⟩
  rw [← hy] at C1
  have hy2 : y = 5 + wtL l := by rw [hy, show (⟨#[]⟩ : ByteArray).size = 0 from rfl]; omega
  have HY := Lib.hid (show y - 5 = wtL l by omega)
  have b0 : 0 ≤ y := by omega
  have b1 : y ≤ 3000000 := by omega
  rw [← HY.out]
  clear hy hy2 hb hs
  go_enter Try.func45, Try.ntmps45
  go_wp2_with ((with_reducible refine C1.out.mono ?_); rintro e wn ⟨rfl, hwn⟩)
  go_ret
  exact ⟨rfl, hwn⟩
set_option maxHeartbeats 1000000 in
theorem ref10_Same (a b : LfD) (qa qb : Option Addr) (ca cb : Nat) (w : World) (hA : PairsAt w qa a.l) (hB : PairsAt w qb b.l) (la : a.l.length ≤ 1000) (lb : b.l.length ≤ 1000) :
    Calls Try.prog 21 #[lfV a qa ca, lfV b qb cb] w fun e w' => e = .returned (.bool (a.same b)) ∧ Below w.heap.size w w' := by
  have HK := Lib.hid (show a.same b = ((a.high.toList == b.high.toList) && a.next == b.next && decide (a.l = b.l)) by rw [str_eqB]; rfl)
  generalize a.same b = K at *
  obtain ⟨L, H, N⟩ := a
  obtain ⟨L2, H2, N2⟩ := b
  simp only [lfV] at *
  have hu := ((Up.refl w).alloc (.cells #[.slice qa L.length ca, .string H, .int .i64 N] 29)).alloc (.cells #[.slice qb L2.length cb, .string H2, .int .i64 N2] 29)
  have C1 := Lib.hid (ref5_Pairs L L2 qa qb ca cb _ (hA.up hu) (hB.up hu) (by omega) (by omega))
  generalize decide (L = L2) = d at *
  clear hA hB
  have key : ((H.toList == H2.toList) = false) ∨ ((H.toList == H2.toList) = true ∧ (N == N2) = false) ∨ ((H.toList == H2.toList) = true ∧ (N == N2) = true) := by
    cases H.toList == H2.toList <;> cases N == N2 <;> simp
  rcases key with d1 | ⟨d1, d2⟩ | ⟨d1, d2⟩
  all_goals
    have HK2 := HK.out
    rw [d1] at HK2
    try rw [d2] at HK2
    simp only [Bool.true_and, Bool.false_and] at HK2
    replace HK := Lib.hid HK2
    clear HK2
    go_enter Try.func21, Try.ntmps21
    go_wp2_with ((with_reducible refine C1.out.mono ?_); rintro e wn ⟨rfl, hwn⟩; replace hu := hu.next hwn; clear hwn)
    go_ret
    exact ⟨by rw [HK.out]; rfl, hu⟩
end Go.Proofs.Ytdlcmbnbfghdmaa
