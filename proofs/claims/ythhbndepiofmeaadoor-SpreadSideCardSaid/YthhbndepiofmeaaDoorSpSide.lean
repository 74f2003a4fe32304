/- SpreadSide. -/
import Derived.Test.YthhbndepiofmeaaDoorSpSum
namespace Bw
open Go Ieee Go.RowKit
set_option linter.unusedVariables false
theorem and_low (x : Int) (m : Nat) (hm : m < 4611686018427387904) : 0 ≤ bits .and .i64 x (m : Int) ∧ bits .and .i64 x (m : Int) ≤ m := by
  have h2 : (BitVec.ofInt 64 (m : Int)).toNat = m := by
    rw [BitVec.ofInt_natCast, BitVec.toNat_ofNat]; exact Nat.mod_eq_of_lt (by omega)
  have h3 : ((BitVec.ofInt 64 x &&& BitVec.ofInt 64 (m : Int)).toNat) ≤ m := by rw [BitVec.toNat_and, h2]; exact Nat.and_le_right
  have h4 : bits .and .i64 x (m : Int) = IntKind.i64.wrap ((BitVec.ofInt 64 x &&& BitVec.ofInt 64 (m : Int)).toNat : Int) := rfl
  rw [h4]
  generalize (BitVec.ofInt 64 x &&& BitVec.ofInt 64 (m : Int)).toNat = y at *
  have h5 : IntKind.i64.wrap (y : Int) = y := by
    rw [IntKind.wrap_i64]
    omega
  rw [h5]
  omega
def fullL (t : Int) (k : Nat) : List LeafZ := (List.range k).map fun i : Nat => (t + i, 231)
theorem fullL_length (t : Int) (k : Nat) : (fullL t k).length = k := by simp [fullL]
theorem fullL_succ (t : Int) (k : Nat) : fullL t (k + 1) = fullL t k ++ [(t + k, 231)] := by simp [fullL, List.range_succ]
def aheadK (t : Int) (k : Nat) : Int := if k = 0 then -1 else t + k - 1
theorem one_side (t : Int) (k : Nat) (u : Int) (ht : 0 ≤ t ∧ t ≤ 511) (hk : k ≤ 60) (hu : 0 ≤ u ∧ u ≤ 231) : oneP (aheadK t k) (t + k) u 231 = 0 ∧ oneW (aheadK t k) (t + k) u 231 = 231 - u := by
  have hr : rightOne (aheadK t k) (t + k) u 231 = true := by
    have ha : -1 ≤ aheadK t k ∧ aheadK t k ≤ 1023 := by unfold aheadK; split <;> omega
    simp only [rightOne, inB, Bool.and_eq_true, decide_eq_true_eq]
    omega
  refine ⟨?_, ?_⟩
  · rw [oneP, if_pos hr]
    unfold farP
    by_cases h0 : k = 0
    · rw [if_pos (by simp [aheadK, h0])]
    · have ha : aheadK t k = t + k - 1 := if_neg h0
      rw [ha, if_neg (by omega)]
      omega
  · rw [oneW, if_pos hr]; omega
theorem acc_full (t : Int) (ht : 0 ≤ t ∧ t ≤ 511) : ∀ k : Nat, k ≤ 60 → accL (fullL t k) = (0, 0, aheadK t k, 0)
  | 0, _ => rfl
  | k + 1, hk => by
    have h1 := one_side t k 231 ht (by omega) (by omega)
    rw [fullL_succ, accL_snoc, acc_full t ht k (by omega), stepA]
    simp only [h1.1, h1.2]
    simp [aheadK]
    omega
theorem full_ok (t : Int) (ht : 0 ≤ t ∧ t ≤ 511) (k : Nat) (hk : k ≤ 60) : ∀ x ∈ fullL t k, leafOk 231 x = true := by
  intro x hx
  obtain ⟨i, hi, rfl⟩ := List.mem_map.1 hx
  have := List.mem_range.1 hi
  simp [leafOk, inB]; omega
theorem full_set (t : Int) (k : Nat) (u : Int) : (cellsL (fullL t (k + 1))).set (k * 2 + 1) (.int .i64 u) = cellsL (fullL t k ++ [(t + k, u)]) := by
  rw [fullL_succ, cellsL_append, cellsL_append, List.set_append_right _ _ (by rw [cellsL_length, fullL_length]; omega), cellsL_length, fullL_length, show k * 2 + 1 - k * 2 = 1 by omega]
  rfl
/-- Full leaves, but the last one: nothing lacks. -/
theorem of_full (t : Int) (ht : 0 ≤ t ∧ t ≤ 511) (k : Nat) (hk : k < 60) (u : Int) (hu : 0 ≤ u ∧ u ≤ 231) (h1 : k = 0 → u = 231) : ofZ (fullL t k ++ [(t + k, u)]) 231 = 0 ∧ ofS (fullL t k ++ [(t + k, u)]) 231 = (0, 0) := by
  have hx : ∀ x ∈ fullL t k ++ [(t + k, u)], leafOk 231 x = true := by
    intro x hx
    rcases List.mem_append.1 hx with hx | hx
    · exact full_ok t ht k (by omega) x hx
    · obtain rfl := List.mem_singleton.1 hx; simp [leafOk, inB]; omega
  obtain ⟨h2, h3⟩ := of_acc _ hx (by simp [fullL_length]; omega)
  obtain ⟨h4, h5⟩ := one_side t k u ht (by omega) hu
  refine ⟨h2, ?_⟩
  rw [h3, accL_snoc, acc_full t ht k (by omega), stepA]
  simp only [h4, h5, List.length_append, fullL_length, List.length_singleton]
  by_cases h0 : k = 0
  · rw [if_neg (by omega)]; have := h1 h0; simp; omega
  · rw [if_pos (by omega)]; simp
theorem of_full0 (t : Int) : ofZ (fullL t 0) 231 = 0 ∧ ofS (fullL t 0) 231 = (0, 0) := by
  have e : fullL t 0 = [] := rfl
  rw [e]
  exact ⟨by decide +kernel, by decide +kernel⟩
end Bw
namespace Go.Proofs.YthhbndepiofmeaaDoor
open Go.RowKit Bw
set_option linter.unusedVariables false
set_option maxHeartbeats 4000000 in
set_option maxRecDepth 100000 in
theorem side_law (a0 : Option Addr) (z0 : List Int) (c0' : Nat) (n1 : Int) (w : World) (h0 : z0.length ≤ c0' ∧ NumsIn .i64 w a0 z0) (h1 : (Lit.int .i64 n1).wf = true) (ht : Tab w) :
    Calls Tryd.prog 7 #[.slice a0 z0.length c0', .int .i64 n1] w fun e w' => e = .returned (.bool true) ∧ Below w.heap.size w w' := by
  obtain ⟨_, m0, x0, n0⟩ := h0
  have N0 := Lib.hid (show NumsIn .i64 w a0 z0 from ⟨m0, x0, n0⟩)
  have HT := Lib.hid ht
  have CF := Lib.hid law18_fixed
  have ht1 := and_low n1 511 (by omega)
  clear ht x0 n0
  have hD := Hold.start w
  go_enter Tryd.func7, Tryd.ntmps7
  go_upto_region 2 with fail
  have hm : Hold w ((w.alloc (.cells #[] 56)).alloc (.cells #[] 56)) [rLv 56 (.slice (some ⟨w.heap.size, 0, none⟩) 0 0) [], rLv 56 (.slice (some ⟨w.heap.size + 1, 0, none⟩) 0 0) []] := by
    have h := (hD.madeZ 56 2).madeZ 56 2
    rw [World.size_alloc] at h
    exact h
  clear hD
  have hD := hm
  clear hm
  generalize w.heap.size + 1 = g2 at *
  generalize w.heap.size = g at *
  generalize (w.alloc _).alloc _ = w0 at *
  have e511 : ((511 : Nat) : Int) = 511 := rfl
  rw [e511] at ht1
  clear e511
  go_upto_region 3 with fail
  generalize bits BinOp.and IntKind.i64 n1 511 = t at *
  go_wp2_with fail
  go_loopw [5, 6, 8] (fun v5 v6 v8 wr => ∃ (l : List LeafZ) (q : Option Addr) (cap : Nat) (q2 : Option Addr) (cap2 : Nat) (r lk : Int), l.length ≤ 60 ∧ l.length ≤ z0.length ∧ (∀ x ∈ l, leafOk 231 x = true) ∧ accL l = (0, r, aheadK t l.length, lk) ∧
    v5 = .slice q l.length cap ∧ v6 = .slice q2 l.length cap2 ∧ v8 = .int .i64 l.length ∧ Hold w wr [rLv 56 (.slice q l.length cap) l, rLv 56 (.slice q2 l.length cap2) (fullL t l.length)]) (fun _ _ v _ => z0.length - (intOf v).toNat)
  case atStart => exact ⟨[], _, _, _, _, 0, 0, by simp, by simp, by simp, rfl, rfl, rfl, rfl, hD⟩
  case round =>
  clear hD
  obtain ⟨l, q, cap, q2, cap2, r, lk, l60, l0, hok, hac, rfl, rfl, rfl, hD⟩ := hrel
  obtain ⟨inf, hi0', hz0, hz1, hz2⟩ := infoLeaf
  by_cases hlt : l.length < z0.length ∧ l.length < 60
  · obtain ⟨j0, j1⟩ := hlt
    have i0 : (l.length : Int) < (z0.length : Int) := by omega
    have i1 : (l.length : Int) < 60 := by omega
    have i3 : (0 : Int) ≤ (l.length : Int) := by omega
    obtain ⟨g0, o0, rfl, e0⟩ := (N0.out.up hD.up).2.2 l.length j0
    have ha2 := and_low z0[l.length] 255 (by omega)
    rw [show ((255 : Nat) : Int) = 255 from rfl] at ha2
    have hb := ha2.1
    generalize z0[l.length] = P at *
    have r7 := RowAt.made wr 56 [.int .i64 (t + l.length), .int .i64 (bits BinOp.and IntKind.i64 P 255 % 232)]
    go_upto_region 7 with (at_builtin; refine wpList_appendZ rfl _ _ 22 rfl 56 inf (.agg #[.int .i64 0, .int .i64 0]) 2 16 (by kernel_rfl) hi0' hz0 hz1 hz2 rfl (by decide) (hD.next ((Below.refl _ _).alloc (Nat.le_refl _) (.cells #[.int .i64 (t + l.length), .int .i64 (bits BinOp.and IntKind.i64 P 255 % 232)] 56))) 0 _ (cellsL l) l.length rfl rfl ⟨wr.heap.size, 0, none⟩ 1 [.int .i64 (t + l.length), .int .i64 (bits BinOp.and IntKind.i64 P 255 % 232)] rfl rfl r7.addsAt (fun x hx => by simp at hx; rcases hx with rfl | rfl <;> rfl) (by unfold maxLen; omega) (by omega) ?_; intro b5 c5 w6 hw)
    have b1 : 0 ≤ bits BinOp.and IntKind.i64 P 255 % 232 ∧ bits BinOp.and IntKind.i64 P 255 % 232 ≤ 231 := by omega
    clear hb ha2 r7 hD
    generalize bits BinOp.and IntKind.i64 P 255 % 232 = u at *
    obtain ⟨k1, k2⟩ := one_side t l.length u ht1 (by omega) b1
    have hac2 : accL (l ++ [(t + l.length, u)]) = (0, r + (231 - u), aheadK t (l.length + 1), 231 - u) := by
      rw [accL_snoc, hac, stepA]
      simp only [k1, k2]
      simp [aheadK]
      omega
    have hok2 : leafOk 231 (t + l.length, u) = true := by simp [leafOk, inB]; omega
    have hm : Hold w w6 [rLv 56 (.slice (some ⟨b5, 0, none⟩) (l.length + 1) c5) (l ++ [(t + l.length, u)]), rLv 56 (.slice q2 l.length cap2) (fullL t l.length)] := by
      have e3 : rLv 56 (.slice (some ⟨b5, 0, none⟩) (l.length + 1) c5) (l ++ [(t + l.length, u)]) = ownZ 56 2 (.slice (some ⟨b5, 0, none⟩) (l.length + 1) c5) (l.length + 1) (cellsL l ++ [.int .i64 (t + l.length), .int .i64 u]) := by
        unfold rLv; rw [cellsL_append, List.length_append]; rfl
      rw [e3]; exact hw
    clear hw
    have r8 := RowAt.made w6 56 [.int .i64 (t + l.length), .int .i64 231]
    have hi1 : ([rLv 56 (.slice (some ⟨b5, 0, none⟩) (l.length + 1) c5) (l ++ [(t + l.length, u)]), rLv 56 (.slice q2 l.length cap2) (fullL t l.length)] : List Res)[1]? = some (ownZ 56 2 (.slice q2 l.length cap2) l.length (cellsL (fullL t l.length))) := by
      unfold rLv; rw [fullL_length]; rfl
    go_wp2_with (at_builtin; refine wpList_appendZ rfl _ _ 22 rfl 56 inf (.agg #[.int .i64 0, .int .i64 0]) 2 16 (by kernel_rfl) hi0' hz0 hz1 hz2 rfl (by decide) (hm.next ((Below.refl _ _).alloc (Nat.le_refl _) (.cells #[.int .i64 (t + l.length), .int .i64 231] 56))) 1 _ (cellsL (fullL t l.length)) l.length hi1 rfl ⟨w6.heap.size, 0, none⟩ 1 [.int .i64 (t + l.length), .int .i64 231] rfl rfl r8.addsAt (fun x hx => by simp at hx; rcases hx with rfl | rfl <;> rfl) (by unfold maxLen; omega) (by omega) ?_; intro b6 c6 w7 hw)
    refine ⟨⟨l ++ [(t + l.length, u)], some ⟨b5, 0, none⟩, c5, some ⟨b6, 0, none⟩, c6, r + (231 - u), 231 - u, by simp; omega, by simp; omega, ?_, by rw [hac2, List.length_append]; rfl, by simp, by simp, by simp, ?_⟩, by simp [intOf]; omega⟩
    · intro x hx
      rcases List.mem_append.1 hx with hx | hx
      · exact hok x hx
      · obtain rfl := List.mem_singleton.1 hx; exact hok2
    · have e4 : rLv 56 (.slice (some ⟨b6, 0, none⟩) (l.length + 1) c6) (fullL t (l.length + 1)) = ownZ 56 2 (.slice (some ⟨b6, 0, none⟩) (l.length + 1) c6) (l.length + 1) (cellsL (fullL t l.length) ++ [.int .i64 (t + l.length), .int .i64 231]) := by
        unfold rLv; rw [fullL_length, fullL_succ, cellsL_append]; rfl
      rw [show (l ++ [(t + (l.length : Int), u)]).length = l.length + 1 by simp, e4]
      exact hw
  · obtain ⟨hz, ho⟩ := of_acc l hok (by omega)
    rw [hac] at ho
    have hLv : LeavesAt wr q l := by
      obtain ⟨q', cap', e, hl⟩ := leaves_at (hD.get 0 rfl)
      obtain ⟨rfl, -, rfl⟩ : q = q' ∧ l.length = l.length ∧ cap = cap' := by injection e with e1 e2 e3; exact ⟨e1, e2, e3⟩
      exact hl
    have C1 := Lib.hid (sp_Of_in l q cap 231 wr hLv (by omega) rfl)
    rw [hz] at C1
    have HO := Lib.hid ho
    clear hz ho
    have f0 := ford_eq small0
    rw [c0] at f0
    have hc : ¬ (l.length : Int) < (z0.length : Int) ∨ ((l.length : Int) < (z0.length : Int) ∧ ¬ (l.length : Int) < 60) := by omega
    clear hlt
    by_cases h2 : l.length ≤ 1
    · have i4 : ¬ (1 : Int) < (l.length : Int) := by omega
      have hF : ofZ (fullL t l.length) 231 = 0 ∧ ofS (fullL t l.length) 231 = (0, 0) := by
        rcases (by omega : l.length = 0 ∨ l.length = 0 + 1) with e | e
        · rw [e]; exact of_full0 t
        · rw [e, fullL_succ]; exact of_full t ht1 0 (by omega) 231 (by omega) (fun _ => rfl)
      have hL2 : LeavesAt wr q2 (fullL t l.length) := by
        obtain ⟨q', cap', e, hl⟩ := leaves_at (hD.get 1 rfl)
        obtain ⟨rfl, -, rfl⟩ : q2 = q' ∧ l.length = (fullL t l.length).length ∧ cap2 = cap' := by injection e with e1 e2 e3; exact ⟨e1, e2, e3⟩
        exact hl
      have c2 := fun wn (h : LeavesAt wn q2 (fullL t l.length)) => sp_Of_in (fullL t l.length) q2 cap2 231 wn h (by rw [fullL_length]; omega) rfl
      rw [hF.1, hF.2, fullL_length] at c2
      have C2 := Lib.hid c2
      have HU := Lib.hid hD.up
      have HL2 := Lib.hid hL2
      clear hF hL2 c2 hD
      have g1 : ¬ (l.length : Int) < (z0.length : Int) := by omega
      clear hc
      go_wp2_with (first
        | ((with_reducible refine C1.out.mono ?_); rintro e wn ⟨s', r', rfl, hs, hB⟩; rw [HO.out] at hs; injection hs with hs1 hs2; subst hs1; rw [c0]; have hu := HU.out.next hB; have hL2 := HL2.out.up hB; clear hB)
        | ((with_reducible refine (C2.out _ hL2).mono ?_); rintro e wm ⟨s2', r2', rfl, hs, hB⟩; injection hs with hs3 hs4; subst hs3 hs4; rw [c0]; replace hu := hu.next hB; clear hB)
        | ((with_reducible refine (CF.out _ (HT.out.up hu)).mono ?_); rintro e wm ⟨rfl, hB⟩; replace hu := hu.next hB; clear hB))
      go_ret
      exact ⟨rfl, hu⟩
    · have i4 : (1 : Int) < (l.length : Int) := by omega
      rcases hc with g1 | ⟨g1, g2⟩
      all_goals
        go_upto_region 10 with ((with_reducible refine C1.out.mono ?_); rintro e wn ⟨s', r', rfl, hs, hB⟩; rw [HO.out] at hs; injection hs with hs1 hs2; subst hs1; rw [c0]; replace hD := hD.next hB; clear hB)
        obtain ⟨k, hk⟩ : ∃ k, l.length = k + 1 := ⟨l.length - 1, by omega⟩
        have i5 : (l.length : Int) - 1 = (k : Int) := by omega
        have i6 : (0 : Int) ≤ (k : Int) := by omega
        have i7 : (k : Int) < (l.length : Int) := by omega
        have hLn : LeavesAt wn q l := by
          obtain ⟨q', cap', e, hl⟩ := leaves_at (hD.get 0 rfl)
          obtain ⟨rfl, -, rfl⟩ : q = q' ∧ l.length = l.length ∧ cap = cap' := by injection e with e1 e2 e3; exact ⟨e1, e2, e3⟩
          exact hl
        obtain ⟨g5, o5, rfl, -, e5⟩ := hLn k (by omega)
        have hu1 := hok _ (List.getElem_mem (show k < l.length by omega))
        generalize l[k] = lk2 at *
        obtain ⟨x5, u⟩ := lk2
        simp only at e5
        have hu2 : 0 ≤ u ∧ u ≤ 231 := by simp [leafOk, inB] at hu1; omega
        have hZ : (ownZ 56 2 (.slice q2 l.length cap2) l.length (cellsL (fullL t l.length))).holds wn := by
          have h := hD.get 1 rfl
          unfold rLv at h
          rw [fullL_length] at h
          exact h
        obtain ⟨q', cap', e, -, hc2⟩ := ownZ_form hZ
        obtain ⟨b, rfl, -, hc2⟩ := hc2 (by omega)
        obtain ⟨rfl, -, -⟩ : q2 = some ⟨b, 0, none⟩ ∧ True ∧ True := by injection e with e1 e2 e3; exact ⟨e1, trivial, trivial⟩
        have hfz : wn.frozen? ⟨b, k * 2 + 1, none⟩ = false := World.ownsRow.frozenAt hZ (k * 2 + 1)
        have hce : wn.cell? ⟨b, k * 2 + 1, none⟩ = some (.int .i64 231) := by
          rw [hc2 _ (by omega), (cellsL_get (fullL t l.length) k (by rw [fullL_length]; omega)).2]
          simp [fullL]
        clear e hc2
        go_upto_region 11 with fail
        have hm := hD.putZ 1 (e := 56) (size := 2) (n := l.length) (cap := cap2) (b := b) (xs := cellsL (fullL t l.length)) (by unfold rLv; rw [fullL_length]; rfl) (k * 2 + 1) (.int .i64 u)
        rw [hk, full_set] at hm
        have hF := of_full t ht1 k (by omega) u hu2 (fun e => by omega)
        have hlen : (fullL t k ++ [(t + (k : Int), u)]).length = k + 1 := by simp [fullL_length]
        generalize fullL t k ++ [(t + (k : Int), u)] = f2 at *
        replace hm : Hold w (wn.setCell ⟨b, k * 2 + 1, none⟩ (.int .i64 u)) [rLv 56 (.slice (some ⟨g5, o5, none⟩) l.length cap) l, rLv 56 (.slice (some ⟨b, 0, none⟩) (k + 1) cap2) f2] := by
          unfold rLv
          rw [hlen, hk]
          unfold rLv at hm
          rw [hk] at hm
          exact hm
        have HF := Lib.hid hF
        have hLf : LeavesAt (wn.setCell ⟨b, k * 2 + 1, none⟩ (.int .i64 u)) (some ⟨b, 0, none⟩) f2 := by
          obtain ⟨q', cap', e, hl⟩ := leaves_at (hm.get 1 rfl)
          obtain ⟨rfl, -, rfl⟩ : some (⟨b, 0, none⟩ : Addr) = q' ∧ k + 1 = f2.length ∧ cap2 = cap' := by injection e with e1 e2 e3; exact ⟨e1, e2, e3⟩
          exact hl
        have c2 := sp_Of_in f2 (some ⟨b, 0, none⟩) cap2 231 (wn.setCell ⟨b, k * 2 + 1, none⟩ (.int .i64 u)) hLf (by omega) rfl
        rw [HF.out.1, HF.out.2, hlen] at c2
        have C2 := Lib.hid c2
        have HU := Lib.hid hm.up
        clear c2 hLf hm hD hF hlen hfz hce hZ hLn e5
        generalize wn.setCell ⟨b, k * 2 + 1, none⟩ (.int .i64 u) = wq at *
        go_wp2_with (first
          | ((with_reducible refine C2.out.mono ?_); rintro e wm ⟨s2', r2', rfl, hs, hB⟩; injection hs with hs1 hs2; subst hs1 hs2; rw [c0]; have hu := HU.out.next hB; clear hB)
          | ((with_reducible refine (CF.out _ (HT.out.up hu)).mono ?_); rintro e wm ⟨rfl, hB⟩; replace hu := hu.next hB; clear hB))
        go_ret
        exact ⟨rfl, hu⟩
end Go.Proofs.YthhbndepiofmeaaDoor
