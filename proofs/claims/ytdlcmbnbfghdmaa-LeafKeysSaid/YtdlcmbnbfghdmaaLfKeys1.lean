/- Layer 10: without and all of the law. -/
import Derived.Test.YtdlcmbnbfghdmaaLfCut
import Derived.Test.YtdlcmbnbfghdmaaLfRef3
import Derived.Test.YtdlcmbnbfghdmaaLfPure8
namespace Go.Proofs.Ytdlcmbnbfghdmaa
open Go.RowKit Bw
set_option linter.unusedVariables false
/-- Pairs in a slice of the law's own. -/
abbrev ownP (q : Option Addr) (c : Nat) (l : List PairD) : Res := ownZ 44 2 (.slice q l.length c) l.length (cellsP l)
theorem ownP_pairs {W w : World} {T : List Res} {j g c : Nat} {l : List PairD} (h : Hold W w T) (hj : T[j]? = some (ownP (some ⟨g, 0, none⟩) c l)) : PairsAt w (some ⟨g, 0, none⟩) l :=
  (slAt_own h hj rfl (own_capZ (h.get j hj)) (fun h => by cases h)).1
theorem hold_addP {W w w' : World} {T : List Res} {g c : Nat} {l : List PairD} (h : Hold W w T) (hb : Below w.heap.size w w') (hs : (ownP (some ⟨g, 0, none⟩) c l).holds w') (hn : w.heap.size ≤ g) : Hold W w' (T ++ [ownP (some ⟨g, 0, none⟩) c l]) :=
  h.add hb _ hs fun k hk => by
    have e : some g = some k := hk
    injection e with e
    omega
set_option maxHeartbeats 4000000 in
set_option maxRecDepth 100000 in
theorem law10_without (L : List PairD) (hl : L.length ≤ 1000) (q : Option Addr) (c : Nat) (k : ByteArray) (w : World) (hP : PairsAt w q L) :
    Calls Try.prog 36 #[.slice q L.length c, .string k] w fun e w' => ∃ g c', e = .returned (.slice (some ⟨g, 0, none⟩) (woL L k).length c') ∧ (ownP (some ⟨g, 0, none⟩) c' (woL L k)).holds w' ∧ w.heap.size ≤ g ∧ Below w.heap.size w w' := by
  have HPA := Lib.hid hP
  clear hP
  go_enter Try.func36, Try.ntmps36
  have hD : Hold w (w.alloc (.cells #[] 44)) [ownZ 44 2 (.slice (some ⟨w.heap.size, 0, none⟩) 0 0) 0 []] := Hold.madeZ (Hold.start w) 44 2
  obtain ⟨inf, hi0', hz0, hz1, hz2⟩ := infoPair
  go_wp2_with fail
  go_loopw [5, 6] (fun v5 v6 wr => ∃ (n g cc : Nat), n ≤ L.length ∧ v6 = .int .i64 n ∧ v5 = .slice (some ⟨g, 0, none⟩) (woL (L.take n) k).length cc ∧ Hold w wr [ownP (some ⟨g, 0, none⟩) cc (woL (L.take n) k)]) (fun _ v _ => L.length - (intOf v).toNat)
  case atStart => exact ⟨0, _, 0, by omega, rfl, rfl, hD⟩
  case round =>
  clear hD
  obtain ⟨n, g, cc, hnl, rfl, rfl, hD⟩ := hrel
  have i0 : (0 : Int) ≤ (n : Int) := by omega
  have i2 : (L.length : Int) ≤ 1000 := by omega
  by_cases hgo : n < L.length
  · have b1 : (n : Int) < (L.length : Int) := by omega
    obtain ⟨ga, oa, hq, a1, a2⟩ := (HPA.out.up hD.up) n hgo
    have HT := Lib.hid (wo_take (k := k) hgo)
    have hml : (woL (L.take n) k).length ≤ 1000 := by
      have := wo_le (L.take n) k
      rw [List.length_take] at this
      omega
    generalize L[n] = p at *
    generalize woL (L.take n) k = M at *
    obtain ⟨pk, pv⟩ := p
    simp only at a1 a2 HT
    subst hq
    have E1 := Lib.hid (str_eqB pk k)
    cases hd : pk.toList == k.toList
    · have hne : ¬ pk = k := by
        have := E1.out; rw [hd] at this; simp at this; exact this
      have HT2 := Lib.hid (show woL (L.take (n + 1)) k = M ++ [(pk, pv)] by rw [HT.out, if_neg hne])
      have HC := Lib.hid (show cellsP M ++ [.string pk, .string pv] = cellsP (M ++ [(pk, pv)]) by rw [cellsP_append]; rfl)
      have hF : Hold w (wr.alloc (.cells #[.string pk, .string pv] 44)) [ownP (some ⟨g, 0, none⟩) cc M, rowR wr.heap.size (.string pk) [.string pv]] := hD.madeRow (.string pk) [.string pv] 44
      have r7 : RowAt _ wr.heap.size [.string pk, .string pv] := hF.get 1 rfl
      clear hD HT hne
      go_wp2_with ((with_reducible refine wpList_at 27 ?_); refine wpList_appendZ rfl _ _ 22 rfl 44 inf (.agg #[.string ⟨#[]⟩, .string ⟨#[]⟩]) 2 32 (by kernel_rfl) hi0' hz0 hz1 hz2 rfl (by decide) hF 0 _ (cellsP M) M.length rfl rfl ⟨wr.heap.size, 0, none⟩ 1 [.string pk, .string pv] rfl rfl r7.addsAt (fun x hx => by simp at hx; rcases hx with rfl | rfl <;> rfl) (by unfold maxLen; omega) (by omega) ?_; intro b5 c5 w6 hw)
      go_roundw
      case rel =>
        rw [HC.out] at hw
        refine ⟨n + 1, b5, c5, by omega, by go_num, ?_, ?_⟩
        · rw [HT2.out, List.length_append]; rfl
        · rw [HT2.out]
          have h2 : M.length + 1 = (M ++ [(pk, pv)]).length := by rw [List.length_append]; rfl
          rw [h2] at hw
          exact hw.sub (List.sublist_append_left [_] [_])
      case measure => simp [intOf]; omega
    · have he : pk = k := by
        have := E1.out; rw [hd] at this; simp at this; exact this
      have HT2 := Lib.hid (show woL (L.take (n + 1)) k = M by rw [HT.out, if_pos he, List.append_nil])
      clear HT he
      go_wp2_with fail
      go_roundw
      case rel => exact ⟨n + 1, g, cc, by omega, by go_num, by rw [HT2.out], by rw [HT2.out]; exact hD⟩
      case measure => simp [intOf]; omega
  · have hn : n = L.length := by omega
    subst hn
    rw [List.take_length] at hD ⊢
    have hr : (ownP (some ⟨g, 0, none⟩) cc (woL L k)).holds wr := hD.get 0 rfl
    have hg : w.heap.size ≤ g := hD.new 0 rfl g rfl
    have hu := hD.up
    clear hD hgo
    go_wp2_with fail
    go_ret
    exact ⟨g, cc, rfl, hr, hg, hu⟩
end Go.Proofs.Ytdlcmbnbfghdmaa
