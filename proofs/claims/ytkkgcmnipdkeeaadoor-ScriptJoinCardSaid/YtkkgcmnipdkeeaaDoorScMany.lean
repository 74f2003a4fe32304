import Derived.Test.YtkkgcmnipdkeeaaDoorScFixed
namespace Bw
theorem manyL_succ (i : Nat) : manyL (i + 1) = manyL i ++ [UInt8.ofNat (7 + i % 4)] := by
  unfold manyL; rw [List.range_succ, List.map_append]; rfl
theorem manyL_len (i : Nat) : (manyL i).length = i := by simp [manyL]
end Bw
namespace Go.Proofs.YtkkgcmnipdkeeaaDoor
open Go.RowKit Bw
set_option linter.unusedVariables false
/-- The walk's answer of a Decode, just its length and error. -/
theorem dec_len (s : ByteArray) (hs : s.size ≤ 1000000) {n : Nat} {E : Int} (hD : (actsD s).length = n) (hE : actsE s = E) (w : World) : Calls Tryd.prog 19 #[.string s] w fun e w' => ∃ q c, e = .returned (.tuple #[.slice q n c, .int .i64 E]) ∧ Below w.heap.size w w' := by
  refine (script_Decode s hs w).mono fun e w' ⟨q, c, I, h1, h2, h3⟩ => ?_
  have h4 := congrArg List.length h1
  rw [List.length_map, hD] at h4
  rw [hE, h4] at h2
  exact ⟨q, c, h2, h3.up⟩
set_option maxHeartbeats 4000000 in
set_option maxRecDepth 100000 in
theorem many_law (n : Int) (hn : (Lit.int .u8 n).wf = true) (m : Int) (hm : (Lit.int .u8 m).wf = true) (w : World) (ht : Tab w) :
    Calls Tryd.prog 6 #[.int .u8 n, .int .u8 m] w fun e w' => e = .returned (.bool true) ∧ Below w.heap.size w w' := by
  have HT := Lib.hid ht
  clear ht
  have hn' : 0 ≤ n ∧ n ≤ 255 := by simp [Lit.wf, IntKind.min, IntKind.max, IntKind.signed, IntKind.bits] at hn; omega
  have hm' : 0 ≤ m ∧ m ≤ 255 := by simp [Lit.wf, IntKind.min, IntKind.max, IntKind.signed, IntKind.bits] at hm; omega
  obtain ⟨n0, n1⟩ := hn'
  obtain ⟨m0, m1⟩ := hm'
  clear hn hm
  have hu := Up.refl w
  go_enter Tryd.func6, Tryd.ntmps6
  go_wp2_with fail
  obtain ⟨K, hK⟩ : ∃ K : Nat, 380 + n % 40 = (K : Int) := ⟨(380 + n % 40).toNat, by omega⟩
  have k0 : 380 ≤ K := by omega
  have k1 : K ≤ 419 := by omega
  rw [hK]
  generalize hn4 : n % 40 = n4 at *
  clear hn4 hK n0 n1
  go_loopw [5, 7] (fun v5 v7 wr => ∃ i : Nat, i ≤ K ∧ v5 = .string (str (manyL i)) ∧ v7 = .int .i64 i ∧ Up w wr) (fun _ v _ => K - (intOf v).toNat)
  case atStart => exact ⟨0, by omega, rfl, rfl, hu⟩
  case round =>
  clear hu
  obtain ⟨i, hi, rfl, rfl, hu⟩ := hrel
  have i0 : (0 : Int) ≤ (i : Int) := by omega
  by_cases hlt : i < K
  · have b1 : (i : Int) < (K : Int) := by omega
    have z1 : ¬ 9223372036854775807 < (str (manyL i)).size + 1 := by rw [size_str, manyL_len]; omega
    have HO := Lib.hid (show ∀ (w : World) (e : TypeId), BytesAt (w.alloc (.cells #[.int .u8 (7 + (i : Int) % 4)] e)) w.heap.size 0 [UInt8.ofNat (7 + i % 4)] from fun w e => by
      have h := bytes_one24 w e (UInt8.ofNat (7 + i % 4))
      have h2 : (((UInt8.ofNat (7 + i % 4)).toNat : Nat) : Int) = 7 + (i : Int) % 4 := by rw [UInt8.toNat_ofNat']; omega
      rw [h2] at h
      exact h)
    have HSt := Lib.hid (show str (manyL i) ++ str [UInt8.ofNat (7 + i % 4)] = str (manyL (i + 1)) by rw [str_append, manyL_succ])
    have z2 : (str [UInt8.ofNat (7 + i % 4)]).size = 1 := by rw [size_str]; rfl
    have z3 : ¬ 9223372036854775807 < (str (manyL i)).size + (str [UInt8.ofNat (7 + i % 4)]).size := by rw [z2]; exact z1
    clear z1 z2
    generalize UInt8.ofNat (7 + i % 4) = B at *
    go_wp2_with ((with_reducible refine wpList_at 27 ?_); refine wpList_toString rfl _ 44 9 5 rfl Tryd.underlying44 Tryd.underlying9 Tryd.underlying5 [B] wr.heap.size 0 1 1 rfl (by simp) (HO.out _ _) ?_)
    refine ⟨⟨i + 1, by omega, by rw [HSt.out], by go_num, hu.alloc _⟩, by simp [intOf]; omega⟩
  · have hiK : i = K := by omega
    subst hiK
    have hO := many_acts' i
    have hsz : (str (manyL i)).size ≤ 1000000 := by rw [size_str, manyL_len]; omega
    have hmb : ∀ b : UInt8, 12 ≤ b.toNat → actsE (str (manyL i) ++ str [b]) = 12 ∧ actsD (str (manyL i) ++ str [b]) = [] := fun b hb => by
      rw [str_append]
      have := many_bad i b hb
      exact acts_bad (fun bs h => by rw [this] at h; cases h)
    have CF := Lib.hid (fun w h => law24_fixed w h)
    by_cases h4 : i ≤ 400
    · obtain ⟨h1, h2⟩ := acts_ok hO (by rw [many_len]; exact h4)
      have CD := Lib.hid (fun w => dec_len (str (manyL i)) hsz (n := i) (by rw [h2, many_len]) h1 w)
      have h4' : (i : Int) ≤ 400 := by omega
      have h4'' : ¬ 400 < i := by omega
      obtain ⟨b, hb⟩ : ∃ b, UInt8.ofNat (12 + m % 200).toNat = b := ⟨_, rfl⟩
      have hbn : ((b.toNat : Nat) : Int) = 12 + m % 200 := by rw [← hb, UInt8.toNat_ofNat']; omega
      have HO := Lib.hid (show ∀ (w : World) (e : TypeId), BytesAt (w.alloc (.cells #[.int .u8 (12 + m % 200)] e)) w.heap.size 0 [b] from fun w e => by
        have h := bytes_one24 w e b
        rw [hbn] at h
        exact h)
      obtain ⟨g1, g2⟩ := hmb b (by omega)
      have z2 : (str [b]).size = 1 := by rw [size_str]; rfl
      have z4 : (str (manyL i) ++ str [b]).size = i + 1 := by rw [ByteArray.size_append, z2, size_str, manyL_len]
      have CD2 := Lib.hid (fun w => dec_len (str (manyL i) ++ str [b]) (by rw [z4]; omega) (n := 0) (by rw [g2]; rfl) g1 w)
      have z3 : ¬ 9223372036854775807 < (str (manyL i)).size + (str [b]).size := by rw [z2, size_str, manyL_len]; omega
      clear h1 h2 hO hsz hmb hb hbn g1 g2 z2 z4 hi hlt
      go_wp2_with (first
        | ((with_reducible refine (CD.out _).mono ?_); rintro e wn ⟨q1, c1, rfl, hb⟩; replace hu := hu.next hb; clear hb)
        | ((with_reducible refine wpList_at 52 ?_); replace hu := hu.alloc (.cells #[.int .u8 (12 + m % 200)] 5); refine wpList_toString rfl _ 44 9 5 rfl Tryd.underlying44 Tryd.underlying9 Tryd.underlying5 [b] wn.heap.size 0 1 1 rfl (by simp) (HO.out _ _) ?_)
        | ((with_reducible refine (CD2.out _).mono ?_); rintro e wm ⟨q2, c2, rfl, hb⟩; replace hu := hu.next hb; clear hb)
        | ((with_reducible refine (CF.out _ (HT.out.up hu)).mono ?_); rintro e wx ⟨rfl, hb⟩; replace hu := hu.next hb; clear hb))
      go_ret
      exact ⟨rfl, hu⟩
    · obtain ⟨h1, h2⟩ := acts_bad (s := str (manyL i)) (fun bs h => by rw [hO] at h; injection h with h; subst h; rw [many_len]; omega)
      have CD := Lib.hid (fun w => dec_len (str (manyL i)) hsz (n := 0) (by rw [h2]; rfl) h1 w)
      have h4' : (400 : Int) < (i : Int) := by omega
      have h4'' : 400 < i := by omega
      clear h1 h2 hO hsz hmb hi hlt
      go_wp2_with (first
        | ((with_reducible refine (CD.out _).mono ?_); rintro e wn ⟨q1, c1, rfl, hb⟩; replace hu := hu.next hb; clear hb)
        | ((with_reducible refine (CF.out _ (HT.out.up hu)).mono ?_); rintro e wn ⟨rfl, hb⟩; replace hu := hu.next hb; clear hb))
      go_ret
      exact ⟨rfl, hu⟩
end Go.Proofs.YtkkgcmnipdkeeaaDoor
