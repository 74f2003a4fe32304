import Derived.Test.YtijbfacfloljoaaS2Bytes
import Derived.OpenShut
namespace Go.Proofs.Ytijbfacfloljoaa
open Go.RowKit Bw
set_option linter.unusedVariables false

set_option maxHeartbeats 4000000 in
set_option maxRecDepth 100000 in
theorem turned_law (s : ByteArray) (hs : s.size ≤ maxLen) (z : Int) (wz : (Lit.int .i64 z).wf = true) (w : World) :
    Calls Try.prog 8 #[.string s, .int .i64 z] w fun e w' => e = .returned (.bool true) ∧ Below w.heap.size w w' := by
  unfold maxLen at hs
  have hu := Up.refl w
  have C9 := Lib.hid law2_fixed
  go_enter Try.func8, Try.ntmps8
  go_upto_region 1 with fail
  go_cut [0] (fun v wx => ∃ x : ByteArray, 0 < x.size ∧ x.size ≤ 301 ∧ v = .string x ∧ w = wx)
  case first =>
    go_wp2_with fail
    · go_meet
      refine ⟨s.extract 0 300 ++ { data := #[120] }, ?_, ?_, rfl, rfl⟩
      · rw [ByteArray.size_append]; exact Nat.lt_of_lt_of_le (by decide) (Nat.le_add_left _ _)
      · rw [ByteArray.size_append, ByteArray.size_extract]; exact Nat.add_le_add_right (m := 300) (by omega) 1
    · go_meet
      refine ⟨s ++ { data := #[120] }, ?_, ?_, rfl, rfl⟩
      · rw [ByteArray.size_append]; exact Nat.lt_of_lt_of_le (by decide) (Nat.le_add_left _ _)
      · rw [ByteArray.size_append]; exact Nat.add_le_add_right (m := 300) (by omega) 1
  case rest =>
    obtain ⟨x, hz0, hz, rfl, rfl⟩ := hcut
    clear hs
    obtain ⟨A, hA, hA2⟩ := and16 z
    obtain ⟨k, hk, hk2⟩ : ∃ k : Nat, (A : Int) % (8 * (x.size : Int)) = k ∧ k < 8 * x.size := ⟨A % (8 * x.size), by simp, Nat.mod_lt _ (by omega)⟩
    obtain ⟨j, hj, hj2⟩ : ∃ j : Nat, (k : Int) / 8 = j ∧ j < x.size := ⟨k / 8, by omega, by omega⟩
    obtain ⟨q, hq, hq2⟩ : ∃ q : Nat, (k : Int) % 8 = q ∧ q < 8 := ⟨k % 8, by omega, by omega⟩
    have hlen : (lst x).length = x.size := lst_length x
    have hget : ∀ (w : World) (g : Nat), BytesAt w g 0 (lst x) → w.cell? ⟨g, j, none⟩ = some (.int .u8 (((lst x)[j]'(by rw [hlen]; exact hj2)).toNat : Int)) ∧ w.frozen? ⟨g, j, none⟩ = false := fun w g hB => by
      have h1 := hB.cell j (by omega)
      have h2 := hB.free j (by omega)
      rw [Nat.zero_add] at h1 h2
      exact ⟨h1, h2⟩
    have hb8 : ((lst x)[j]'(by rw [hlen]; exact hj2)).toNat < 256 := UInt8.toNat_lt _
    have hxs := xor_same _ (2 ^ q) hb8 (Nat.lt_of_lt_of_le (Nat.pow_lt_pow_right (by omega) hq2) (by decide)) _ rfl
    have hxb := xor_byte ((lst x)[j]'(by rw [hlen]; exact hj2)).toNat (2 ^ q) hb8 (Nat.lt_of_lt_of_le (Nat.pow_lt_pow_right (by omega) hq2) (by decide))
    generalize hc0 : (lst x)[j]'(by rw [hlen]; exact hj2) = c0 at *
    generalize hc1 : UInt8.ofNat (c0.toNat ^^^ 2 ^ q) = c1' at *
    have hne : crcOf (str ((lst x).set j c1')) ≠ crcOf x := by
      intro h
      have e1 : lst (str ((lst x).set j c1')) = (lst x).take j ++ c1' :: (lst x).drop (j + 1) := by rw [lst_str, set_split _ _ (by omega)]
      have e2 := get_split (lst x) j (by omega)
      rw [hc0] at e2
      have := crcOf_one _ _ _ _ _ _ e1 e2 h
      have h0 : (2 : Nat) ^ q = 0 := hxs.1 this.symm
      exact Nat.pos_iff_ne_zero.1 (Nat.two_pow_pos q) h0
    have hsz : (str ((lst x).set j c1')).size = x.size := by rw [size_str, List.length_set, hlen]
    have c1 := fun w => sum_Of x w (by omega)
    have c2 := fun w => sum_Of (str ((lst x).set j c1')) w (by omega)
    have hkl : j < (lst x).length := by omega
    clear hxs hc0 hc1
    have HG := Lib.hid hget; clear hget
    generalize hs1 : crcOf x = S1 at *
    generalize hs2 : crcOf (str ((lst x).set j c1')) = S2 at *
    clear hs1 hs2
    obtain ⟨z2, hz2⟩ : ∃ z2, str ((lst x).set j c1') = z2 := ⟨_, rfl⟩
    rw [hz2] at c2
    have C1 := Lib.hid c1; clear c1
    have C2 := Lib.hid c2; clear c2
    have Z2 := Lib.hid hz2; clear hz2 hsz
    have hem : ∀ w : World, BytesAt (w.alloc (.cells #[] 5)) w.heap.size 0 [] := fun w => bytesAt_alloc [] _ _ fun j hj => by simp at hj
    have HEM := Lib.hid hem; clear hem
    have hp2 : 0 + x.size ≤ 1099511627776 := by omega
    have hbz : 2 ^ q < 256 := Nat.lt_of_lt_of_le (Nat.pow_lt_pow_right (by omega) hq2) (by decide)
    have hxb2 : bits .xor .u8 (c0.toNat : Int) ((2 : Int) ^ q % 256) = (c1'.toNat : Int) := by
      rw [← hxb]
      have : ((2 : Int) ^ q % 256) = ((2 ^ q : Nat) : Int) := by
        have e : ((2 : Int) ^ q) = ((2 ^ q : Nat) : Int) := by simp
        rw [e]; exact Int.emod_eq_of_lt (Int.natCast_nonneg _) (Int.ofNat_lt.2 hbz)
      rw [this]
    clear hxb hbz
    go_upto_region 4 with (first
      | (at_builtin; refine wpList_appendString rfl _ _ 32 9 5 rfl Try.underlying32 Try.underlying9 u8info _ 0 x [] rfl rfl (HEM.out _) rfl hp2 _ _ (hu.alloc _) (Below.size (hu.alloc _)) (Below.size hu) ?_; intro g1 cap1 w2 hb2 hw2 hw2' hg1 hc1 hc2; rw [List.nil_append] at hb2; have hcc := (HG.out w2 g1 hb2).1; have hff := (HG.out w2 g1 hb2).2; have HB := Lib.hid hb2; replace hu : Up w (w2.setCell ⟨g1, j, none⟩ (.int .u8 (c1'.toNat : Int))) := Below.setCell hw2 hg1 _; clear hb2 hw2 hw2'))
    go_region
    replace hu := hu.drew
    go_wp2_with (first
      | (with_reducible refine (C1.out _).mono ?_; rintro e w3 ⟨rfl, hw1⟩; replace hu := hu.next hw1; clear hw1)
      | (with_reducible refine (C2.out _).mono ?_; rintro e w4 ⟨rfl, hw1⟩; replace hu := hu.next hw1; clear hw1)
      | (with_reducible refine (C9.out _).mono ?_; rintro e w5 ⟨rfl, hw1⟩; replace hu := hu.next hw1; clear hw1)
      | (with_reducible refine wpList_toStringAs rfl _ 32 9 5 rfl Try.underlying32 Try.underlying9 Try.underlying5 ((lst x).set j c1') _ Z2.out g1 0 x.size cap1 rfl (by rw [List.length_set]; exact hlen.symm) (BytesAt.drew (HB.out.set j hkl c1')) ?_))
    go_ret
    refine ⟨?_, hu⟩
    have hb : ((S2 : Int) != (S1 : Int)) = true := by
      rw [bne_iff_ne]; exact fun h => hne (Int.ofNat_inj.1 h)
    show Ending.returned (.bool ((S2 : Int) != (S1 : Int))) = _
    rw [hb]
end Go.Proofs.Ytijbfacfloljoaa
