import Derived.Test.YtijbfacfloljoaaSumFixed
import Derived.OpenShut
namespace Go.Proofs.Ytijbfacfloljoaa
open Go.RowKit Bw
set_option linter.unusedVariables false

theorem and16 (n : Int) : ∃ A : Nat, bits .and .i64 n 65535 = A ∧ A ≤ 65535 := by
  refine ⟨((BitVec.ofInt 64 n &&& BitVec.ofInt 64 65535).toNat), ?_, ?_⟩
  · have h : (BitVec.ofInt 64 n &&& BitVec.ofInt 64 65535).toNat ≤ 65535 := by
      rw [BitVec.toNat_and]; exact Nat.and_le_right
    show IntKind.i64.wrap ((BitVec.ofInt 64 n &&& BitVec.ofInt 64 65535).toNat : Int) = _
    exact IntWalk.i64_in _ ⟨by omega, by omega⟩
  · rw [BitVec.toNat_and]; exact Nat.and_le_right

theorem set_split (l : List UInt8) (k : Nat) (hk : k < l.length) (c : UInt8) : l.set k c = l.take k ++ c :: l.drop (k + 1) := by
  rw [List.set_eq_take_append_cons_drop, if_pos hk]
theorem get_split (l : List UInt8) (k : Nat) (hk : k < l.length) : l = l.take k ++ l[k] :: l.drop (k + 1) := by
  rw [← List.drop_eq_getElem_cons hk, List.take_append_drop]

/-- A page of which one byte is another one. -/
theorem page_one (x : ByteArray) (hx : x.size ≤ 252) (k : Nat) (hk : k < 256) (c : UInt8) :
    openE (str ((lst (sealS x)).set k c)) = if (lst (sealS x))[k]'(by rw [lst_length, sealS_size hx]; exact hk) = c then 0 else 5 := by
  have hp := sealS_size hx
  have hlen : (lst (sealS x)).length = 256 := by rw [lst_length, hp]
  by_cases he : (lst (sealS x))[k]'(by rw [hlen]; exact hk) = c
  · rw [if_pos he]
    have : (lst (sealS x)).set k c = lst (sealS x) := by
      rw [set_split _ k (by omega), ← he, ← get_split _ k (by omega)]
    rw [this, str_lst]; exact (open_seal hx).1
  · rw [if_neg he]
    have hz : (str ((lst (sealS x)).set k c)).size = 256 := by rw [size_str, List.length_set, hlen]
    rw [openE, if_pos hz, if_neg]
    intro h
    rw [lst_str] at h
    have t0 := sealS_tail hx
    have h0 := sealS_head hx
    by_cases hk2 : k < 252
    · have e1 : ((lst (sealS x)).set k c).drop 252 = (lst (sealS x)).drop 252 := by rw [List.drop_set_of_lt (by omega)]
      rw [e1, t0, ← h0] at h
      have l1 : lst ((sealS x).extract 0 252) = (lst (sealS x)).take 252 := by rw [extract_lst, List.drop_zero]
      have l2 : lst ((str ((lst (sealS x)).set k c)).extract 0 252) = ((lst (sealS x)).take 252).set k c := by rw [extract_lst, List.drop_zero, lst_str, List.take_set]
      have hlt : k < ((lst (sealS x)).take 252).length := by rw [List.length_take]; omega
      rw [set_split _ k hlt] at l2
      rw [get_split _ k hlt] at l1
      have := crcOf_one _ _ _ _ _ _ l1 l2 h
      rw [List.getElem_take] at this
      exact he this
    · have l1 : (str ((lst (sealS x)).set k c)).extract 0 252 = (sealS x).extract 0 252 := by
        apply lst_inj
        rw [extract_lst, extract_lst, List.drop_zero, List.drop_zero, lst_str, Nat.sub_zero, List.take_set_of_le (by omega)]
      rw [l1, h0, ← t0] at h
      have e1 := toLE_le (((lst (sealS x)).set k c).drop 252)
      have e2 := toLE_le ((lst (sealS x)).drop 252)
      rw [List.length_drop, List.length_set] at e1
      rw [List.length_drop] at e2
      rw [h, e2] at e1
      have e3 := congrArg (fun l => l[k - 252]?) e1
      simp only [List.getElem?_drop, show 252 + (k - 252) = k by omega] at e3
      rw [List.getElem?_set_self (by omega), List.getElem?_eq_getElem (by omega)] at e3
      exact he (by simpa using e3)

theorem xor_byte (b by' : Nat) (h1 : b < 256) (h2 : by' < 256) : bits BinOp.xor IntKind.u8 (b : Int) (by' : Int) = ((UInt8.ofNat (b ^^^ by')).toNat : Int) := by
  have e : (UInt8.ofNat (b ^^^ by')).toNat = (b ^^^ by') % 256 := UInt8.toNat_ofNat'
  have := Nat.xor_lt_two_pow (n := 8) h1 h2
  rw [u8_xor_nat b by' h1 h2, e, Nat.mod_eq_of_lt this]

theorem xor_same (b by' : Nat) (h1 : b < 256) (h2 : by' < 256) (c : UInt8) (hc : c.toNat = b) : c = UInt8.ofNat (b ^^^ by') ↔ by' = 0 := by
  have e : (UInt8.ofNat (b ^^^ by')).toNat = (b ^^^ by') % 256 := UInt8.toNat_ofNat'
  have h3 := Nat.xor_lt_two_pow (n := 8) h1 h2
  rw [Nat.mod_eq_of_lt h3] at e
  constructor
  · intro h
    have h4 := congrArg UInt8.toNat h
    rw [hc, e] at h4
    have := congrArg (fun z => b ^^^ z) h4
    simpa [← Nat.xor_assoc] using this.symm
  · intro h
    subst h
    apply UInt8.toNat_inj.1
    rw [hc, e]; simp

set_option maxHeartbeats 4000000 in
set_option maxRecDepth 100000 in
theorem bytes_walk (s : ByteArray) (hs : s.size ≤ maxLen) (z : Int) (m : Nat) (hm : m ≤ 255) (w : World) :
    Calls Try.prog 5 #[.string s, .int .i64 z, .int .u8 m] w fun e w' => e = .returned (.bool true) ∧ Below w.heap.size w w' := by
  unfold maxLen at hs
  have hu := Up.refl w
  have C9 := Lib.hid law2_fixed
  go_enter Try.func5, Try.ntmps5
  go_upto_region 1 with fail
  go_cut [0] (fun v wx => ∃ x : ByteArray, x.size ≤ 252 ∧ v = .string x ∧ w = wx)
  case first =>
    go_wp2_with fail
    · go_meet
      exact ⟨s.extract 0 252, by simp; omega, rfl, rfl⟩
    · go_meet
      exact ⟨s, by omega, rfl, rfl⟩
  case rest =>
    obtain ⟨x, hz, rfl, rfl⟩ := hcut
    clear hs
    obtain ⟨A, hA, hA2⟩ := and16 z
    obtain ⟨k, hk, hk2⟩ : ∃ k : Nat, (A : Int) % 256 = k ∧ k < 256 := ⟨A % 256, by omega, by omega⟩
    have hp := sealS_size hz
    have c1 := fun w => sum_Seal x w (by omega)
    rw [show sealE x = 0 by simp [sealE]; omega] at c1
    have hlen : (lst (sealS x)).length = 256 := by rw [lst_length, hp]
    have hone := page_one x hz k hk2
    have hb8 : ((lst (sealS x))[k]'(by rw [hlen]; exact hk2)).toNat < 256 := UInt8.toNat_lt _
    have hxs := xor_same _ m hb8 (by omega) _ rfl
    have hxb := xor_byte ((lst (sealS x))[k]'(by rw [hlen]; exact hk2)).toNat m hb8 (by omega)
    have hsz : ∀ c, (str ((lst (sealS x)).set k c)).size = 256 := fun c => by rw [size_str, List.length_set, hlen]
    have c2 := fun w => sum_Open (str ((lst (sealS x)).set k (UInt8.ofNat (((lst (sealS x))[k]'(by rw [hlen]; exact hk2)).toNat ^^^ m)))) w (by rw [hsz]; omega)
    rw [hone] at c2
    have hgetk : ∀ (w : World) (g : Nat), BytesAt w g 0 (lst (sealS x)) → w.cell? ⟨g, k, none⟩ = some (.int .u8 (((lst (sealS x))[k]'(by rw [hlen]; exact hk2)).toNat : Int)) ∧ w.frozen? ⟨g, k, none⟩ = false := fun w g hB => by
      have h1 := hB.cell k (by omega)
      have h2 := hB.free k (by omega)
      rw [Nat.zero_add] at h1 h2
      exact ⟨h1, h2⟩
    clear hone
    generalize hc0 : (lst (sealS x))[k]'(by rw [hlen]; exact hk2) = c0 at *
    generalize hc1 : UInt8.ofNat (c0.toNat ^^^ m) = c1' at *
    clear hc0 hc1
    generalize sealS x = P at *
    have HP := Lib.hid hsz; clear hsz
    generalize openS (str ((lst P).set k c1')) = O at *
    have C1 := Lib.hid c1; clear c1
    have HG := Lib.hid hgetk; clear hgetk
    have hem : ∀ w : World, BytesAt (w.alloc (.cells #[] 5)) w.heap.size 0 [] := fun w => bytesAt_alloc [] _ _ fun j hj => by simp at hj
    have HEM := Lib.hid hem; clear hem
    have hp2 : 0 + P.size ≤ 1099511627776 := by omega
    have HX := Lib.hid hxs; clear hxs
    have hE : ((if c0 = c1' then 0 else 5 : Int) = 0 ∧ m = 0) ∨ ((if c0 = c1' then 0 else 5 : Int) = 5 ∧ m ≠ 0) := by
      by_cases h : c0 = c1'
      · exact Or.inl ⟨if_pos h, HX.out.1 h⟩
      · exact Or.inr ⟨if_neg h, fun h2 => h (HX.out.2 h2)⟩
    clear HX
    generalize (if c0 = c1' then 0 else 5 : Int) = E at *
    obtain ⟨z2, hz2⟩ : ∃ z2, str ((lst P).set k c1') = z2 := ⟨_, rfl⟩
    rw [hz2] at c2
    have C2 := Lib.hid c2; clear c2
    have Z2 := Lib.hid hz2; clear hz2
    have hkl : k < (lst P).length := by omega
    rcases hE with ⟨rfl, hm0⟩ | ⟨rfl, hm0⟩
    case' inl =>
      subst hm0
      rw [show ((0 : Nat) : Int) = 0 from rfl] at *
    all_goals
      go_wp2_with (first
        | (with_reducible refine (C1.out _).mono ?_; rintro e w1 ⟨rfl, hw1⟩; replace hu := hu.next hw1; clear hw1)
        | (with_reducible refine (C2.out _).mono ?_; rintro e w3 ⟨rfl, hw1⟩; replace hu := hu.next hw1; clear hw1)
        | (with_reducible refine (C9.out _).mono ?_; rintro e w4 ⟨rfl, hw1⟩; replace hu := hu.next hw1; clear hw1)
        | (with_reducible refine wpList_toStringAs rfl _ 32 9 5 rfl Try.underlying32 Try.underlying9 Try.underlying5 ((lst P).set k c1') _ Z2.out g1 0 256 cap1 rfl (by rw [List.length_set]; exact hlen.symm) (HB.out.set k hkl c1') ?_)
        | (at_builtin; refine wpList_appendString rfl _ _ 32 9 5 rfl Try.underlying32 Try.underlying9 u8info _ 0 P [] rfl rfl (HEM.out _) rfl hp2 _ _ (hu.alloc _) (Below.size (hu.alloc _)) (Below.size hu) ?_; intro g1 cap1 w2 hb2 hw2 hw2' hg1 hc1 hc2; rw [List.nil_append] at hb2; have hcc := (HG.out w2 g1 hb2).1; have hff := (HG.out w2 g1 hb2).2; have HB := Lib.hid hb2; replace hu : Up w (w2.setCell ⟨g1, k, none⟩ (.int .u8 (c1'.toNat : Int))) := Below.setCell hw2 hg1 _; clear hb2 hw2 hw2'))
      go_ret
      first
      | exact ⟨rfl, hu⟩
      | (have hm1 : ((m : Int) == 0) = false := by
           rw [beq_eq_false_iff_ne]; omega
         refine ⟨?_, hu⟩
         show Ending.returned (.bool (!((m : Int) == 0))) = _
         rw [hm1]; rfl)

theorem bytes_law (s : ByteArray) (hs : s.size ≤ maxLen) (z : Int) (wz : (Lit.int .i64 z).wf = true) (n : Int) (wn : (Lit.int .u8 n).wf = true) (w : World) :
    Calls Try.prog 5 #[.string s, .int .i64 z, .int .u8 n] w fun e w' => e = .returned (.bool true) ∧ Below w.heap.size w w' := by
  have hk := bounds_u8 wn
  obtain ⟨m, rfl⟩ := Int.eq_ofNat_of_zero_le hk.1
  exact bytes_walk s hs z m (by omega) w
end Go.Proofs.Ytijbfacfloljoaa
