import Derived.Test.YtokpkkjgagbpfaaSumWalk2
import Derived.Test.YtokpkkjgagbpfaaSumPure
namespace Go.Proofs.Ytokpkkjgagbpfaa
open Go.RowKit Bw
set_option linter.unusedVariables false

set_option maxHeartbeats 2000000 in
theorem sum_Seal (s : ByteArray) (w : World) (hs : s.size ≤ 1099511627776) :
    Calls Try.prog 85 #[.string s] w fun e w' => e = .returned (.tuple #[.string (sealS s), .int .i64 (sealE s)]) ∧ Below w.heap.size w w' := by
  by_cases h : 252 < s.size
  · rw [show sealS s = ByteArray.empty by simp [sealS, h], show sealE s = 2 by simp [sealE, h]]
    go_enter Try.func85, Try.ntmps85
    go_wp2_with fail
    go_ret2
    exact ⟨rfl, Below.refl _ _⟩
  · have hz := wholeS_size (s := s) (by omega)
    obtain ⟨h1, h2, h3, h4, h5⟩ := seal_put (s := s) (by omega)
    have hc := crcOf_lt (wholeS s)
    have c1 := fun w => field_Pad s (252 : Nat) w (by omega)
    rw [h1, wholeS_pad (by omega)] at c1
    have c2 := fun w => field_Pad (wholeS s) (256 : Nat) w (by omega)
    rw [h2] at c2
    have c3 := fun w => sum_Of (wholeS s) w (by omega)
    have c4 := fun w => field_Put (padS (wholeS s) (256 : Nat)) (252 : Nat) (4 : Nat) (crcOf (wholeS s) : Nat) w (by omega) (by omega) (by omega)
    rw [h4, h5] at c4
    rw [show sealE s = 0 by simp [sealE, h]]
    clear h1 h2 h4 h5
    generalize crcOf (wholeS s) = N at *
    generalize sealS s = R at *
    generalize padS (wholeS s) (256 : Nat) = X at *
    generalize wholeS s = W at *
    rw [show ((252 : Nat) : Int) = 252 from rfl] at c1 c4
    rw [show ((256 : Nat) : Int) = 256 from rfl] at c2
    rw [show ((4 : Nat) : Int) = 4 from rfl] at c4
    have C1 := Lib.hid c1; clear c1
    have C2 := Lib.hid c2; clear c2
    have C3 := Lib.hid c3; clear c3
    have C4 := Lib.hid c4; clear c4
    clear h3 hz
    have hu := Up.refl w
    go_enter Try.func85, Try.ntmps85
    go_wp2_with (first
      | (with_reducible refine (C1.out _).mono ?_; rintro e w1 ⟨rfl, hw1⟩; replace hu := hu.next hw1; clear hw1)
      | (with_reducible refine (C2.out _).mono ?_; rintro e w1 ⟨rfl, hw1⟩; replace hu := hu.next hw1; clear hw1)
      | (with_reducible refine (C3.out _).mono ?_; rintro e w1 ⟨rfl, hw1⟩; replace hu := hu.next hw1; clear hw1)
      | (with_reducible refine (C4.out _).mono ?_; rintro e w1 ⟨rfl, hw1⟩; replace hu := hu.next hw1; clear hw1))
    go_ret2
    exact ⟨rfl, hu⟩

set_option maxHeartbeats 2000000 in
theorem sum_Open (p : ByteArray) (w : World) (hs : p.size ≤ 1099511627776) :
    Calls Try.prog 88 #[.string p] w fun e w' => e = .returned (.tuple #[.string (openS p), .int .i64 (openE p)]) ∧ Below w.heap.size w w' := by
  by_cases h : p.size = 256
  · obtain ⟨h1, h2, h3⟩ := open_get h
    have c1 := fun w => field_Get p (252 : Nat) (4 : Nat) w hs
    rw [h1, h2] at c1
    have c2 := fun w => sum_Of (p.extract 0 252) w (by simp; omega)
    have hE : openE p = if le ((lst p).drop 252) = crcOf (p.extract 0 252) then 0 else 5 := by rw [openE, if_pos h]
    have hS : openS p = if le ((lst p).drop 252) = crcOf (p.extract 0 252) then p.extract 0 252 else ByteArray.empty := by
      rw [openS, hE]; split <;> simp
    have hc := crcOf_lt (p.extract 0 252)
    rw [hS, hE]
    clear hS hE h1 h2
    generalize le ((lst p).drop 252) = N at *
    generalize crcOf (p.extract 0 252) = M at *
    rw [show ((252 : Nat) : Int) = 252 from rfl, show ((4 : Nat) : Int) = 4 from rfl] at c1
    have C1 := Lib.hid c1; clear c1
    have C2 := Lib.hid c2; clear c2
    have hz : ((p.size : Int) != 256) = false := by simp; omega
    have hz2 : 252 ≤ (p.size : Int) := by omega
    clear h
    by_cases hNM : N = M
    · subst hNM
      simp only [if_true]
      have hu := Up.refl w
      go_enter Try.func88, Try.ntmps88
      go_wp2_with (first
        | (with_reducible refine (C1.out _).mono ?_; rintro e w1 ⟨rfl, rfl⟩)
        | (with_reducible refine (C2.out _).mono ?_; rintro e w1 ⟨rfl, hw1⟩; replace hu := hu.next hw1; clear hw1))
      go_ret2
      exact ⟨rfl, hu⟩
    · rw [if_neg hNM, if_neg hNM]
      have hd : ((N : Int) != (M : Int)) = true := by simp; omega
      clear hNM
      have hu := Up.refl w
      go_enter Try.func88, Try.ntmps88
      go_wp2_with (first
        | (with_reducible refine (C1.out _).mono ?_; rintro e w1 ⟨rfl, rfl⟩)
        | (with_reducible refine (C2.out _).mono ?_; rintro e w1 ⟨rfl, hw1⟩; replace hu := hu.next hw1; clear hw1))
      go_ret2
      exact ⟨rfl, hu⟩
  · have hE : openE p = 4 := by rw [openE, if_neg h]
    rw [show openS p = ByteArray.empty by simp [openS, hE], hE]
    have hz : ((p.size : Int) != 256) = true := by simp; omega
    clear h hE
    go_enter Try.func88, Try.ntmps88
    go_wp2_with fail
    go_ret2
    exact ⟨rfl, Below.refl _ _⟩

set_option maxHeartbeats 2000000 in
theorem ref2_Seal (s : ByteArray) (w : World) (hs : s.size ≤ 1099511627776) :
    Calls Try.prog 36 #[.string s] w fun e w' => e = .returned (.tuple #[.string (sealS s), .int .i64 (sealE s)]) ∧ Below w.heap.size w w' := by
  by_cases h : 252 < s.size
  · rw [show sealS s = ByteArray.empty by simp [sealS, h], show sealE s = 2 by simp [sealE, h]]
    go_enter Try.func36, Try.ntmps36
    go_wp2_with fail
    go_ret2
    exact ⟨rfl, Below.refl _ _⟩
  · have hz := wholeS_size (s := s) (by omega)
    have hc := crcOf_lt (wholeS s)
    have c1 := fun w => ref1_Pad s (252 : Nat) w (by omega)
    rw [padE_of (by omega) (by omega), wholeS_pad (by omega)] at c1
    have c3 := fun w => ref2_Of (wholeS s) w (by omega)
    have hpe : putE ⟨#[32, 32, 32, 32]⟩ (0 : Nat) (4 : Nat) (crcOf (wholeS s) : Nat) = 0 := by
      have : roomE ⟨#[32, 32, 32, 32]⟩ (0 : Nat) (4 : Nat) = 0 := by decide +kernel
      simp only [putE, this, if_true, Int.toNat_natCast]
      rw [if_neg (by omega)]
    have hps : putS ⟨#[32, 32, 32, 32]⟩ (0 : Nat) (4 : Nat) (crcOf (wholeS s) : Nat) = str (toLE (crcOf (wholeS s)) 4) := by
      apply lst_inj
      rw [(size_putS _ _ _ _ hpe).2.2.2.2.2, lst_str]
      rw [List.drop_eq_nil_of_le (by rw [lst_length]; exact Nat.le_refl _)]; simp
    have c4 := fun w => ref1_Put ⟨#[32, 32, 32, 32]⟩ (0 : Nat) (4 : Nat) (crcOf (wholeS s) : Nat) w (by decide +kernel) (by omega) (by omega)
    rw [hpe, hps] at c4
    have hR : sealS s = wholeS s ++ str (toLE (crcOf (wholeS s)) 4) := by
      rw [sealS, if_neg h, ← str_append, str_lst]
    rw [show sealE s = 0 by simp [sealE, h], hR]
    have hq : (str (toLE (crcOf (wholeS s)) 4)).size ≤ 4 := by rw [size_str, toLE_length]; exact Nat.le_refl _
    clear hR hpe hps
    generalize str (toLE (crcOf (wholeS s)) 4) = X at *
    generalize crcOf (wholeS s) = N at *
    have hz2 : (wholeS s).size ≤ 252 := by omega
    clear hz
    generalize wholeS s = W at *
    rw [show ((252 : Nat) : Int) = 252 from rfl] at c1
    rw [show ((4 : Nat) : Int) = 4 from rfl, show ((0 : Nat) : Int) = 0 from rfl] at c4
    have C1 := Lib.hid c1; clear c1
    have C3 := Lib.hid c3; clear c3
    have C4 := Lib.hid c4; clear c4
    have hu := Up.refl w
    go_enter Try.func36, Try.ntmps36
    go_wp2_with (first
      | (with_reducible refine (C1.out _).mono ?_; rintro e w1 ⟨rfl, hw1⟩; replace hu := hu.next hw1; clear hw1)
      | (with_reducible refine (C3.out _).mono ?_; rintro e w1 ⟨rfl, rfl⟩)
      | (with_reducible refine (C4.out _).mono ?_; rintro e w1 ⟨rfl, hw1⟩; replace hu := hu.next hw1; clear hw1))
    go_ret2
    exact ⟨rfl, hu⟩

theorem openE_seal {p : ByteArray} (h : p.size = 256) : openE p = if sealS (p.extract 0 252) = p then 0 else 5 := by
  rw [openE, if_pos h]
  by_cases hh : sealS (p.extract 0 252) = p
  · rw [if_pos hh, if_pos ((seal_open h).1 hh)]
  · rw [if_neg hh, if_neg (fun h2 => hh ((seal_open h).2 h2))]

set_option maxHeartbeats 2000000 in
theorem ref2_Open (p : ByteArray) (w : World) (hs : p.size ≤ 1099511627776) :
    Calls Try.prog 90 #[.string p] w fun e w' => e = .returned (.tuple #[.string (openS p), .int .i64 (openE p)]) ∧ Below w.heap.size w w' := by
  by_cases h : p.size = 256
  · have c1 := fun w => ref2_Seal (p.extract 0 252) w (by simp; omega)
    rw [show sealE (p.extract 0 252) = 0 by simp [sealE]; omega] at c1
    have hE := openE_seal h
    have hz : ((p.size : Int) != 256) = false := by simp; omega
    have hz2 : 252 ≤ (p.size : Int) := by omega
    clear h
    have hu := Up.refl w
    by_cases hh : sealS (p.extract 0 252) = p
    · rw [if_pos hh] at hE
      rw [hh] at c1
      rw [show openS p = p.extract 0 252 by simp [openS, hE], hE]
      clear hh hE
      have C1 := Lib.hid c1; clear c1
      go_enter Try.func90, Try.ntmps90
      go_wp2_with (with_reducible refine (C1.out _).mono ?_; rintro e w1 ⟨rfl, hw1⟩; replace hu := hu.next hw1; clear hw1)
      go_ret2
      exact ⟨rfl, hu⟩
    · rw [if_neg hh] at hE
      rw [show openS p = ByteArray.empty by simp [openS, hE], hE]
      have hne : ((sealS (p.extract 0 252)).toList == p.toList) = false := by
        rw [toList_lst, toList_lst]
        simp only [beq_eq_false_iff_ne, ne_eq]
        exact fun h2 => hh (lst_inj h2)
      clear hh hE
      generalize sealS (p.extract 0 252) = X at *
      have C1 := Lib.hid c1; clear c1
      go_enter Try.func90, Try.ntmps90
      go_wp2_with (with_reducible refine (C1.out _).mono ?_; rintro e w1 ⟨rfl, hw1⟩; replace hu := hu.next hw1; clear hw1)
      go_ret2
      exact ⟨rfl, hu⟩
  · have hE : openE p = 4 := by rw [openE, if_neg h]
    rw [show openS p = ByteArray.empty by simp [openS, hE], hE]
    have hz : ((p.size : Int) != 256) = true := by simp; omega
    clear h hE
    go_enter Try.func90, Try.ntmps90
    go_wp2_with fail
    go_ret2
    exact ⟨rfl, Below.refl _ _⟩

set_option maxHeartbeats 2000000 in
theorem ref2_Torn (a b : ByteArray) (w : World) (ha : a.size ≤ 1099511627776) (hb : b.size ≤ 1099511627776) :
    Calls Try.prog 55 #[.string a, .string b] w fun e w' => e = .returned (.string (tornS a b)) ∧ w = w' := by
  have e1 : a.size ≤ 128 → a.extract 0 (min 128 a.size) = a := fun h => by rw [Nat.min_eq_right h]; simp
  have e2 : b.size ≤ 128 → b.extract (min 128 b.size) b.size = ByteArray.empty := fun h => by rw [Nat.min_eq_right h]; simp
  by_cases h1 : a.size ≤ 128
  · by_cases h2 : b.size ≤ 128
    · have hR : tornS a b = a := by rw [tornS, e1 h1, e2 h2]; simp
      rw [hR]; clear hR e1 e2
      go_enter Try.func55, Try.ntmps55
      go_wp2
      go_ret
      exact ⟨rfl, rfl⟩
    · have hR : tornS a b = a ++ b.extract 128 b.size := by rw [tornS, e1 h1, Nat.min_eq_left (by omega)]
      rw [hR]; clear hR e1 e2
      go_enter Try.func55, Try.ntmps55
      go_wp2
      go_ret
      exact ⟨rfl, rfl⟩
  · by_cases h2 : b.size ≤ 128
    · have hR : tornS a b = a.extract 0 128 := by rw [tornS, e2 h2, Nat.min_eq_left (by omega)]; simp
      rw [hR]; clear hR e1 e2
      go_enter Try.func55, Try.ntmps55
      go_wp2
      go_ret
      exact ⟨rfl, rfl⟩
    · have hR : tornS a b = a.extract 0 128 ++ b.extract 128 b.size := by rw [tornS, Nat.min_eq_left (by omega), Nat.min_eq_left (by omega)]
      rw [hR]; clear hR e1 e2
      go_enter Try.func55, Try.ntmps55
      go_wp2
      go_ret
      exact ⟨rfl, rfl⟩
end Go.Proofs.Ytokpkkjgagbpfaa
