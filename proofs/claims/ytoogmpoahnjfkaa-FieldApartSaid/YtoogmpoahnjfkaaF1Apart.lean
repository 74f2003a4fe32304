import Derived.Test.YtoogmpoahnjfkaaField1Fixed
import Derived.Test.YtoogmpoahnjfkaaFieldFacts
import Derived.OpenShut
import Derived.Test.YtoogmpoahnjfkaaRegionLaw
namespace Go.Proofs.Ytoogmpoahnjfkaa
open Go.RowKit Bw
set_option linter.unusedVariables false

theorem putE8 (s : ByteArray) (i n : Nat) (h : i + 8 ≤ s.size) (hn : n < 18446744073709551616) : putE s i (8 : Nat) n = 0 := by
  simp only [putE, roomE_of (show 1 ≤ 8 by omega) (Nat.le_refl 8) h, if_true, Int.toNat_natCast]
  rw [if_neg (by omega)]

/-- Two places that do not meet. -/
theorem put_apart (s : ByteArray) (i j n m : Nat) (hij : i + 8 ≤ j) (hj : j + 8 ≤ s.size) (hn : n < 18446744073709551616) (hm : m < 18446744073709551616) :
    putS (putS s i (8 : Nat) n) j (8 : Nat) m = putS (putS s j (8 : Nat) m) i (8 : Nat) n := by
  have a1 := size_putS s i 8 n (putE8 s i n (by omega) hn)
  have a2 := size_putS s j 8 m (putE8 s j m (by omega) hm)
  have b1 := size_putS (putS s i (8 : Nat) n) j 8 m (putE8 _ j m (by omega) hm)
  have b2 := size_putS (putS s j (8 : Nat) m) i 8 n (putE8 _ i n (by omega) hn)
  apply lst_inj
  rw [b1.2.2.2.2.2, b2.2.2.2.2.2, a1.2.2.2.2.2, a2.2.2.2.2.2]
  have hl := lst_length s
  generalize lst s = l at *
  have l1 := toLE_length n 8
  have l2 := toLE_length m 8
  generalize toLE n 8 = x at *
  generalize toLE m 8 = y at *
  have e1 : (l.take i ++ x ++ l.drop (i + 8)).take j = l.take i ++ x ++ (l.drop (i + 8)).take (j - (i + 8)) := by
    rw [List.take_append]
    simp only [List.length_append, List.length_take, l1]
    rw [List.take_of_length_le (by simp [l1]; omega), show min i l.length = i by omega]
  have e2 : (l.take i ++ x ++ l.drop (i + 8)).drop (j + 8) = l.drop (j + 8) := by
    rw [List.drop_append]
    simp only [List.length_append, List.length_take, l1, List.drop_drop]
    rw [List.drop_eq_nil_of_le (by simp [l1]; omega)]
    simp only [List.nil_append]
    congr 1; omega
  have e3 : (l.take j ++ y ++ l.drop (j + 8)).take i = l.take i := by
    rw [List.append_assoc, List.take_append_of_le_length (by simp; omega), List.take_take, Nat.min_eq_left (by omega)]
  have e4 : (l.take j ++ y ++ l.drop (j + 8)).drop (i + 8) = (l.drop (i + 8)).take (j - (i + 8)) ++ y ++ l.drop (j + 8) := by
    rw [List.append_assoc, List.drop_append_of_le_length (by simp; omega), List.drop_take, List.append_assoc]
  rw [e1, e2, e3, e4]
  simp

set_option maxHeartbeats 2000000 in
set_option maxRecDepth 100000 in
theorem apart_walk (s : ByteArray) (a b : Int) (n m : Nat) (w : World) (hs : s.size ≤ maxLen) (ha : 0 ≤ a) (ha2 : a ≤ 255) (hn : n < 18446744073709551616) (hm : m < 18446744073709551616) :
    Calls Try.prog 8 #[.string s, .agg #[.int .u8 a, .int .u8 b], .agg #[.int .u64 n, .int .u64 m]] w fun e w' => e = .returned (.bool true) ∧ Below w.heap.size w w' := by
  unfold maxLen at hs
  have hu := Up.refl w
  have Hn := Lib.hid hn
  have Hm := Lib.hid hm
  clear hn hm
  go_enter Try.func8, Try.ntmps8
  go_upto_region 1 with fail
  go_cut [0] (fun v wx => ∃ x : ByteArray, 16 ≤ x.size ∧ x.size ≤ 316 ∧ v = .string x ∧ (w.alloc (.cells #[.int .u8 a, .int .u8 b] 41)).alloc (.cells #[.int .u64 n, .int .u64 m] 42) = wx)
  case first =>
    go_wp2_with fail
    · go_meet
      exact ⟨s.extract 0 300 ++ ⟨#[48, 49, 50, 51, 52, 53, 54, 55, 56, 57, 97, 98, 99, 100, 101, 102]⟩, by rw [ByteArray.size_append]; show 16 ≤ _ + 16; omega, by rw [ByteArray.size_append]; show _ + 16 ≤ 316; simp; omega, rfl, rfl⟩
    · go_meet
      exact ⟨s ++ ⟨#[48, 49, 50, 51, 52, 53, 54, 55, 56, 57, 97, 98, 99, 100, 101, 102]⟩, by rw [ByteArray.size_append]; show 16 ≤ _ + 16; omega, by rw [ByteArray.size_append]; show _ + 16 ≤ 316; omega, rfl, rfl⟩
  case rest =>
    obtain ⟨x, hz0, hz, rfl, hwc⟩ := hcut
    clear hs
    have hmod : 0 ≤ a % ((x.size : Int) - 15) ∧ a % ((x.size : Int) - 15) < (x.size : Int) - 15 := ⟨Int.emod_nonneg _ (by omega), Int.emod_lt_of_pos _ (by omega)⟩
    obtain ⟨i, hi⟩ : ∃ i : Nat, a % ((x.size : Int) - 15) = i := ⟨(a % ((x.size : Int) - 15)).toNat, by omega⟩
    have hi2 : i + 16 ≤ x.size := by omega
    clear hmod
    obtain ⟨j, hj⟩ : ∃ j : Nat, x.size = j + 8 := ⟨x.size - 8, by omega⟩
    have hj2 : (x.size : Int) - 8 = j := by omega
    have e1 := putE8 x i n (by omega) Hn.out
    have e2 := putE8 x j m (by omega) Hm.out
    have z1 := (size_putS x i 8 n e1).1
    have z2 := (size_putS x j 8 m e2).1
    have e3 := putE8 (putS x i (8 : Nat) n) j m (by omega) Hm.out
    have e4 := putE8 (putS x j (8 : Nat) m) i n (by omega) Hn.out
    have c1 := fun w => field_Put x i (8 : Nat) n w (by omega) (by omega) (by have := Hn.out; omega)
    have c2 := fun w => field_Put (putS x i (8 : Nat) n) j (8 : Nat) m w (by omega) (by omega) (by have := Hm.out; omega)
    have c3 := fun w => field_Put x j (8 : Nat) m w (by omega) (by omega) (by have := Hm.out; omega)
    have c4 := fun w => field_Put (putS x j (8 : Nat) m) i (8 : Nat) n w (by omega) (by omega) (by have := Hn.out; omega)
    rw [e1] at c1
    rw [e3, put_apart x i j n m (by omega) (by omega) Hn.out Hm.out] at c2
    rw [e2] at c3
    rw [e4] at c4
    clear e1 e2 e3 e4 z1 z2
    generalize putS (putS x j (8 : Nat) m) i (8 : Nat) n = Z at *
    generalize putS x i (8 : Nat) n = X at *
    generalize putS x j (8 : Nat) m = Y at *
    rw [show ((8 : Nat) : Int) = 8 from rfl] at c1 c2 c3 c4
    have C1 := Lib.hid c1; clear c1
    have C2 := Lib.hid c2; clear c2
    have C3 := Lib.hid c3; clear c3
    have C4 := Lib.hid c4; clear c4
    have C5 := Lib.hid law1_fixed
    have h16 : 16 ≤ (x.size : Int) := by omega
    have hb : i ≤ j := by omega
    clear hj hi2 hz0
    replace hu := (hu.alloc (.cells #[.int .u8 a, .int .u8 b] 41)).alloc (.cells #[.int .u64 n, .int .u64 m] 42)
    have k1 : wc.cell? ⟨w.heap.size, 0, none⟩ = some (.int .u8 a) := by rw [← hwc]; simp [go_sem]
    have k2 : wc.cell? ⟨w.heap.size + 1, 0, none⟩ = some (.int .u64 n) := by rw [← hwc]; simp [go_sem]
    have k3 : wc.cell? ⟨w.heap.size + 1, 1, none⟩ = some (.int .u64 m) := by rw [← hwc]; simp [go_sem]
    have hz0 : w.heap.size < wc.heap.size := by rw [← hwc]; simp; omega
    have hz1 : w.heap.size + 1 < wc.heap.size := by rw [← hwc]; simp
    rw [hwc] at hu
    clear hwc
    go_wp2_with (first
      | (with_reducible refine (C1.out _).mono ?_; rintro e w1 ⟨rfl, hw1⟩; replace k1 := (hw1.cell (p := ⟨w.heap.size, 0, none⟩) hz0).trans k1; replace k2 := (hw1.cell (p := ⟨w.heap.size + 1, 0, none⟩) hz1).trans k2; replace k3 := (hw1.cell (p := ⟨w.heap.size + 1, 1, none⟩) hz1).trans k3; replace hz0 := Nat.lt_of_lt_of_le hz0 hw1.size; replace hz1 := Nat.lt_of_lt_of_le hz1 hw1.size; replace hu := hu.next hw1; clear hw1)
      | (with_reducible refine (C2.out _).mono ?_; rintro e w1 ⟨rfl, hw1⟩; replace k1 := (hw1.cell (p := ⟨w.heap.size, 0, none⟩) hz0).trans k1; replace k2 := (hw1.cell (p := ⟨w.heap.size + 1, 0, none⟩) hz1).trans k2; replace k3 := (hw1.cell (p := ⟨w.heap.size + 1, 1, none⟩) hz1).trans k3; replace hz0 := Nat.lt_of_lt_of_le hz0 hw1.size; replace hz1 := Nat.lt_of_lt_of_le hz1 hw1.size; replace hu := hu.next hw1; clear hw1)
      | (with_reducible refine (C3.out _).mono ?_; rintro e w1 ⟨rfl, hw1⟩; replace k1 := (hw1.cell (p := ⟨w.heap.size, 0, none⟩) hz0).trans k1; replace k2 := (hw1.cell (p := ⟨w.heap.size + 1, 0, none⟩) hz1).trans k2; replace k3 := (hw1.cell (p := ⟨w.heap.size + 1, 1, none⟩) hz1).trans k3; replace hz0 := Nat.lt_of_lt_of_le hz0 hw1.size; replace hz1 := Nat.lt_of_lt_of_le hz1 hw1.size; replace hu := hu.next hw1; clear hw1)
      | (with_reducible refine (C4.out _).mono ?_; rintro e w1 ⟨rfl, hw1⟩; replace k1 := (hw1.cell (p := ⟨w.heap.size, 0, none⟩) hz0).trans k1; replace k2 := (hw1.cell (p := ⟨w.heap.size + 1, 0, none⟩) hz1).trans k2; replace k3 := (hw1.cell (p := ⟨w.heap.size + 1, 1, none⟩) hz1).trans k3; replace hz0 := Nat.lt_of_lt_of_le hz0 hw1.size; replace hz1 := Nat.lt_of_lt_of_le hz1 hw1.size; replace hu := hu.next hw1; clear hw1)
      | (with_reducible refine (C5.out _).mono ?_; rintro e w1 ⟨rfl, hw1⟩; replace hu := hu.next hw1; clear hw1))
    go_ret
    exact ⟨rfl, hu⟩

theorem apart_law (s : ByteArray) (hs : s.size ≤ maxLen) (a b : Int) (wab : (Lit.int .u8 a).wf = true ∧ (Lit.int .u8 b).wf = true) (n m : Int) (wnm : (Lit.int .u64 n).wf = true ∧ (Lit.int .u64 m).wf = true) (w : World) :
    Calls Try.prog 8 #[.string s, .agg #[.int .u8 a, .int .u8 b], .agg #[.int .u64 n, .int .u64 m]] w fun e w' => e = .returned (.bool true) ∧ Below w.heap.size w w' := by
  have h1 := bounds_u8 wab.1
  have h2 := bounds_u64 wnm.1
  have h3 := bounds_u64 wnm.2
  obtain ⟨n, rfl⟩ := Int.eq_ofNat_of_zero_le h2.1
  obtain ⟨m, rfl⟩ := Int.eq_ofNat_of_zero_le h3.1
  exact apart_walk s a b n m w hs (by omega) (by omega) (by omega) (by omega)
end Go.Proofs.Ytoogmpoahnjfkaa
