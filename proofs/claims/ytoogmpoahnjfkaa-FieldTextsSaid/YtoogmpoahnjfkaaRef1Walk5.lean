import Derived.Test.YtoogmpoahnjfkaaRef1Walk4
namespace Go.Proofs.Ytoogmpoahnjfkaa
open Go.RowKit Bw
set_option linter.unusedVariables false

set_option maxHeartbeats 400000 in
theorem ref1_PutText (s : ByteArray) (i : Int) (t : ByteArray) (w : World) (hs : s.size ≤ 1099511627776) (ht : t.size ≤ 1099511627776) :
    Calls Try.prog 18 #[.string s, .int .i64 i, .string t] w fun e w' =>
      e = .returned (.tuple #[.string (ptS s i t), .int .i64 (ptTo s i t), .int .i64 (ptE s i t)]) ∧ Below w.heap.size w w' := by
  by_cases h0 : i < 0
  · have E : ptE s i t = 1 := by simp [ptE, h0]
    rw [show ptS s i t = ByteArray.empty by simp [ptS, E], show ptTo s i t = 0 by simp [ptTo, E], E]
    clear E
    go_enter Try.func18, Try.ntmps18
    go_wp2
    go_ret3
    exact ⟨rfl, Below.refl _ _⟩
  by_cases h1 : (s.size : Int) < i
  · have E : ptE s i t = 1 := by simp [ptE, h1]
    rw [show ptS s i t = ByteArray.empty by simp [ptS, E], show ptTo s i t = 0 by simp [ptTo, E], E]
    clear E
    go_enter Try.func18, Try.ntmps18
    go_wp2
    go_ret3
    exact ⟨rfl, Below.refl _ _⟩
  obtain ⟨i, rfl⟩ := Int.eq_ofNat_of_zero_le (show 0 ≤ i by omega)
  by_cases h3 : 255 < t.size
  · have E : ptE s i t = 2 := by simp only [ptE]; rw [if_neg (by omega), if_pos h3]
    rw [show ptS s i t = ByteArray.empty by simp [ptS, E], show ptTo s i t = 0 by simp [ptTo, E], E]
    clear E
    go_enter Try.func18, Try.ntmps18
    go_wp2
    go_ret3
    exact ⟨rfl, Below.refl _ _⟩
  by_cases h4 : (s.size : Int) < i + 1 + t.size
  · have E : ptE s i t = 3 := by simp only [ptE]; rw [if_neg (by omega), if_neg h3, if_pos (by omega)]
    rw [show ptS s i t = ByteArray.empty by simp [ptS, E], show ptTo s i t = 0 by simp [ptTo, E], E]
    clear E
    go_enter Try.func18, Try.ntmps18
    go_wp2
    go_ret3
    exact ⟨rfl, Below.refl _ _⟩
  have E : ptE s i t = 0 := by simp only [ptE]; rw [if_neg (by omega), if_neg h3, if_neg (by omega)]
  have e1 : ptS s i t = s.extract 0 i ++ str [UInt8.ofNat ((t.size : Int) % 256).toNat] ++ t ++ s.extract (i + 1 + t.size) s.size := by
    simp only [ptS, E, if_true, Int.toNat_natCast]
    apply lst_inj
    simp only [lst_append, lst_str, extract_str, List.drop_zero, Nat.sub_zero]
    rw [List.take_of_length_le (l := List.drop _ _) (by simp [lst_length]), show i + 1 + t.size = i + t.size + 1 by omega, show ((t.size : Int) % 256).toNat = t.size by omega]
    simp
  have e2 : ptTo s i t = (i : Int) + 1 + t.size := by simp only [ptTo, E, if_true]; omega
  rw [e1, e2, E]
  clear e1 e2 E
  have hcv := conv_plain (t.size : Int) (by omega) (by omega)
  have hY : (str [UInt8.ofNat ((t.size : Int) % 256).toNat]).size ≤ 1 := Nat.le_refl _
  generalize str [UInt8.ofNat ((t.size : Int) % 256).toNat] = Y at *
  go_enter Try.func18, Try.ntmps18
  go_wp2
  have e2 : ((i : Int) + 1 + (t.size : Int)).toNat = i + 1 + t.size := by omega
  have e3 : (0 : Int) ≤ (i : Int) + 1 + (t.size : Int) := by omega
  have e4 : (i : Int) + 1 + (t.size : Int) ≤ (s.size : Int) := by omega
  have e5 : (0 : Int) ≤ (i : Int) := by omega
  have e6 : (i : Int) ≤ (s.size : Int) := by omega
  have e7 : (s.extract 0 i).size ≤ 1099511627776 := by simp; omega
  have e8 : (s.extract (i + 1 + t.size) s.size).size ≤ 1099511627776 := by simp; omega
  go_region
  clear e2 e3 e4 e5 e6 e7 e8
  go_wp2
  go_ret3
  exact ⟨rfl, (((Below.refl _ w).alloc (Nat.le_refl _) _).drew)⟩
end Go.Proofs.Ytoogmpoahnjfkaa
