import Derived.Test.YtkkgcmnipdkeeaaDoorFieldWalkA
import Derived.Deep.RegionWith
namespace Go.Proofs.YtkkgcmnipdkeeaaDoor
open Go.RowKit Bw
set_option linter.unusedVariables false

/-- One byte more, from behind. -/
theorem ref_get_step (s : ByteArray) (i j k : Nat) (hk : k ≤ 8) (hj : j < k) (h : i + j < s.size) (hik : i + k ≤ s.size) :
    Bw.le ((((Bw.lst s).drop i).take k).drop j) = s[i + j].toNat + 256 * Bw.le ((((Bw.lst s).drop i).take k).drop (j + 1)) ∧ Bw.le ((((Bw.lst s).drop i).take k).drop j) < 18446744073709551616 := by
  have hl : (((Bw.lst s).drop i).take k).length = k := by simp [Bw.lst_length]; omega
  constructor
  · have e : (((Bw.lst s).drop i).take k)[j]'(by omega) = s[i + j] := by
      rw [List.getElem_take, List.getElem_drop, Bw.lst_getElem]
    rw [List.drop_eq_getElem_cons (by omega), Bw.le, e]
  · have h1 := Bw.le_lt ((((Bw.lst s).drop i).take k).drop j)
    have h2 : ((((Bw.lst s).drop i).take k).drop j).length ≤ 8 := by rw [List.length_drop, hl]; omega
    have h3 : (256 : Nat) ^ ((((Bw.lst s).drop i).take k).drop j).length ≤ 256 ^ 8 := Nat.pow_le_pow_right (by omega) h2
    omega


end Go.Proofs.YtkkgcmnipdkeeaaDoor
namespace Go.Proofs.YtkkgcmnipdkeeaaDoor
open Go.RowKit Bw
set_option linter.unusedVariables false

theorem bcell {W w1 : World} (hb : Below W.heap.size W w1) : (∀ b o, b < W.heap.size → w1.cell? ⟨b, o, none⟩ = W.cell? ⟨b, o, none⟩) ∧ (∀ b o, b < W.heap.size → w1.frozen? ⟨b, o, none⟩ = W.frozen? ⟨b, o, none⟩) :=
  ⟨fun b o h => hb.cell (p := ⟨b, o, none⟩) h, fun b o h => hb.frozen (p := ⟨b, o, none⟩) h⟩

theorem conv_one (x : Int) (g : Nat) (w : World) (hc : w.cell? ⟨g, 0, none⟩ = some (.int .u8 (IntKind.u8.wrap x))) :
    (convert 44 9 (.slice (some ⟨g, 0, none⟩) 1 1)).run Tryd.prog w = .ok (.string (str [UInt8.ofNat (x % 256).toNat])) w := by
  have := run_convert_bytes_back (P := Tryd.prog) w 44 9 5 ⟨g, 0, none⟩ 1 [UInt8.ofNat (x % 256).toNat] Tryd.underlying44 Tryd.underlying5 Tryd.underlying9 (fun j hj => by
    have hj0 : j = 0 := by simpa using hj
    subst hj0
    have e : (UInt8.ofNat (x % 256).toNat).toNat = (x % 256).toNat % 256 := UInt8.toNat_ofNat'
    rw [add_none, hc, IntKind.wrap_u8]
    simp only [List.getElem_cons_zero, e]
    congr 2; omega)
  exact this

theorem conv_plain (x : Int) (h0 : 0 ≤ x) (h1 : x < 256) (g : Nat) (w : World) (hc : w.cell? ⟨g, 0, none⟩ = some (.int .u8 x)) :
    (convert 44 9 (.slice (some ⟨g, 0, none⟩) 1 1)).run Tryd.prog w = .ok (.string (str [UInt8.ofNat (x % 256).toNat])) w :=
  conv_one x g w (by rw [hc, IntKind.wrap_u8]; congr 2; omega)

end Go.Proofs.YtkkgcmnipdkeeaaDoor
namespace Go.Proofs.YtkkgcmnipdkeeaaDoor
open Go.RowKit Bw
set_option linter.unusedVariables false

theorem div_step (n j : Nat) : n / 256 ^ j / 256 = n / 256 ^ (j + 1) := by rw [Nat.div_div_eq_div_mul, Nat.pow_succ]


end Go.Proofs.YtkkgcmnipdkeeaaDoor
namespace Go.Proofs.YtkkgcmnipdkeeaaDoor
open Go.RowKit Bw
set_option linter.unusedVariables false

set_option maxHeartbeats 400000 in
theorem ref1_Text (s : ByteArray) (i : Int) (w : World) (hs : s.size ≤ 1099511627776) :
    Calls Tryd.prog 47 #[.string s, .int .i64 i] w fun e w' =>
      e = .returned (.tuple #[.string (textS s i), .int .i64 (textTo s i), .int .i64 (textE s i)]) ∧ w = w' := by
  by_cases h0 : i < 0
  · have E : textE s i = 1 := by simp [textE, h0]
    rw [show textS s i = ByteArray.empty by simp [textS, E], show textTo s i = 0 by simp [textTo, E], E]
    clear E
    go_enter Tryd.func47, Tryd.ntmps47
    go_wp2
    go_ret3
    exact ⟨rfl, rfl⟩
  by_cases h1 : (s.size : Int) < i
  · have E : textE s i = 1 := by simp [textE, h1]
    rw [show textS s i = ByteArray.empty by simp [textS, E], show textTo s i = 0 by simp [textTo, E], E]
    clear E
    go_enter Tryd.func47, Tryd.ntmps47
    go_wp2
    go_ret3
    exact ⟨rfl, rfl⟩
  obtain ⟨i, rfl⟩ := Int.eq_ofNat_of_zero_le (show 0 ≤ i by omega)
  by_cases h3 : i = s.size
  · have E : textE s i = 3 := by simp [textE]; omega
    rw [show textS s i = ByteArray.empty by simp [textS, E], show textTo s i = 0 by simp [textTo, E], E]
    clear E
    have h3' : ((i : Int) == (s.size : Int)) = true := by simp; omega
    clear h3
    go_enter Tryd.func47, Tryd.ntmps47
    go_wp2
    go_ret3
    exact ⟨rfl, rfl⟩
  have h4 : i < s.size := by omega
  have h3' : ((i : Int) == (s.size : Int)) = false := by simp; omega
  clear h3
  have hD := getD_at s i h4
  have hb : s[i].toNat < 256 := s[i].toNat_lt
  by_cases h5 : (s.size : Int) < i + 1 + (s[i].toNat : Int)
  · have E : textE s i = 3 := by simp only [textE, Int.toNat_natCast, hD]; rw [if_neg (by omega), if_pos (by omega)]
    rw [show textS s i = ByteArray.empty by simp [textS, E], show textTo s i = 0 by simp [textTo, E], E]
    clear E hD
    go_enter Tryd.func47, Tryd.ntmps47
    go_wp2
    go_ret3
    exact ⟨rfl, rfl⟩
  · have E : textE s i = 0 := by simp only [textE, Int.toNat_natCast, hD]; rw [if_neg (by omega), if_neg (by omega)]
    have e1 : textS s i = s.extract (i + 1) (i + 1 + s[i].toNat) := by
      simp only [textS, E, if_true, Int.toNat_natCast, hD]
      rw [extract_str]; congr 2; omega
    have e2 : textTo s i = (i : Int) + 1 + (s[i].toNat : Int) := by simp only [textTo, E, if_true, Int.toNat_natCast, hD]
    rw [e1, e2, E]
    clear e1 e2 E hD
    go_enter Tryd.func47, Tryd.ntmps47
    go_wp2
    go_ret3
    exact ⟨rfl, rfl⟩


/-- The bytes without their last one, which is 0. -/
theorem bare_less (s : ByteArray) (n : Nat) (h : s.size = n + 1) (hz : s[n] = 0) : bareS s = bareS (s.extract 0 n) := by
  have := bare_step s n (by omega) (by rw [List.take_of_length_le (by rw [lst_length]; omega)]) hz
  rw [bareS, bareS, extract_str, lst_str, this]
  simp

theorem bare_same (s : ByteArray) (n : Nat) (h : s.size = n + 1) (hz : s[n] ≠ 0) : bareS s = s := by
  rw [bare_stop s (n + 1) (by omega) (by rw [List.take_of_length_le (by rw [lst_length]; omega)]) (.inr ⟨by omega, by omega, hz⟩), ← h]
  simp

theorem bare_empty (s : ByteArray) (h : s.size = 0) : bareS s = s := by
  have : lst s = [] := List.eq_nil_of_length_eq_zero (by rw [lst_length, h])
  rw [bareS, this]; apply lst_inj; rw [lst_str, this]; rfl

theorem toList_lst (s : ByteArray) : s.toList = lst s := ByteArray.toList_eq s


end Go.Proofs.YtkkgcmnipdkeeaaDoor
