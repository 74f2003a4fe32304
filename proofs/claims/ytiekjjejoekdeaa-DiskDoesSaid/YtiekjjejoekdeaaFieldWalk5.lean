import Derived.Test.YtiekjjejoekdeaaFieldWalk4
namespace Go.Proofs.Ytiekjjejoekdeaa
open Go.RowKit Bw
set_option linter.unusedVariables false

theorem getD_at (s : ByteArray) (i : Nat) (h : i < s.size) : (lst s).getD i 0 = s[i] := by
  rw [lst_getElem s i h, List.getD_eq_getElem?_getD, List.getElem?_eq_getElem (by rw [lst_length]; exact h)]; rfl

theorem extract_str (s : ByteArray) (i j : Nat) : s.extract i j = str (((lst s).drop i).take (j - i)) := by
  have := ByteArray.extract_mk (lst s) i j
  have e : (ByteArray.mk (lst s).toArray) = s := str_lst s
  rw [e] at this
  exact this


set_option maxHeartbeats 400000 in
theorem field_Pad (s : ByteArray) (n : Int) (w : World) (hs : s.size ≤ 1099511627776) :
    Calls Try.prog 46 #[.string s, .int .i64 n] w fun e w' =>
      e = .returned (.tuple #[.string (padS s n), .int .i64 (padE s n)]) ∧ Below w.heap.size w w' := by
  by_cases h0 : n < 0
  · have E : padE s n = 1 := by simp [padE, h0]
    rw [show padS s n = ByteArray.empty by simp [padS, E], E]
    clear E
    go_enter Try.func46, Try.ntmps46
    go_wp2
    go_ret2
    exact ⟨rfl, Below.refl _ _⟩
  by_cases h1 : 65536 < n
  · have E : padE s n = 1 := by simp [padE, h1]
    rw [show padS s n = ByteArray.empty by simp [padS, E], E]
    clear E
    go_enter Try.func46, Try.ntmps46
    go_wp2
    go_ret2
    exact ⟨rfl, Below.refl _ _⟩
  by_cases h2 : n < s.size
  · have E : padE s n = 2 := by simp [padE, h2]; omega
    rw [show padS s n = ByteArray.empty by simp [padS, E], E]
    clear E
    go_enter Try.func46, Try.ntmps46
    go_wp2
    go_ret2
    exact ⟨rfl, Below.refl _ _⟩
  obtain ⟨n, rfl⟩ := Int.eq_ofNat_of_zero_le (show 0 ≤ n by omega)
  have E : padE s n = 0 := by simp [padE]; omega
  have e1 : padS s n = str (lst s ++ List.replicate (n - s.size) 0) := by simp [padS, E]
  rw [e1, E]
  clear e1 E
  obtain ⟨m, hm⟩ : ∃ m, n = s.size + m := ⟨n - s.size, by omega⟩
  subst hm
  have e : s ++ str (List.replicate m 0) = str (lst s ++ List.replicate (s.size + m - s.size) 0) := by
    rw [show s.size + m - s.size = m by omega]
    apply lst_inj
    simp [lst, str]
  rw [← e]
  clear e
  have hz : (str (List.replicate m 0)).size = m := by rw [size_str, List.length_replicate]
  have HZ := Lib.hid hz; clear hz
  have hsz2 : (str (List.replicate m 0)).size ≤ 65536 := by have := HZ.out; omega
  generalize hX : str (List.replicate m 0) = X at *
  have HX := Lib.hid hX; clear hX
  go_enter Try.func46, Try.ntmps46
  go_wp2_with (first
    | (with_reducible refine wpList_makeBytes rfl _ _ 72 5 rfl Try.underlying72 u8info _ _ _ _ m rfl rfl ?a1 ?a2 ?a0 w.heap.size w (Below.refl _ _) (Nat.le_refl _) ?_; rotate_right; intro g1 w1 hb1 hw1 hw1' hg1 hg1')
    | (with_reducible refine wpList_toString rfl _ 72 9 5 rfl Try.underlying72 Try.underlying9 Try.underlying5 (List.replicate m 0) g1 0 m m rfl ?d2 hb1 ?_; rotate_right; rw [HX.out]))
  case a0 => omega
  case a1 => omega
  case a2 => omega
  go_wp2
  go_ret2
  exact ⟨rfl, hw1⟩

end Go.Proofs.Ytiekjjejoekdeaa
