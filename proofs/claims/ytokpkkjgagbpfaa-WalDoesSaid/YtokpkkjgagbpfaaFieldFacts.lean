/- Plain facts of the functions on bytes: what is put is got. No program in sight. -/
import Derived.Test.YtokpkkjgagbpfaaFieldPure
import Derived.Laws.Strings2
namespace Bw
open Go

theorem size_putS (s : ByteArray) (i k n : Nat) (h : putE s i k n = 0) : (putS s i k n).size = s.size ∧ i + k ≤ s.size ∧ 1 ≤ k ∧ k ≤ 8 ∧ n < 256 ^ k ∧ lst (putS s i k n) = (lst s).take i ++ toLE n k ++ (lst s).drop (i + k) := by
  have h0 : roomE s i k = 0 := by
    unfold putE at h
    split at h
    · assumption
    · exact absurd h (by assumption)
  have h1 : 1 ≤ k ∧ k ≤ 8 ∧ i + k ≤ s.size := by simp [roomE] at h0; omega
  have h2 : n < 256 ^ k := by
    simp only [putE, h0, if_true, Int.toNat_natCast] at h
    split at h
    · omega
    · omega
  have e : lst (putS s i k n) = (lst s).take i ++ toLE n k ++ (lst s).drop (i + k) := by
    simp only [putS, h, if_true, Int.toNat_natCast, lst_str]
  refine ⟨?_, h1.2.2, h1.1, h1.2.1, h2, e⟩
  rw [← lst_length, e]
  have := lst_length s
  simp only [List.length_append, List.length_take, List.length_drop, toLE_length]
  omega

theorem roomE_of {s : ByteArray} {i k : Nat} (h1 : 1 ≤ k) (h2 : k ≤ 8) (h3 : i + k ≤ s.size) : roomE s i k = 0 := by
  simp [roomE]; omega

theorem getV_eq {s : ByteArray} {i k : Nat} (h1 : 1 ≤ k) (h2 : k ≤ 8) (h3 : i + k ≤ s.size) : getV s i k = (le (((lst s).drop i).take k) : Nat) := by
  simp [getV, roomE_of h1 h2 h3]

theorem take_mid {α : Type} (a b c : List α) : ((a ++ b ++ c).drop a.length).take b.length = b := by simp

/-- What is put is got. -/
theorem get_put (s : ByteArray) (i k n : Nat) (h : putE s i k n = 0) : roomE (putS s i k n) i k = 0 ∧ getV (putS s i k n) i k = n := by
  obtain ⟨hz, hi, h1, h2, hn, e⟩ := size_putS s i k n h
  refine ⟨roomE_of h1 h2 (by omega), ?_⟩
  rw [getV_eq h1 h2 (by omega), e]
  have hl : ((lst s).take i).length = i := by simp [lst_length]; omega
  have := take_mid ((lst s).take i) (toLE n k) ((lst s).drop (i + k))
  rw [hl, toLE_length] at this
  rw [this, le_toLE, Nat.mod_eq_of_lt hn]

theorem extract_lst (s : ByteArray) (i j : Nat) : lst (s.extract i j) = ((lst s).drop i).take (j - i) := by
  have := ByteArray.extract_mk (lst s) i j
  have e : (ByteArray.mk (lst s).toArray) = s := str_lst s
  rw [e] at this
  rw [this]; exact lst_str _

theorem extract_eq {s t : ByteArray} {i j : Nat} (h : ((lst s).drop i).take (j - i) = ((lst t).drop i).take (j - i)) : s.extract i j = t.extract i j := by
  apply lst_inj; rw [extract_lst, extract_lst, h]

/-- No other byte changes. -/
theorem put_head (s : ByteArray) (i k n : Nat) (h : putE s i k n = 0) : (putS s i k n).extract 0 i = s.extract 0 i := by
  obtain ⟨hz, hi, h1, h2, hn, e⟩ := size_putS s i k n h
  apply extract_eq
  have hl : ((lst s).take i).length = i := by simp [lst_length]; omega
  rw [e]
  simp only [List.drop_zero, Nat.sub_zero, List.append_assoc]
  rw [List.take_append_of_le_length (by omega), List.take_take, Nat.min_self]

theorem drop_mid {α : Type} (a b c : List α) : (a ++ b ++ c).drop (a.length + b.length) = c := by
  rw [← List.length_append]; simp

theorem put_tail (s : ByteArray) (i k n : Nat) (h : putE s i k n = 0) : (putS s i k n).extract (i + k) s.size = s.extract (i + k) s.size := by
  obtain ⟨hz, hi, h1, h2, hn, e⟩ := size_putS s i k n h
  apply extract_eq
  have hl : ((lst s).take i).length = i := by simp [lst_length]; omega
  have := drop_mid ((lst s).take i) (toLE n k) ((lst s).drop (i + k))
  rw [hl, toLE_length] at this
  rw [e, this]

theorem size_ptS (s t : ByteArray) (i : Nat) (h : ptE s i t = 0) : (ptS s i t).size = s.size ∧ i + t.size + 1 ≤ s.size ∧ t.size ≤ 255 ∧ ptTo s i t = (i : Int) + t.size + 1 ∧ lst (ptS s i t) = (lst s).take i ++ UInt8.ofNat t.size :: lst t ++ (lst s).drop (i + t.size + 1) := by
  have h1 : t.size ≤ 255 ∧ i + t.size + 1 ≤ s.size := by
    unfold ptE at h
    split at h
    · omega
    · split at h
      · omega
      · split at h
        · omega
        · omega
  have e : lst (ptS s i t) = (lst s).take i ++ UInt8.ofNat t.size :: lst t ++ (lst s).drop (i + t.size + 1) := by
    simp only [ptS, h, if_true, Int.toNat_natCast, lst_str]
  refine ⟨?_, h1.2, h1.1, by simp [ptTo, h], e⟩
  rw [← lst_length, e]
  have := lst_length s
  have := lst_length t
  simp only [List.length_append, List.length_cons, List.length_take, List.length_drop]
  omega

/-- What is put as a text is got as a text. -/
theorem text_pt (s t : ByteArray) (i : Nat) (h : ptE s i t = 0) : textE (ptS s i t) i = 0 ∧ textS (ptS s i t) i = t ∧ textTo (ptS s i t) i = (i : Int) + t.size + 1 := by
  obtain ⟨hz, hi, h1, _, e⟩ := size_ptS s t i h
  have hl : ((lst s).take i).length = i := by simp [lst_length]; omega
  have hg : (lst (ptS s i t)).getD i 0 = UInt8.ofNat t.size := by
    rw [e, List.getD_eq_getElem?_getD, List.append_assoc, List.getElem?_append_right (by omega), hl, Nat.sub_self]; rfl
  have hb : (UInt8.ofNat t.size).toNat = t.size := by
    have : (UInt8.ofNat t.size).toNat = t.size % 256 := UInt8.toNat_ofNat'
    omega
  have hE : textE (ptS s i t) i = 0 := by
    simp only [textE, Int.toNat_natCast, hg, hb, hz]
    rw [if_neg (by omega), if_neg (by omega)]
  refine ⟨hE, ?_, ?_⟩
  · simp only [textS, hE, if_true, Int.toNat_natCast, hg, hb]
    apply lst_inj
    rw [lst_str, e]
    have : (List.take i (lst s) ++ UInt8.ofNat t.size :: lst t ++ List.drop (i + t.size + 1) (lst s)) = (List.take i (lst s) ++ [UInt8.ofNat t.size]) ++ lst t ++ List.drop (i + t.size + 1) (lst s) := by simp
    rw [this]
    have h2 := take_mid (List.take i (lst s) ++ [UInt8.ofNat t.size]) (lst t) (List.drop (i + t.size + 1) (lst s))
    rw [List.length_append, hl, lst_length] at h2
    exact h2
  · simp only [textTo, hE, if_true, Int.toNat_natCast, hg, hb]; omega

theorem pt_head (s t : ByteArray) (i : Nat) (h : ptE s i t = 0) : (ptS s i t).extract 0 i = s.extract 0 i := by
  obtain ⟨hz, hi, h1, _, e⟩ := size_ptS s t i h
  apply extract_eq
  have hl : ((lst s).take i).length = i := by simp [lst_length]; omega
  rw [e]
  simp only [List.drop_zero, Nat.sub_zero, List.append_assoc]
  rw [List.take_append_of_le_length (by omega), List.take_take, Nat.min_self]

theorem pt_tail (s t : ByteArray) (i : Nat) (h : ptE s i t = 0) : (ptS s i t).extract (i + t.size + 1) s.size = s.extract (i + t.size + 1) s.size := by
  obtain ⟨hz, hi, h1, _, e⟩ := size_ptS s t i h
  apply extract_eq
  have hl : ((lst s).take i).length = i := by simp [lst_length]; omega
  have := drop_mid ((lst s).take i) (UInt8.ofNat t.size :: lst t) ((lst s).drop (i + t.size + 1))
  rw [hl, List.length_cons, lst_length, ← Nat.add_assoc] at this
  rw [e, this]

/-- Bare bytes: what is cut off is bytes 0; the last one that stays is none. -/
theorem bareL_spec (l : List UInt8) : ∃ k, l = bareL l ++ List.replicate k 0 ∧ (bareL l = [] ∨ ∃ m b, bareL l = m ++ [b] ∧ b ≠ 0) := by
  have key : ∀ r : List UInt8, ∃ k, r = List.replicate k 0 ++ r.dropWhile (· == 0) ∧ (r.dropWhile (· == 0) = [] ∨ ∃ b m, r.dropWhile (· == 0) = b :: m ∧ b ≠ 0) := by
    intro r
    induction r with
    | nil => exact ⟨0, rfl, .inl rfl⟩
    | cons b r ih =>
      by_cases hb : b = 0
      · subst hb
        obtain ⟨k, h1, h2⟩ := ih
        refine ⟨k + 1, ?_, ?_⟩
        · simp only [List.dropWhile_cons, beq_self_eq_true, if_true, List.replicate_succ, List.cons_append]
          rw [← h1]
        · simpa [List.dropWhile_cons] using h2
      · refine ⟨0, ?_, .inr ⟨b, r, ?_, hb⟩⟩ <;> simp [hb]
  obtain ⟨k, h1, h2⟩ := key l.reverse
  refine ⟨k, ?_, ?_⟩
  · have := congrArg List.reverse h1
    simpa [bareL] using this
  · rcases h2 with h | ⟨b, m, h, hb⟩
    · exact .inl (by simp [bareL, h])
    · exact .inr ⟨m.reverse, b, by simp [bareL, h], hb⟩

theorem bareL_of (l : List UInt8) (k : Nat) (h : l = [] ∨ ∃ m b, l = m ++ [b] ∧ b ≠ 0) : bareL (l ++ List.replicate k 0) = l := by
  have e : ∀ r : List UInt8, (r = [] ∨ ∃ b m, r = b :: m ∧ b ≠ 0) → (List.replicate k 0 ++ r).dropWhile (· == 0) = r := by
    intro r hr
    induction k with
    | zero =>
      rcases hr with rfl | ⟨b, m, rfl, hb⟩
      · rfl
      · simp [hb]
    | succ k ih => simpa [List.replicate_succ, List.dropWhile_cons] using ih
  unfold bareL
  rw [List.reverse_append, List.reverse_replicate, e l.reverse (by
    rcases h with rfl | ⟨m, b, rfl, hb⟩
    · exact .inl rfl
    · exact .inr ⟨b, m.reverse, by simp, hb⟩), List.reverse_reverse]

theorem bareS_spec (s : ByteArray) : (bareS s).size ≤ s.size ∧ (∀ n : Nat, bareS (str (lst (bareS s) ++ List.replicate n 0)) = bareS s) ∧ str (lst (bareS s) ++ List.replicate (s.size - (bareS s).size) 0) = s ∧
    ((bareS s).size = 0 ∨ ∃ h : (bareS s).size - 1 < (bareS s).size, (bareS s)[(bareS s).size - 1] ≠ 0) := by
  obtain ⟨k, h1, h2⟩ := bareL_spec (lst s)
  have hz : s.size = (bareS s).size + k := by
    have := congrArg List.length h1
    rw [lst_length, List.length_append, List.length_replicate] at this
    rw [this]; rfl
  have hb : lst (bareS s) = bareL (lst s) := lst_str _
  refine ⟨by omega, fun n => ?_, ?_, ?_⟩
  · apply lst_inj
    rw [bareS, lst_str, lst_str, hb, bareL_of _ n h2]
  · apply lst_inj
    rw [lst_str, hb, show s.size - (bareS s).size = k by omega, ← h1]
  · rcases h2 with h | ⟨m, b, h, hne⟩
    · left
      rw [← lst_length, hb, h]; rfl
    · right
      have hs : (bareS s).size = m.length + 1 := by rw [← lst_length, hb, h]; simp
      refine ⟨by omega, ?_⟩
      rw [lst_getElem]
      have : (lst (bareS s))[(bareS s).size - 1]? = some b := by
        rw [hb, h, hs]; simp
      rw [List.getElem?_eq_some_iff] at this
      obtain ⟨_, e⟩ := this
      rw [e]; exact hne

theorem padE_of {s : ByteArray} {n : Nat} (h : s.size ≤ n) (h2 : n ≤ 65536) : padE s n = 0 := by simp [padE]; omega
theorem padS_of {s : ByteArray} {n : Nat} (h : s.size ≤ n) (h2 : n ≤ 65536) : padS s n = str (lst s ++ List.replicate (n - s.size) 0) := by
  simp [padS, padE_of h h2]

end Bw
