/- What a leaf's bytes are read as, piece by piece. No program in sight. -/
import Derived.Test.YtdlcmbnbfghdmaaLfPureA
namespace Bw
set_option linter.unusedVariables false
theorem rNum_at {s : ByteArray} {i k : Nat} {v : Int} {t : List UInt8} (h : rNum k ((lst s).drop i) = some (v, t)) (hi : i ≤ s.size) : i + k ≤ s.size ∧ v = min (le (((lst s).drop i).take k) : Int) 1099511627777 ∧ t = (lst s).drop (i + k) := by
  unfold rNum at h
  split at h
  · rename_i hk
    injection h with h
    injection h with h1 h2
    rw [List.length_drop, lst_length] at hk
    exact ⟨by omega, h1.symm, by rw [← h2, List.drop_drop]⟩
  · cases h
theorem rNum_no {s : ByteArray} {i k : Nat} (h : rNum k ((lst s).drop i) = none) (hi : i ≤ s.size) : s.size < i + k := by
  unfold rNum at h
  split at h
  · cases h
  · rename_i hk
    rw [List.length_drop, lst_length] at hk
    omega

theorem rText_at {s : ByteArray} {i : Nat} {x : ByteArray} {t : List UInt8} (h : rText ((lst s).drop i) = some (x, t)) (hi : i ≤ s.size) :
    textE s i = 0 ∧ textS s i = x ∧ textTo s i = ((i + 1 + x.size : Nat) : Int) ∧ i + 1 + x.size ≤ s.size ∧ t = (lst s).drop (i + 1 + x.size) := by
  have hl := lst_length s
  have hlt : i < (lst s).length := by
    rcases Nat.lt_or_ge i (lst s).length with h1 | h1
    · exact h1
    · rw [List.drop_of_length_le h1] at h; cases h
  rw [List.drop_eq_getElem_cons hlt] at h
  simp only [rText] at h
  split at h
  · rename_i hb
    rw [List.length_drop] at hb
    injection h with h
    injection h with h1 h2
    have hgd : (lst s).getD i 0 = (lst s)[i] := by simp [hlt]
    have hE : textE s i = 0 := by
      unfold textE
      rw [if_neg (by omega), Int.toNat_natCast, hgd, if_neg (by omega)]
    have hsz : x.size = (lst s)[i].toNat := by rw [← h1, size_str, List.length_take, List.length_drop]; omega
    refine ⟨hE, ?_, ?_, by omega, ?_⟩
    · rw [textS, if_pos hE, Int.toNat_natCast, hgd, ← h1]
    · rw [textTo, if_pos hE, Int.toNat_natCast, hgd, hsz]; omega
    · rw [← h2, List.drop_drop, hsz]
  · cases h
theorem rText_no {s : ByteArray} {i : Nat} (h : rText ((lst s).drop i) = none) (hi : i ≤ s.size) : textE s i = 3 := by
  have hl := lst_length s
  rcases Nat.lt_or_ge i (lst s).length with hlt | h1
  · rw [List.drop_eq_getElem_cons hlt] at h
    simp only [rText] at h
    split at h
    · cases h
    · rename_i hb
      rw [List.length_drop] at hb
      have hgd : (lst s).getD i 0 = (lst s)[i] := by simp [hlt]
      unfold textE
      rw [if_neg (by omega), Int.toNat_natCast, hgd, if_pos (by omega)]
  · unfold textE
    rw [if_neg (by omega), if_pos (by omega)]
theorem text_step {s : ByteArray} {i : Nat} {x : ByteArray} {t : List UInt8} (h : rText ((lst s).drop i) = some (x, t)) (hi : i ≤ s.size) : ∃ j, j = i + 1 + x.size ∧ j ≤ s.size ∧ t = (lst s).drop j := by
  obtain ⟨-, -, -, h1, h3⟩ := rText_at h hi
  exact ⟨i + 1 + x.size, rfl, h1, h3⟩
/-- The bytes that are left, behind k pairs. -/
def LeftP (s : ByteArray) (m i5 k i : Nat) (L : List PairD) : Prop := rPairs m ((lst s).drop i5) = (rPairs (m - k) ((lst s).drop i)).map fun c => (L ++ c.1, c.2)
theorem left_start (s : ByteArray) (m i5 : Nat) : LeftP s m i5 0 i5 [] := by
  unfold LeftP; cases rPairs m ((lst s).drop i5) <;> simp
theorem left_end {s : ByteArray} {m i5 i : Nat} {L : List PairD} (h : LeftP s m i5 m i L) : rPairs m ((lst s).drop i5) = some (L, (lst s).drop i) := by
  unfold LeftP at h; rw [h, Nat.sub_self]; simp [rPairs]
theorem left_none1 {s : ByteArray} {m i5 k i : Nat} {L : List PairD} (h : LeftP s m i5 k i L) (hk : k < m) (h1 : rText ((lst s).drop i) = none) : rPairs m ((lst s).drop i5) = none := by
  unfold LeftP at h; rw [h, show m - k = (m - k - 1) + 1 by omega, rPairs, h1]; rfl
theorem left_none2 {s : ByteArray} {m i5 k i j : Nat} {x : ByteArray} {L : List PairD} (h : LeftP s m i5 k i L) (hk : k < m) (h1 : rText ((lst s).drop i) = some (x, (lst s).drop j)) (h2 : rText ((lst s).drop j) = none) : rPairs m ((lst s).drop i5) = none := by
  unfold LeftP at h; rw [h, show m - k = (m - k - 1) + 1 by omega, rPairs, h1]; simp [h2]
theorem left_step {s : ByteArray} {m i5 k i j j' : Nat} {x y : ByteArray} {L : List PairD} (h : LeftP s m i5 k i L) (hk : k < m) (h1 : rText ((lst s).drop i) = some (x, (lst s).drop j)) (h2 : rText ((lst s).drop j) = some (y, (lst s).drop j')) : LeftP s m i5 (k + 1) j' (L ++ [(x, y)]) := by
  unfold LeftP at h ⊢; rw [h, show m - k = (m - (k + 1)) + 1 by omega, rPairs, h1]
  simp only [Option.bind_some, h2]
  cases rPairs (m - (k + 1)) ((lst s).drop j') <;> simp
theorem rNum_full {k : Nat} {l : List UInt8} (h : k ≤ l.length) (h6 : k ≤ 2) : rNum k l = some (((le (l.take k) : Nat) : Int), l.drop k) := by
  unfold rNum
  rw [if_pos h]
  have h1 := le_lt (l.take k)
  have h2 : (l.take k).length = k := by simp; omega
  rw [h2] at h1
  have h3 : 256 ^ k ≤ 256 ^ 2 := Nat.pow_le_pow_right (by omega) h6
  congr 2
  omega
/-- What a leaf's bytes are, by the functions of layer 1. -/
theorem rLf_bad {s : ByteArray} (h : roomE s 1 1 ≠ 0 ∨ roomE s 2 2 ≠ 0 ∨ textE s 4 ≠ 0 ∨ (∃ h0 : 0 < s.size, s[0] ≠ 76)) : rLf (lst s) = none := by
  have hl := lst_length s
  match hs : lst s, hl with
  | [], _ => rfl
  | [b], _ => rfl
  | b :: n :: t, hl =>
    simp only [List.length_cons] at hl
    rw [rLf]
    cases h1 : rNum 2 t with
    | none => rfl
    | some m =>
      simp only [Option.bind_some]
      cases h2 : rText m.2 with
      | none => rfl
      | some x =>
        simp only [Option.bind_some]
        cases h3 : rPairs n.toNat x.2 with
        | none => rfl
        | some ps =>
          simp only [Option.bind_some]
          have ht2 : 2 ≤ t.length := by
            unfold rNum at h1
            split at h1
            · assumption
            · cases h1
          have hd : (lst s).drop 2 = t := by rw [hs]; rfl
          rw [rNum_full ht2 (by omega)] at h1
          injection h1 with h1
          have hm : m.2 = (lst s).drop 4 := by rw [← h1, ← hd, List.drop_drop]
          rw [hm] at h2
          have h4 := (rText_at (i := 4) (x := x.1) (t := x.2) h2 (by omega)).1
          have e1 : roomE s 1 1 = 0 := roomE_of (i := 1) (k := 1) (by omega) (by omega) (by omega)
          have e2 : roomE s 2 2 = 0 := roomE_of (i := 2) (k := 2) (by omega) (by omega) (by omega)
          rcases h with h | h | h | ⟨h0, h⟩
          · exact absurd e1 h
          · exact absurd e2 h
          · exact absurd h4 h
          · rw [if_neg]
            intro hb
            apply h
            have : (lst s)[0]? = some b := by rw [hs]; rfl
            rw [← hb]
            have h5 : (lst s)[0]? = some s[0] := by
              rw [List.getElem?_eq_getElem (by omega)]; rfl
            rw [h5] at this
            exact Option.some.inj this
theorem rLf_good {s : ByteArray} (h1 : roomE s 1 1 = 0) (h2 : roomE s 2 2 = 0) (h3 : textE s 4 = 0) (h0 : 0 < s.size) (h4 : s[0] = 76) : ∃ (n i : Nat), getV s 1 1 = (n : Int) ∧ n ≤ 255 ∧ textTo s 4 = (i : Int) ∧ i ≤ s.size ∧ 0 ≤ getV s 2 2 ∧ getV s 2 2 ≤ 65535 ∧
    rLf (lst s) = (rPairs n ((lst s).drop i)).map (fun ps => (⟨ps.1, textS s 4, getV s 2 2⟩, ps.2)) := by
  have hl := lst_length s
  match hs : lst s, hl with
  | [], hl => simp at hl; omega
  | [b], hl => simp [roomE] at h1; simp at hl; omega
  | b :: n :: t, hl =>
    simp only [List.length_cons] at hl
    have ht2 : 2 ≤ t.length := by simp [roomE] at h2; omega
    have hd : (lst s).drop 2 = t := by rw [hs]; rfl
    have hb : b = 76 := by
      have h5 : (lst s)[0]? = some s[0] := by
        rw [List.getElem?_eq_getElem (by omega)]; rfl
      rw [hs, h4] at h5
      exact Option.some.inj h5
    have g1 : getV s 1 1 = (n.toNat : Int) := by
      have := getV_eq (s := s) (i := 1) (k := 1) (by omega) (by omega) (by omega)
      rw [hs] at this
      simpa [le] using this
    have g2 : getV s 2 2 = (le (t.take 2) : Nat) := by
      have := getV_eq (s := s) (i := 2) (k := 2) (by omega) (by omega) (by omega)
      rw [hd] at this
      exact this
    have hlt := n.toNat_lt
    have h5 := le_lt (t.take 2)
    have h6 : (t.take 2).length = 2 := by simp; omega
    rw [h6] at h5
    cases hx : rText ((lst s).drop 4) with
    | none =>
      have h8 := rText_no (i := 4) hx (by omega)
      have h9 : textE s 4 = 3 := h8
      omega
    | some x =>
      obtain ⟨-, e2, e3, e4, e5⟩ := rText_at (i := 4) (x := x.1) (t := x.2) hx (by omega)
      refine ⟨n.toNat, 4 + 1 + x.1.size, g1, by omega, e3, e4, by omega, by omega, ?_⟩
      rw [← hs, ← e5]
      rw [hs, rLf, rNum_full ht2 (by omega)]
      simp only [Option.bind_some]
      have hm : t.drop 2 = (lst s).drop 4 := by rw [← hd, List.drop_drop]
      rw [hm, hx]
      simp only [Option.bind_some]
      simp only [if_pos hb]
      have h7 : textS s 4 = x.1 := e2
      rw [h7, g2]
      cases rPairs n.toNat x.2 <;> rfl
end Bw
