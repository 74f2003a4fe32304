/- What budwoodref05's guess computes, and that it is the record that the bytes are, if they are one's. No program in sight. -/
import Derived.Test.YtibeeomeafakgaaEnPure
namespace Bw
set_option linter.unusedVariables false

def gPairs (s : ByteArray) : Nat → Int → List PairD
  | 0, _ => []
  | m + 1, i => if i < s.size then (if textE s (textTo s i) = 0 ∧ textTo s i ≠ 0 then (textS s i, textS s (textTo s i)) :: gPairs s m (textTo s (textTo s i)) else []) else []
def guessR (s : ByteArray) : RecD :=
  if getV s 0 1 > 5 then ⟨getV s 0 1, 0, ByteArray.empty, ByteArray.empty, getV s 1 6, getV s 7 6, getV s 13 6, if getV s 0 1 = 7 then gPairs s (getV s 19 2).toNat 21 else []⟩
  else ⟨getV s 0 1, getV s 1 6, if getV s 0 1 = 2 ∨ getV s 0 1 = 3 then textS s 7 else ByteArray.empty, if getV s 0 1 = 2 ∧ textE s 7 = 0 then textS s (textTo s 7) else ByteArray.empty, 0, 0, 0, []⟩

theorem rNum_get {s : ByteArray} {i k : Nat} {v : Int} {t : List UInt8} (h : rNum k ((lst s).drop i) = some (v, t)) (hi : i ≤ s.size) (hk : 1 ≤ k) (hk8 : k ≤ 8) (hv : v ≤ 1099511627776) : i + k ≤ s.size ∧ getV s i k = v ∧ t = (lst s).drop (i + k) := by
  unfold rNum at h
  split at h
  · rename_i hkl
    injection h with h
    injection h with h1 h2
    rw [List.length_drop, lst_length] at hkl
    refine ⟨by omega, ?_, by rw [← h2, List.drop_drop]⟩
    have h0 : roomE s i k = 0 := by simp [roomE]; omega
    rw [getV, if_pos h0]
    simp only [Int.toNat_natCast]
    omega
  · cases h
theorem rText_get {s : ByteArray} {i : Nat} {x : ByteArray} {t : List UInt8} (h : rText ((lst s).drop i) = some (x, t)) (hi : i ≤ s.size) :
    i < s.size ∧ textE s i = 0 ∧ textS s i = x ∧ textTo s i = ((i + 1 + x.size : Nat) : Int) ∧ i + 1 + x.size ≤ s.size ∧ t = (lst s).drop (i + 1 + x.size) := by
  have hl := lst_length s
  have hlt : i < (lst s).length := by
    rcases Nat.lt_or_ge i (lst s).length with h1 | h1
    · exact h1
    · rw [List.drop_of_length_le h1] at h; cases h
  rw [List.drop_eq_getElem_cons hlt] at h
  simp only [rText] at h
  split at h
  · rename_i hb
    rw [List.length_drop] at hb
    injection h with h
    injection h with h1 h2
    have hgd : (lst s).getD i 0 = (lst s)[i] := by simp [hlt]
    have hE : textE s i = 0 := by
      unfold textE
      rw [if_neg (by omega), Int.toNat_natCast, hgd, if_neg (by omega)]
    have hsz : x.size = (lst s)[i].toNat := by rw [← h1, size_str, List.length_take, List.length_drop]; omega
    refine ⟨by omega, hE, ?_, ?_, by omega, ?_⟩
    · rw [textS, if_pos hE, Int.toNat_natCast, hgd, ← h1]
    · rw [textTo, if_pos hE, Int.toNat_natCast, hgd, hsz]; omega
    · rw [← h2, List.drop_drop, hsz]
  · cases h
theorem gPairs_get (s : ByteArray) : ∀ (m i : Nat) (ps : List PairD) (t : List UInt8), i ≤ s.size → rPairs m ((lst s).drop i) = some (ps, t) → gPairs s m (i : Int) = ps
  | 0, i, ps, t, hi, h => by
    injection h with h
    injection h with h1 _
  | m + 1, i, ps, t, hi, h => by
    unfold rPairs at h
    obtain ⟨a, ha, h⟩ := Option.bind_eq_some_iff.1 h
    obtain ⟨b, hb, h⟩ := Option.bind_eq_some_iff.1 h
    obtain ⟨c, hc, h⟩ := Option.map_eq_some_iff.1 h
    injection h with h1 h2
    obtain ⟨g1, g2, g3, g4, g5, g6⟩ := rText_get (x := a.1) (t := a.2) ha hi
    rw [g6] at hb
    obtain ⟨q1, q2, q3, q4, q5, q6⟩ := rText_get (x := b.1) (t := b.2) hb g5
    rw [q6] at hc
    have ih := gPairs_get s m _ c.1 c.2 q5 hc
    rw [gPairs, if_pos (by omega), g4, if_pos ⟨q2, by omega⟩, g3, q3, q4, ih]
    exact h1

theorem guess_dec {s : ByteArray} {x : RecD} (h : decO s = some x) : guessR s = x := by
  unfold decO at h
  obtain ⟨y, hy, h⟩ := Option.bind_eq_some_iff.1 h
  split at h
  · rename_i hc
    injection h with h
    subst h
    have o := RecD.ok hc.1
    have hy' : rRec ((lst s).drop 0) = some y := hy
    unfold rRec at hy'
    obtain ⟨k, hk, hy'⟩ := Option.bind_eq_some_iff.1 hy'
    split at hy'
    · rename_i hk17
      obtain ⟨a1, h1, hy'⟩ := Option.bind_eq_some_iff.1 hy'
      obtain ⟨a2, h2, hy'⟩ := Option.bind_eq_some_iff.1 hy'
      obtain ⟨a3, h3, hy'⟩ := Option.bind_eq_some_iff.1 hy'
      obtain ⟨a4, h4, hy'⟩ := Option.bind_eq_some_iff.1 hy'
      obtain ⟨a5, h5, hy'⟩ := Option.bind_eq_some_iff.1 hy'
      obtain ⟨a6, h6, hy'⟩ := Option.bind_eq_some_iff.1 hy'
      obtain ⟨a7, h7, hy'⟩ := Option.map_eq_some_iff.1 hy'
      subst hy'
      obtain ⟨k, tk⟩ := k
      obtain ⟨z1, z2, z3⟩ := rNum_get hk (Nat.zero_le _) (by omega) (by omega) (by simp only at hk17; omega)
      simp only at hk17 z1 z2 z3 h1 h2 h3 h4 h5 h6 h7 ⊢
      subst z3
      obtain ⟨t, t1⟩ := a1; obtain ⟨p, t2⟩ := a2; obtain ⟨u, t3⟩ := a3; obtain ⟨n, t4⟩ := a4; obtain ⟨key, t5⟩ := a5; obtain ⟨val, t6⟩ := a6; obtain ⟨ps, t7⟩ := a7
      have ot := o.t1; have op := o.p1; have ou := o.u1; have on := o.n1
      simp only at ot op ou on h1 h2 h3 h4 h5 h6 h7 ⊢
      have z2' : getV s 0 1 = k := z2
      unfold guessR
      rw [z2']
      have hkk : k = 1 ∨ k = 2 ∨ k = 3 ∨ k = 4 ∨ k = 5 ∨ k = 6 ∨ k = 7 := by omega
      rcases hkk with rfl | rfl | rfl | rfl | rfl | rfl | rfl
      · have e1 := (rIf_inv h1).1 rfl
        obtain ⟨g1, g2, g3⟩ := rNum_get e1 z1 (by omega) (by omega) (ot rfl).2
        have g2' : getV s 1 6 = t := g2
        obtain ⟨rfl, rfl⟩ := (rIf_inv h2).2 rfl
        obtain ⟨rfl, rfl⟩ := (rIf_inv h3).2 rfl
        obtain ⟨rfl, rfl⟩ := (rIf_inv h4).2 rfl
        obtain ⟨rfl, rfl⟩ := (rIf_inv h5).2 rfl
        obtain ⟨rfl, rfl⟩ := (rIf_inv h6).2 rfl
        obtain ⟨rfl, rfl⟩ := (rIf_inv h7).2 rfl
        simp [g2']
      · have e1 := (rIf_inv h1).1 rfl
        obtain ⟨g1, g2, g3⟩ := rNum_get e1 z1 (by omega) (by omega) (ot rfl).2
        have g2' : getV s 1 6 = t := g2
        obtain ⟨rfl, rfl⟩ := (rIf_inv h2).2 rfl
        obtain ⟨rfl, rfl⟩ := (rIf_inv h3).2 rfl
        obtain ⟨rfl, rfl⟩ := (rIf_inv h4).2 rfl
        have e5 := (rIf_inv h5).1 rfl
        rw [g3] at e5
        obtain ⟨q1, q2, q3, q4, q5, q6⟩ := rText_get e5 g1
        have q2' : textE s 7 = 0 := q2
        have q3' : textS s 7 = key := q3
        have q4' : textTo s 7 = ((7 + 1 + key.size : Nat) : Int) := q4
        have e6 := (rIf_inv h6).1 rfl
        rw [q6] at e6
        obtain ⟨r1, r2, r3, r4, r5, r6⟩ := rText_get e6 q5
        have r3' : textS s ((7 + 1 + key.size : Nat) : Int) = val := r3
        obtain ⟨rfl, rfl⟩ := (rIf_inv h7).2 rfl
        simp only [g2', q2', q3', q4', r3']
        simp
      · have e1 := (rIf_inv h1).1 rfl
        obtain ⟨g1, g2, g3⟩ := rNum_get e1 z1 (by omega) (by omega) (ot rfl).2
        have g2' : getV s 1 6 = t := g2
        obtain ⟨rfl, rfl⟩ := (rIf_inv h2).2 rfl
        obtain ⟨rfl, rfl⟩ := (rIf_inv h3).2 rfl
        obtain ⟨rfl, rfl⟩ := (rIf_inv h4).2 rfl
        have e5 := (rIf_inv h5).1 rfl
        rw [g3] at e5
        obtain ⟨q1, q2, q3, q4, q5, q6⟩ := rText_get e5 g1
        have q3' : textS s 7 = key := q3
        obtain ⟨rfl, rfl⟩ := (rIf_inv h6).2 rfl
        obtain ⟨rfl, rfl⟩ := (rIf_inv h7).2 rfl
        simp [g2', q3']
      · have e1 := (rIf_inv h1).1 rfl
        obtain ⟨g1, g2, g3⟩ := rNum_get e1 z1 (by omega) (by omega) (ot rfl).2
        have g2' : getV s 1 6 = t := g2
        obtain ⟨rfl, rfl⟩ := (rIf_inv h2).2 rfl
        obtain ⟨rfl, rfl⟩ := (rIf_inv h3).2 rfl
        obtain ⟨rfl, rfl⟩ := (rIf_inv h4).2 rfl
        obtain ⟨rfl, rfl⟩ := (rIf_inv h5).2 rfl
        obtain ⟨rfl, rfl⟩ := (rIf_inv h6).2 rfl
        obtain ⟨rfl, rfl⟩ := (rIf_inv h7).2 rfl
        simp [g2']
      · have e1 := (rIf_inv h1).1 rfl
        obtain ⟨g1, g2, g3⟩ := rNum_get e1 z1 (by omega) (by omega) (ot rfl).2
        have g2' : getV s 1 6 = t := g2
        obtain ⟨rfl, rfl⟩ := (rIf_inv h2).2 rfl
        obtain ⟨rfl, rfl⟩ := (rIf_inv h3).2 rfl
        obtain ⟨rfl, rfl⟩ := (rIf_inv h4).2 rfl
        obtain ⟨rfl, rfl⟩ := (rIf_inv h5).2 rfl
        obtain ⟨rfl, rfl⟩ := (rIf_inv h6).2 rfl
        obtain ⟨rfl, rfl⟩ := (rIf_inv h7).2 rfl
        simp [g2']
      · obtain ⟨rfl, rfl⟩ := (rIf_inv h1).2 rfl
        have e2 := (rIf_inv h2).1 rfl
        obtain ⟨g1, g2, g3⟩ := rNum_get e2 z1 (by omega) (by omega) (by omega)
        have g2' : getV s 1 6 = p := g2
        have e3 := (rIf_inv h3).1 rfl
        rw [g3] at e3
        obtain ⟨b1, b2, b3⟩ := rNum_get e3 g1 (by omega) (by omega) ou.2
        have b2' : getV s 7 6 = u := b2
        have e4 := (rIf_inv h4).1 rfl
        rw [b3] at e4
        obtain ⟨c1, c2, c3⟩ := rNum_get e4 b1 (by omega) (by omega) on.2
        have c2' : getV s 13 6 = n := c2
        obtain ⟨rfl, rfl⟩ := (rIf_inv h5).2 rfl
        obtain ⟨rfl, rfl⟩ := (rIf_inv h6).2 rfl
        obtain ⟨rfl, rfl⟩ := (rIf_inv h7).2 rfl
        simp [g2', b2', c2']
      · obtain ⟨rfl, rfl⟩ := (rIf_inv h1).2 rfl
        have e2 := (rIf_inv h2).1 rfl
        obtain ⟨g1, g2, g3⟩ := rNum_get e2 z1 (by omega) (by omega) (by omega)
        have g2' : getV s 1 6 = p := g2
        have e3 := (rIf_inv h3).1 rfl
        rw [g3] at e3
        obtain ⟨b1, b2, b3⟩ := rNum_get e3 g1 (by omega) (by omega) ou.2
        have b2' : getV s 7 6 = u := b2
        have e4 := (rIf_inv h4).1 rfl
        rw [b3] at e4
        obtain ⟨c1, c2, c3⟩ := rNum_get e4 b1 (by omega) (by omega) on.2
        have c2' : getV s 13 6 = n := c2
        obtain ⟨rfl, rfl⟩ := (rIf_inv h5).2 rfl
        obtain ⟨rfl, rfl⟩ := (rIf_inv h6).2 rfl
        have e7 := (rIf_inv h7).1 rfl
        obtain ⟨m, hm, e8⟩ := Option.bind_eq_some_iff.1 e7
        obtain ⟨m, tm⟩ := m
        rw [c3] at hm
        have hle : m ≤ 1099511627776 := by
          unfold rNum at hm
          split at hm
          · injection hm with hm
            injection hm with hm _
            have hlt := le_lt (((lst s).drop (0 + 1 + 6 + 6 + 6)).take 2)
            have hl2 : (((lst s).drop (0 + 1 + 6 + 6 + 6)).take 2).length ≤ 2 := by simp; omega
            have hlt2 : 256 ^ (((lst s).drop (0 + 1 + 6 + 6 + 6)).take 2).length ≤ 256 ^ 2 := Nat.pow_le_pow_right (by omega) hl2
            omega
          · cases hm
        obtain ⟨d1, d2, d3⟩ := rNum_get hm c1 (by omega) (by omega) hle
        have d2' : getV s 19 2 = m := d2
        simp only at e8
        rw [d3] at e8
        have hgp := gPairs_get s m.toNat (0 + 1 + 6 + 6 + 6 + 2) ps t7 d1 e8
        have hgp' : gPairs s m.toNat 21 = ps := hgp
        simp [g2', b2', c2', d2', hgp']
    · cases hy'
  · cases h
end Bw
