/- What the reader of acts makes of the bytes at a place, as a plain function. No program in sight. -/
import Derived.Test.YtkkgcmnipdkeeaaDoorScGuess
namespace Bw
set_option linter.unusedVariables false
def noAct : ActD := ⟨0, 0, ByteArray.empty, ByteArray.empty, 0, []⟩
/-- The act that the reader hands back from place i, and where it stands then. -/
def actZ (s : ByteArray) (i : Nat) : ActD × RSt :=
  if getV s i 1 ≤ 11 then ((actR s (getV s i 1) ⟨i + 1, true⟩).1, ⟨(actR s (getV s i 1) ⟨i + 1, true⟩).2.i, (actR s (getV s i 1) ⟨i + 1, true⟩).2.ok && (actR s (getV s i 1) ⟨i + 1, true⟩).1.right⟩) else (noAct, ⟨i + 1, false⟩)
theorem actZ_eq (s : ByteArray) (i : Nat) : actZ s i = if getV s i 1 ≤ 11 then ((actR s (getV s i 1) ⟨i + 1, true⟩).1, ⟨(actR s (getV s i 1) ⟨i + 1, true⟩).2.i, (actR s (getV s i 1) ⟨i + 1, true⟩).2.ok && (actR s (getV s i 1) ⟨i + 1, true⟩).1.right⟩) else (noAct, ⟨i + 1, false⟩) := rfl
theorem actZ_some {s : ByteArray} {i : Nat} (hi : i < s.size) {a : ActD} {t : List UInt8} (h : rAct1 ((lst s).drop i) = some (a, t)) : actZ s i = (a, ⟨i + a.encL.length, true⟩) ∧ a.right = true ∧ i + a.encL.length ≤ s.size ∧ t = (lst s).drop (i + a.encL.length) := by
  obtain ⟨h1, h2, h3, h4, h5, h6, h7⟩ := actR_some hi h
  refine ⟨?_, h5, h6, h7⟩
  rw [actZ, if_pos h1, h2, h3, h4, h5]
  rfl
theorem actZ_none {s : ByteArray} {i : Nat} (hi : i < s.size) (h : rAct1 ((lst s).drop i) = none) : (actZ s i).2.ok = false := by
  unfold actZ
  by_cases hk : getV s i 1 ≤ 11
  · rw [if_pos hk]
    rcases actR_none hi hk h with h1 | h1
    · simp [h1]
    · simp [h1]
  · rw [if_neg hk]
/-- The program's loop: acts so far, and what is left. -/
structure Sofar (s : ByteArray) (as : List ActD) (i : Nat) : Prop where
  le : i ≤ s.size
  split : lst s = actsL as ++ (lst s).drop i
  right : ∀ a ∈ as, a.right = true
theorem Sofar.start (s : ByteArray) : Sofar s [] 0 := ⟨Nat.zero_le _, rfl, by simp⟩
theorem Sofar.step {s : ByteArray} {as : List ActD} {i : Nat} (h : Sofar s as i) (hi : i < s.size) {a : ActD} {t : List UInt8} (hr : rAct1 ((lst s).drop i) = some (a, t)) : Sofar s (as ++ [a]) (i + a.encL.length) := by
  obtain ⟨-, h5, h6, h7⟩ := actZ_some hi hr
  have h1 := (rAct1_inv hr).1
  refine ⟨h6, ?_, fun b hb => ?_⟩
  · have e : actsL (as ++ [a]) = actsL as ++ a.encL := by rw [actsL_append]; simp [actsL]
    rw [e, List.append_assoc, ← h7, ← h1]
    exact h.split
  · rcases List.mem_append.1 hb with hb | hb
    · exact h.right b hb
    · rw [List.mem_singleton.1 hb]; exact h5
theorem Sofar.done {s : ByteArray} {as : List ActD} (h : Sofar s as s.size) : actsO s = some as := by
  refine actsO_iff.2 ⟨?_, h.right⟩
  have h1 := h.split
  rw [List.drop_of_length_le (by rw [lst_length]; exact Nat.le_refl _), List.append_nil] at h1
  exact h1
theorem Sofar.bad {s : ByteArray} {as : List ActD} {i : Nat} (h : Sofar s as i) (hi : i < s.size) (hr : rAct1 ((lst s).drop i) = none) : actsO s = none := by
  refine actsO_none h.split h.right (fun h0 => ?_) hr
  have := congrArg List.length h0
  rw [List.length_drop, lst_length] at this
  simp at this
  omega
theorem Sofar.len {s : ByteArray} {as : List ActD} {i : Nat} (h : Sofar s as i) : as.length ≤ i := by
  have h1 := congrArg List.length h.split
  rw [List.length_append, List.length_drop, lst_length] at h1
  have := actsL_len as
  have := h.le
  omega
/-- More than 400 acts, and bytes behind them: no script. -/
theorem Sofar.many {s : ByteArray} {as : List ActD} {i : Nat} (h : Sofar s as i) (hi : i < s.size) (hl : 400 ≤ as.length) : ∀ bs, actsO s = some bs → 400 < bs.length := by
  intro bs hb
  obtain ⟨cs, rfl, hc⟩ := actsO_more h.split h.right hb
  have : cs ≠ [] := by
    rintro rfl
    have := congrArg List.length hc
    rw [List.length_drop, lst_length] at this
    have h0 : (actsL []).length = 0 := rfl
    omega
  have := List.length_pos_iff.2 this
  rw [List.length_append]
  omega
end Bw
