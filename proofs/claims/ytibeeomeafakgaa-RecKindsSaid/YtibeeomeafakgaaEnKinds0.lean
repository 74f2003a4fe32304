/- Of a record that may be, which other kinds may be. No program in sight. -/
import Derived.Test.YtibeeomeafakgaaEnPure
namespace Bw
set_option linter.unusedVariables false

theorem RecD.ofOk {r : RecD} (o : r.Ok) : r.rightR = true := by
  obtain ⟨k, t, key, val, p, u, n, l⟩ := r
  obtain ⟨k1, k7, t1, t0, key1, key0, val1, val0, p1, p0, u1, u0, n1, n0, l1, l0, row⟩ := o
  simp only at k1 k7 t1 t0 key1 key0 val1 val0 p1 p0 u1 u0 n1 n0 l1 l0 row
  simp only [RecD.rightR, Bool.and_eq_true, RecD.same_iff, inB, top5, valB, keyB, rowB, decide_eq_true_eq, Bool.or_eq_true, Bool.not_eq_true', RecD.bare, RecD.mk.injEq, true_and]
  refine ⟨⟨⟨⟨⟨k1, k7⟩, ?_⟩, ?_⟩, ?_⟩, ⟨⟨⟨⟨by omega, p1⟩, u1.1, decide_eq_true u1.2⟩, n1.1, decide_eq_true n1.2⟩, row, l1⟩⟩
  · refine ⟨?_, ?_, ?_, ?_, ?_, ?_, ?_⟩
    · cases h : txnB k
      · simp [t0 h]
      · simp
    · cases h : hkeyB k
      · simp [key0 h]
      · simp
    · cases h : hvalB k
      · simp [val0 h]
      · simp
    · cases h : passB k
      · simp [p0 h]
      · simp
    · cases h : passB k
      · simp [u0 h]
      · simp
    · cases h : passB k
      · simp [n0 h]
      · simp
    · cases h : pairsB k
      · simp [l0 h]
      · simp
  · cases h : txnB k
    · exact .inl rfl
    · exact .inr ⟨(t1 h).1, decide_eq_true (t1 h).2⟩
  · cases h : hkeyB k
    · exact .inl rfl
    · have := key1 h; exact .inr ⟨by omega, by omega⟩

def aloneB (k : Int) : Bool := k == 1 || k == 4 || k == 5
/-- May it be, made kind j? -/
def kindsB (r : RecD) (j : Int) : Bool := j == r.k || (aloneB r.k && aloneB j) || (r.k == 2 && decide (r.val = ByteArray.empty) && j == 3) || (r.k == 3 && j == 2) || (r.k == 7 && decide (r.l = []) && j == 6) || (r.k == 6 && j == 7)

theorem kinds_right {r : RecD} (h : r.rightR = true) (j : Int) : RecD.rightR { r with k := j } = kindsB r j := by
  have o := RecD.ok h
  have k1 := o.k1; have k7 := o.k7
  rw [Bool.eq_iff_iff]
  constructor
  · intro h'
    have o' := RecD.ok h'
    have j1 : 1 ≤ j := o'.k1
    have j7 : j ≤ 7 := o'.k7
    have a1 := o.t1; have a2 := o.t0; have a3 := o.key1; have a4 := o.key0; have a5 := o.val0; have a6 := o.l0
    have b1 : txnB j = true → 1 ≤ r.t ∧ r.t ≤ 1099511627776 := o'.t1
    have b2 : txnB j = false → r.t = 0 := o'.t0
    have b3 : hkeyB j = true → 1 ≤ r.key.size ∧ r.key.size ≤ 16 := o'.key1
    have b4 : hkeyB j = false → r.key = ByteArray.empty := o'.key0
    have b5 : hvalB j = false → r.val = ByteArray.empty := o'.val0
    have b6 : pairsB j = false → r.l = [] := o'.l0
    have ke : r.key = ByteArray.empty → r.key.size = 0 := fun e => by rw [e]; rfl
    have hk : r.k = 1 ∨ r.k = 2 ∨ r.k = 3 ∨ r.k = 4 ∨ r.k = 5 ∨ r.k = 6 ∨ r.k = 7 := by omega
    have hj : j = 1 ∨ j = 2 ∨ j = 3 ∨ j = 4 ∨ j = 5 ∨ j = 6 ∨ j = 7 := by omega
    clear o o' h h'
    unfold kindsB
    generalize r.k = K at *
    rcases hk with rfl | rfl | rfl | rfl | rfl | rfl | rfl <;> rcases hj with rfl | rfl | rfl | rfl | rfl | rfl | rfl <;>
      (simp [txnB, hkeyB, hvalB, pairsB] at a1 a2 a3 a4 a5 a6 b1 b2 b3 b4 b5 b6; first | omega | (have := ke b4; omega) | (have := ke a4; omega) | (simp [aloneB, *]; done))
  · intro h'
    have hk : r.k = 1 ∨ r.k = 2 ∨ r.k = 3 ∨ r.k = 4 ∨ r.k = 5 ∨ r.k = 6 ∨ r.k = 7 := by omega
    simp only [kindsB, aloneB, Bool.or_eq_true, Bool.and_eq_true, beq_iff_eq, decide_eq_true_eq] at h'
    have hv := o.val1; have hl := o.l1; have hp := o.p1; have hu := o.u1; have hn := o.n1; have hrow := o.row
    have mk : ∀ (jj : Int), 1 ≤ jj → jj ≤ 7 → (txnB jj = txnB r.k) → (hkeyB jj = hkeyB r.k) → (passB jj = passB r.k) → (hvalB jj = false → r.val = ByteArray.empty) → (pairsB jj = false → r.l = []) → RecD.rightR { r with k := jj } = true := by
      intro jj q1 q7 e1 e2 e3 e4 e5
      exact RecD.ofOk ⟨q1, q7, fun e => o.t1 (by rw [← e1]; exact e), fun e => o.t0 (by rw [← e1]; exact e), fun e => o.key1 (by rw [← e2]; exact e), fun e => o.key0 (by rw [← e2]; exact e), hv, e4, hp, fun e => o.p0 (by rw [← e3]; exact e), hu, fun e => o.u0 (by rw [← e3]; exact e), hn, fun e => o.n0 (by rw [← e3]; exact e), hl, e5, hrow⟩
    rcases h' with ((((h' | ⟨h1, h2⟩) | ⟨⟨h1, h2⟩, h3⟩) | ⟨h1, h2⟩) | ⟨⟨h1, h2⟩, h3⟩) | ⟨h1, h2⟩
    · subst h'; exact h
    · refine mk j (by omega) (by omega) ?_ ?_ ?_ ?_ ?_
      · rcases h1 with (h1 | h1) | h1 <;> rcases h2 with (h2 | h2) | h2 <;> rw [h1, h2] <;> rfl
      · rcases h1 with (h1 | h1) | h1 <;> rcases h2 with (h2 | h2) | h2 <;> rw [h1, h2] <;> rfl
      · rcases h1 with (h1 | h1) | h1 <;> rcases h2 with (h2 | h2) | h2 <;> rw [h1, h2] <;> rfl
      · intro _; exact o.val0 (by rcases h1 with (h1 | h1) | h1 <;> rw [h1] <;> rfl)
      · intro _; exact o.l0 (by rcases h1 with (h1 | h1) | h1 <;> rw [h1] <;> rfl)
    · refine mk j (by omega) (by omega) (by rw [h1, h3]; rfl) (by rw [h1, h3]; rfl) (by rw [h1, h3]; rfl) (fun _ => h2) (fun _ => o.l0 (by rw [h1]; rfl))
    · refine mk j (by omega) (by omega) (by rw [h1, h2]; rfl) (by rw [h1, h2]; rfl) (by rw [h1, h2]; rfl) (fun _ => o.val0 (by rw [h1]; rfl)) (fun _ => o.l0 (by rw [h1]; rfl))
    · refine mk j (by omega) (by omega) (by rw [h1, h3]; rfl) (by rw [h1, h3]; rfl) (by rw [h1, h3]; rfl) (fun _ => o.val0 (by rw [h1]; rfl)) (fun _ => h2)
    · refine mk j (by omega) (by omega) (by rw [h1, h2]; rfl) (by rw [h1, h2]; rfl) (by rw [h1, h2]; rfl) (fun _ => o.val0 (by rw [h1]; rfl)) (fun _ => o.l0 (by rw [h1]; rfl))
end Bw
