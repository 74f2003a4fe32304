/- The document's guess of an act; scripts one behind the other, and without their last byte. No program in sight. -/
import Derived.Test.YtkkgcmnipdkeeaaDoorScRead
namespace Bw
set_option linter.unusedVariables false
def gOne (s : ByteArray) (i : Nat) : Int × Nat := (getV s i 1, i + 1)
def gText (s : ByteArray) (i : Nat) : ByteArray × Nat := (textS s i, (textTo s i).toNat)
def gOnes (s : ByteArray) : Nat → Nat → List Int × Nat
  | 0, i => ([], i)
  | m + 1, i => (getV s i 1 :: (gOnes s m (i + 1)).1, (gOnes s m (i + 1)).2)
def gFates (s : ByteArray) (i : Nat) : List Int × Nat := gOnes s (gOne s i).1.toNat (gOne s i).2
def hF (s : ByteArray) (k t : Int) (key val : ByteArray) (n : Int) (i : Nat) : ActD × Nat := (⟨k, t, key, val, n, (ifR (bF k) [] (gFates s) i).1⟩, (ifR (bF k) [] (gFates s) i).2)
def hN (s : ByteArray) (k t : Int) (key val : ByteArray) (i : Nat) : ActD × Nat := hF s k t key val (ifR (bN k) 0 (gOne s) i).1 (ifR (bN k) 0 (gOne s) i).2
def hV (s : ByteArray) (k t : Int) (key : ByteArray) (i : Nat) : ActD × Nat := hN s k t key (ifR (bV k) ByteArray.empty (gText s) i).1 (ifR (bV k) ByteArray.empty (gText s) i).2
def hK (s : ByteArray) (k t : Int) (i : Nat) : ActD × Nat := hV s k t (ifR (bK k) ByteArray.empty (gText s) i).1 (ifR (bK k) ByteArray.empty (gText s) i).2
def hT (s : ByteArray) (k : Int) (i : Nat) : ActD × Nat := hK s k (ifR (bT k) 0 (gOne s) i).1 (ifR (bT k) 0 (gOne s) i).2
def guessA (s : ByteArray) (i : Nat) : ActD := (hT s (getV s i 1) (i + 1)).1
def Gd {α : Type} (s : ByteArray) (f : List UInt8 → Option (α × List UInt8)) (g : Nat → α × Nat) : Prop :=
  ∀ i, i ≤ s.size → ∀ v t, f ((lst s).drop i) = some (v, t) → (g i).1 = v ∧ (g i).2 ≤ s.size ∧ t = (lst s).drop (g i).2
theorem gd_one (s : ByteArray) : Gd s (rNum 1) (gOne s) := by
  intro i hi v t h
  rw [rNum1] at h
  split at h
  · injection h with h
    injection h with h1 h2
    subst h1 h2
    exact ⟨rfl, by show i + 1 ≤ s.size; omega, rfl⟩
  · cases h
theorem gd_text (s : ByteArray) : Gd s rText (gText s) := by
  intro i hi v t h
  rw [rText_at' s i hi] at h
  split at h
  · rename_i hn
    injection h with h
    injection h with h1 h2
    subst h1 h2
    exact ⟨rfl, (textTo_le s i hi hn).2, rfl⟩
  · cases h
theorem gd_if {α : Type} {s : ByteArray} {f : List UInt8 → Option (α × List UInt8)} {g : Nat → α × Nat} (h : Gd s f g) (b : Bool) (z : α) : Gd s (rIf b z f) (ifR b z g) := by
  intro i hi
  cases b
  · intro v t h2
    simp only [rIf, Bool.false_eq_true, if_false, Option.some.injEq, Prod.mk.injEq] at h2
    exact ⟨h2.1, hi, h2.2.symm⟩
  · exact h i hi
theorem gd_bind {α β : Type} {s : ByteArray} {f : List UInt8 → Option (α × List UInt8)} {g : Nat → α × Nat} {f' : α → List UInt8 → Option (β × List UInt8)} {g' : α → Nat → β × Nat} (h : Gd s f g) (h' : ∀ a, Gd s (f' a) (g' a)) : Gd s (fun l => (f l).bind fun x => f' x.1 x.2) (fun i => g' (g i).1 (g i).2) := by
  intro i hi v t h2
  dsimp only at h2 ⊢
  obtain ⟨x, hx, h2⟩ := Option.bind_eq_some_iff.1 h2
  obtain ⟨b1, b2, b3⟩ := h i hi x.1 x.2 hx
  rw [b3] at h2
  rw [b1]
  exact h' x.1 _ b2 v t h2
theorem gd_map {α β : Type} {s : ByteArray} {f : List UInt8 → Option (α × List UInt8)} {g : Nat → α × Nat} (h : Gd s f g) (c : α → β) : Gd s (fun l => (f l).map fun x => (c x.1, x.2)) (fun i => (c (g i).1, (g i).2)) := by
  intro i hi v t h2
  dsimp only at h2 ⊢
  obtain ⟨x, hx, h2⟩ := Option.map_eq_some_iff.1 h2
  injection h2 with h3 h4
  obtain ⟨b1, b2, b3⟩ := h i hi x.1 x.2 hx
  subst h3 h4
  exact ⟨by rw [b1], b2, b3⟩
theorem gd_ones (s : ByteArray) : ∀ m, Gd s (rOnes m) (gOnes s m)
  | 0 => by
    intro i hi v t h2
    simp only [rOnes, Option.some.injEq, Prod.mk.injEq] at h2
    exact ⟨h2.1, hi, h2.2.symm⟩
  | m + 1 => by
    intro i hi v t h2
    rw [rOnes] at h2
    obtain ⟨x, hx, h2⟩ := Option.bind_eq_some_iff.1 h2
    obtain ⟨y, hy, h2⟩ := Option.map_eq_some_iff.1 h2
    injection h2 with h3 h4
    obtain ⟨b1, b2, b3⟩ := gd_one s i hi x.1 x.2 hx
    rw [b3] at hy
    obtain ⟨c1, c2, c3⟩ := gd_ones s m _ b2 y.1 y.2 hy
    subst h3 h4
    refine ⟨?_, c2, c3⟩
    show getV s i 1 :: (gOnes s m (i + 1)).1 = _
    have e1 : getV s i 1 = x.1 := b1
    have e2 : (gOnes s m (i + 1)).1 = y.1 := c1
    rw [e1, e2]
theorem gd_fates (s : ByteArray) : Gd s rFates (gFates s) := by
  have h := gd_bind (gd_one s) (f' := fun (m : Int) l => rOnes m.toNat l) (g' := fun (m : Int) i => gOnes s m.toNat i) (fun m => gd_ones s m.toNat)
  exact h
theorem gd_F (s : ByteArray) (k t : Int) (key val : ByteArray) (n : Int) : Gd s (rF k t key val n) (hF s k t key val n) := gd_map (gd_if (gd_fates s) (bF k) []) (fun f => (⟨k, t, key, val, n, f⟩ : ActD))
theorem gd_N (s : ByteArray) (k t : Int) (key val : ByteArray) : Gd s (rN k t key val) (hN s k t key val) := gd_bind (gd_if (gd_one s) (bN k) 0) (fun n => gd_F s k t key val n)
theorem gd_V (s : ByteArray) (k t : Int) (key : ByteArray) : Gd s (rV k t key) (hV s k t key) := gd_bind (gd_if (gd_text s) (bV k) ByteArray.empty) (fun val => gd_N s k t key val)
theorem gd_K (s : ByteArray) (k t : Int) : Gd s (rK k t) (hK s k t) := gd_bind (gd_if (gd_text s) (bK k) ByteArray.empty) (fun key => gd_V s k t key)
theorem gd_body (s : ByteArray) (k : Int) : Gd s (rBody k) (hT s k) := gd_bind (gd_if (gd_one s) (bT k) 0) (fun t => gd_K s k t)
theorem guess_some {s : ByteArray} {i : Nat} (hi : i < s.size) {a : ActD} {t : List UInt8} (h : rAct1 ((lst s).drop i) = some (a, t)) : guessA s i = a := by
  unfold rAct1 at h
  rw [rAct_body s i hi] at h
  by_cases hk : getV s i 1 ≤ 11
  · rw [if_pos hk] at h
    obtain ⟨x, hx, h⟩ := Option.bind_eq_some_iff.1 h
    split at h
    · injection h with h
      obtain ⟨b1, -, -⟩ := gd_body s (getV s i 1) (i + 1) hi x.1 x.2 hx
      rw [guessA, b1, h]
    · cases h
  · rw [if_neg hk] at h; cases h
/-- No act's bytes stand where none is read. -/
theorem none_at {l : List UInt8} (h : rAct1 l = none) {a : ActD} (ha : a.right = true) (t : List UInt8) : l ≠ a.encL ++ t := by
  intro e
  rw [e, rAct1_enc ha] at h
  cases h
/-! Scripts one behind the other. -/
theorem actsE_or (s : ByteArray) : (actsE s = 0 ∧ ∃ as, actsO s = some as ∧ as.length ≤ 400 ∧ actsD s = as) ∨ (actsE s = 12 ∧ actsD s = [] ∧ (actsO s = none ∨ ∃ as, actsO s = some as ∧ 400 < as.length)) := by
  cases h : actsO s with
  | none => exact .inr ⟨by simp [actsE, h], by simp [actsD, actsE, h], .inl rfl⟩
  | some as =>
    by_cases hl : as.length ≤ 400
    · exact .inl ⟨by simp [actsE, h, hl], as, rfl, hl, by simp [actsD, actsE, h, hl]⟩
    · exact .inr ⟨by simp [actsE, h, hl], by simp [actsD, actsE, h, hl], .inr ⟨as, rfl, by omega⟩⟩
theorem acts_ok {s : ByteArray} {as : List ActD} (h : actsO s = some as) (hl : as.length ≤ 400) : actsE s = 0 ∧ actsD s = as := ⟨by simp [actsE, h, hl], by simp [actsD, actsE, h, hl]⟩
theorem acts_bad {s : ByteArray} (h : ∀ as, actsO s = some as → 400 < as.length) : actsE s = 12 ∧ actsD s = [] := by
  cases e : actsO s with
  | none => exact ⟨by simp [actsE, e], by simp [actsD, actsE, e]⟩
  | some as =>
    have := h as e
    have hn : ¬ as.length ≤ 400 := by omega
    exact ⟨by simp [actsE, e, hn], by simp [actsD, actsE, e, hn]⟩
theorem acts_join {s t : ByteArray} {as bs : List ActD} (h1 : actsO s = some as) (h2 : actsO t = some bs) : actsO (s ++ t) = some (as ++ bs) := by
  obtain ⟨a1, a2⟩ := actsO_iff.1 h1
  obtain ⟨b1, b2⟩ := actsO_iff.1 h2
  refine actsO_iff.2 ⟨?_, fun a ha => ?_⟩
  · have e : lst (s ++ t) = lst s ++ lst t := by simp [lst]
    rw [e, a1, b1, actsL_append]
  · rcases List.mem_append.1 ha with ha | ha
    · exact a2 a ha
    · exact b2 a ha
theorem acts_empty {s : ByteArray} {as : List ActD} (h : actsO s = some as) : s.size = 0 ↔ as = [] := by
  obtain ⟨a1, -⟩ := actsO_iff.1 h
  have hl := congrArg List.length a1
  rw [lst_length] at hl
  constructor
  · intro h0
    have := actsL_len as
    exact List.eq_nil_of_length_eq_zero (by omega)
  · rintro rfl
    have : (actsL []).length = 0 := rfl
    omega
/-- A script without its last byte. -/
theorem acts_part {s : ByteArray} {as : List ActD} {z : ActD} (h : actsO s = some (as ++ [z])) : (z.encL.length = 1 → actsO (str ((lst s).take (s.size - 1))) = some as) ∧ (z.encL.length ≠ 1 → actsO (str ((lst s).take (s.size - 1))) = none) := by
  obtain ⟨a1, a2⟩ := actsO_iff.1 h
  have hz : z.right = true := a2 z (by simp)
  have has : ∀ a ∈ as, a.right = true := fun a ha => a2 a (by simp [ha])
  have e1 : actsL (as ++ [z]) = actsL as ++ z.encL := by rw [actsL_append]; simp [actsL]
  have hl := congrArg List.length a1
  rw [lst_length, e1, List.length_append] at hl
  have h1 := encL_len z
  have e2 : (lst s).take (s.size - 1) = actsL as ++ z.encL.take (z.encL.length - 1) := by
    rw [a1, e1, List.take_append, List.take_of_length_le (by omega)]
    congr 2
    omega
  rw [e2]
  constructor
  · intro h2
    refine actsO_iff.2 ⟨?_, has⟩
    rw [lst_str, h2]; simp
  · intro h2
    refine actsO_none (lst_str _) has ?_ ?_
    · intro h3
      have := congrArg List.length h3
      rw [List.length_take] at this
      simp at this
      omega
    · cases h3 : rAct1 (z.encL.take (z.encL.length - 1)) with
      | none => rfl
      | some x =>
        exfalso
        obtain ⟨b1, b2⟩ := rAct1_inv (a := x.1) (t := x.2) h3
        have h4 : z.encL = x.1.encL ++ (x.2 ++ z.encL.drop (z.encL.length - 1)) := by
          rw [← List.append_assoc, ← b1, List.take_append_drop]
        have h5 := rAct1_enc hz []
        rw [List.append_nil, h4, rAct1_enc b2] at h5
        injection h5 with h5
        injection h5 with _ h5
        have := congrArg List.length h5
        rw [List.length_append, List.length_drop] at this
        simp at this
        omega
/-- Acts of one byte. -/
def oneA (k : Int) : ActD := ⟨k, 0, ByteArray.empty, ByteArray.empty, 0, []⟩
theorem one_enc : ∀ i < 4, (oneA ((7 + i : Nat) : Int)).right = true ∧ (oneA ((7 + i : Nat) : Int)).encL = [UInt8.ofNat (7 + i)] := by decide +kernel
def manyA (k : Nat) : List ActD := (List.range k).map fun i => oneA ((7 + i % 4 : Nat) : Int)
def manyL (k : Nat) : List UInt8 := (List.range k).map fun i => UInt8.ofNat (7 + i % 4)
theorem many_right (k : Nat) : ∀ a ∈ manyA k, a.right = true := by
  intro a ha
  obtain ⟨i, -, rfl⟩ := List.mem_map.1 ha
  exact (one_enc (i % 4) (by omega)).1
theorem many_acts (k : Nat) : actsL (manyA k) = manyL k := by
  unfold actsL manyA manyL
  rw [List.flatMap_map, ← List.flatMap_singleton' (List.map _ _), List.flatMap_map]
  congr 1
  funext i
  exact (one_enc (i % 4) (by omega)).2
theorem many_len (k : Nat) : (manyA k).length = k := by simp [manyA]
theorem many_acts' (k : Nat) : actsO (str (manyL k)) = some (manyA k) := actsO_iff.2 ⟨by rw [lst_str, many_acts], many_right k⟩
theorem many_bad (k : Nat) (b : UInt8) (hb : 12 ≤ b.toNat) : actsO (str (manyL k ++ [b])) = none := by
  refine actsO_none (as := manyA k) (r := [b]) (by rw [lst_str, many_acts]) (many_right k) (by simp) ?_
  have : rNum 1 [b] = some ((b.toNat : Int), []) := by
    unfold rNum
    rw [if_pos (by simp)]
    have := b.toNat_lt
    simp [le]
    omega
  unfold rAct1 rAct
  rw [this]
  simp only [Option.bind_some]
  rw [if_neg (by omega)]
  rfl
end Bw
