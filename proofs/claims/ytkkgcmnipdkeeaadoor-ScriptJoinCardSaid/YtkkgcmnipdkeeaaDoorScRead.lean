/- What the reader of acts does, and the document's guess, as plain functions; that these are what the bytes say. No program in sight. -/
import Derived.Test.YtkkgcmnipdkeeaaDoorScPure
import Derived.Test.YtkkgcmnipdkeeaaDoorFieldFacts
namespace Bw
set_option linter.unusedVariables false
/-- Where a reader stands, and whether all was well. -/
structure RSt where
  i : Nat
  ok : Bool
def oneR (s : ByteArray) (st : RSt) : Int × RSt := (getV s st.i 1, ⟨st.i + 1, st.ok && decide (roomE s st.i 1 = 0)⟩)
def textR (s : ByteArray) (st : RSt) : ByteArray × RSt := (textS s st.i, ⟨max st.i (textTo s st.i).toNat, st.ok && decide (textE s st.i = 0)⟩)
def ifR {α σ : Type} (b : Bool) (z : α) (f : σ → α × σ) (st : σ) : α × σ := if b then f st else (z, st)
def onesR (s : ByteArray) : Nat → RSt → List Int × RSt
  | 0, st => ([], st)
  | m + 1, st => ((oneR s st).1 :: (onesR s m (oneR s st).2).1, (onesR s m (oneR s st).2).2)
def fatesR (s : ByteArray) (st : RSt) : List Int × RSt := onesR s (oneR s st).1.toNat (oneR s st).2
/-- An act whose kind is k, behind its kind. -/
def actR (s : ByteArray) (k : Int) (st : RSt) : ActD × RSt :=
  let t := ifR (bT k) 0 (oneR s) st
  let key := ifR (bK k) ByteArray.empty (textR s) t.2
  let val := ifR (bV k) ByteArray.empty (textR s) key.2
  let n := ifR (bN k) 0 (oneR s) val.2
  let f := ifR (bF k) [] (fatesR s) n.2
  (⟨k, t.1, key.1, val.1, n.1, f.1⟩, f.2)
/-- A reader's step does what the bytes say. -/
def Rd {α : Type} (s : ByteArray) (f : List UInt8 → Option (α × List UInt8)) (g : RSt → α × RSt) : Prop :=
  ∀ st : RSt, (st.ok = false → (g st).2.ok = false) ∧ (st.ok = true → st.i ≤ s.size → (f ((lst s).drop st.i) = none → (g st).2.ok = false) ∧ ∀ v t, f ((lst s).drop st.i) = some (v, t) → (g st).1 = v ∧ (g st).2.ok = true ∧ (g st).2.i ≤ s.size ∧ t = (lst s).drop (g st).2.i)
theorem roomE1 (s : ByteArray) (i : Nat) : roomE s i 1 = 0 ↔ i < s.size := by
  unfold roomE
  constructor
  · intro h
    split at h
    · cases h
    · split at h
      · cases h
      · omega
  · intro h
    rw [if_neg (by omega), if_neg (by omega)]
theorem rNum1 (s : ByteArray) (i : Nat) : rNum 1 ((lst s).drop i) = if i < s.size then some (getV s i 1, (lst s).drop (i + 1)) else none := by
  unfold rNum
  rw [List.length_drop, lst_length, List.drop_drop]
  by_cases h : i < s.size
  · rw [if_pos (by omega), if_pos h]
    have h1 := (roomE1 s i).2 h
    have e : getV s i 1 = (le (((lst s).drop i).take 1) : Nat) := by rw [getV, if_pos h1]; simp
    rw [e]
    have hlt := le_lt (((lst s).drop i).take 1)
    have htl : (((lst s).drop i).take 1).length = 1 := by rw [List.length_take, List.length_drop, lst_length]; omega
    rw [htl] at hlt
    congr 2
    omega
  · rw [if_neg (by omega), if_neg h]
theorem getV1_le (s : ByteArray) (i : Nat) : 0 ≤ getV s i 1 ∧ getV s i 1 ≤ 255 := by
  by_cases h : i < s.size
  · have := rNum1 s i
    rw [if_pos h] at this
    exact rNum1_le this
  · have : ¬ roomE s i 1 = 0 := fun hh => h ((roomE1 s i).1 hh)
    rw [getV, if_neg this]; omega
theorem rText_at' (s : ByteArray) (i : Nat) (hi : i ≤ s.size) : rText ((lst s).drop i) = if textE s i = 0 then some (textS s i, (lst s).drop (textTo s i).toNat) else none := by
  by_cases h : i < s.size
  · have hd : (lst s).drop i = (lst s)[i]'(by rw [lst_length]; exact h) :: (lst s).drop (i + 1) := List.drop_eq_getElem_cons _
    have hg : (lst s).getD i 0 = (lst s)[i]'(by rw [lst_length]; exact h) := by
      rw [List.getD_eq_getElem?_getD, List.getElem?_eq_getElem (by rw [lst_length]; exact h)]; rfl
    rw [← hg] at hd
    have e2 : ((lst s).drop (i + 1)).length = s.size - (i + 1) := by rw [List.length_drop, lst_length]
    obtain ⟨b, hb0⟩ : ∃ b, ((lst s).getD i 0).toNat = b := ⟨_, rfl⟩
    rw [hd]
    simp only [rText]
    rw [e2, hb0]
    by_cases hb : b ≤ s.size - (i + 1)
    · have t1 : textE s i = 0 := by
        unfold textE
        rw [if_neg (by omega), if_neg (by rw [Int.toNat_natCast, hb0]; omega)]
      have t2 : textTo s i = ((i + 1 + b : Nat) : Int) := by rw [textTo, if_pos t1, Int.toNat_natCast, hb0]; omega
      have t3 : textS s i = str (((lst s).drop (i + 1)).take b) := by rw [textS, if_pos t1, Int.toNat_natCast, hb0]
      rw [if_pos hb, if_pos t1, t2, t3, List.drop_drop, Int.toNat_natCast]
    · have t1 : ¬ textE s i = 0 := by
        unfold textE
        rw [if_neg (by omega), if_pos (by rw [Int.toNat_natCast, hb0]; omega)]
        omega
      rw [if_neg hb, if_neg t1]
  · have e : i = s.size := by omega
    have hd : (lst s).drop i = [] := List.drop_of_length_le (by rw [lst_length]; omega)
    rw [hd]
    have : ¬ textE s i = 0 := by
      unfold textE
      rw [if_neg (by omega), if_pos (by omega)]
      omega
    rw [if_neg this]; rfl
theorem textTo_le (s : ByteArray) (i : Nat) (hi : i ≤ s.size) (h : textE s i = 0) : i + 1 ≤ (textTo s i).toNat ∧ (textTo s i).toNat ≤ s.size := by
  have h' := h
  unfold textE at h'
  simp only [Int.toNat_natCast] at h'
  unfold textTo
  rw [if_pos h]
  simp only [Int.toNat_natCast]
  split at h'
  · cases h'
  · split at h'
    · cases h'
    · omega
theorem rd_one (s : ByteArray) : Rd s (rNum 1) (oneR s) := by
  rintro ⟨i, ok⟩
  refine ⟨fun h => ?_, fun h hi => ⟨fun h2 => ?_, fun v t h2 => ?_⟩⟩
  · simp only at h; simp [oneR, h]
  · simp only at h hi h2
    rw [rNum1] at h2
    split at h2
    · cases h2
    · rename_i hn
      have : ¬ roomE s i 1 = 0 := fun hh => hn ((roomE1 s i).1 hh)
      simp [oneR, this]
  · simp only at h hi h2
    rw [rNum1] at h2
    split at h2
    · rename_i hn
      injection h2 with h2
      injection h2 with h3 h4
      have := (roomE1 s i).2 hn
      subst h3 h4
      refine ⟨rfl, ?_, ?_, rfl⟩
      · show (ok && decide (roomE s i 1 = 0)) = true
        simp [h, this]
      · show i + 1 ≤ s.size
        omega
    · cases h2
theorem rd_text (s : ByteArray) : Rd s rText (textR s) := by
  rintro ⟨i, ok⟩
  refine ⟨fun h => ?_, fun h hi => ⟨fun h2 => ?_, fun v t h2 => ?_⟩⟩
  · simp only at h; simp [textR, h]
  · simp only at h hi h2
    rw [rText_at' s i hi] at h2
    split at h2
    · cases h2
    · rename_i hn
      simp [textR, hn]
  · simp only at h hi h2
    rw [rText_at' s i hi] at h2
    split at h2
    · rename_i hn
      injection h2 with h2
      injection h2 with h3 h4
      subst h3 h4
      have := textTo_le s i hi hn
      have hm : max i (textTo s i).toNat = (textTo s i).toNat := by omega
      refine ⟨rfl, ?_, ?_, ?_⟩
      · show (ok && decide (textE s i = 0)) = true
        simp [h, hn]
      · show max i (textTo s i).toNat ≤ s.size
        omega
      · show _ = (lst s).drop (max i (textTo s i).toNat)
        rw [hm]
    · cases h2
theorem rd_if {α : Type} {s : ByteArray} {f : List UInt8 → Option (α × List UInt8)} {g : RSt → α × RSt} (h : Rd s f g) (b : Bool) (z : α) : Rd s (rIf b z f) (ifR b z g) := by
  intro st
  cases b
  · refine ⟨fun h => h, fun h hi => ⟨fun h2 => (by cases h2), fun v t h2 => ?_⟩⟩
    simp only [rIf, Bool.false_eq_true, if_false, Option.some.injEq, Prod.mk.injEq] at h2
    exact ⟨h2.1, h, hi, h2.2.symm⟩
  · exact h st
theorem rd_ones (s : ByteArray) : ∀ m, Rd s (rOnes m) (onesR s m)
  | 0 => by
    intro st
    refine ⟨fun h => h, fun h hi => ⟨fun h2 => (by cases h2), fun v t h2 => ?_⟩⟩
    simp only [rOnes, Option.some.injEq, Prod.mk.injEq] at h2
    exact ⟨h2.1, h, hi, h2.2.symm⟩
  | m + 1 => by
    intro st
    have h1 := rd_one s st
    have h2 := rd_ones s m (oneR s st).2
    refine ⟨fun h => h2.1 (h1.1 h), fun h hi => ?_⟩
    obtain ⟨a1, a2⟩ := h1.2 h hi
    cases e : rNum 1 ((lst s).drop st.i) with
    | none =>
      have := h2.1 (a1 e)
      refine ⟨fun _ => this, fun v t h3 => ?_⟩
      rw [rOnes, e] at h3; cases h3
    | some x =>
      obtain ⟨b1, b2, b3, b4⟩ := a2 x.1 x.2 e
      obtain ⟨c1, c2⟩ := h2.2 b2 b3
      rw [← b4] at c1 c2
      refine ⟨fun h3 => ?_, fun v t h3 => ?_⟩
      · rw [rOnes, e] at h3
        simp only [Option.bind_some, Option.map_eq_none_iff] at h3
        exact c1 h3
      · rw [rOnes, e] at h3
        simp only [Option.bind_some] at h3
        obtain ⟨y, hy, h3⟩ := Option.map_eq_some_iff.1 h3
        injection h3 with h4 h5
        obtain ⟨d1, d2, d3, d4⟩ := c2 y.1 y.2 hy
        subst h4 h5
        refine ⟨?_, d2, d3, d4⟩
        show (oneR s st).1 :: (onesR s m (oneR s st).2).1 = _
        rw [b1, d1]
theorem rd_fates (s : ByteArray) : Rd s rFates (fatesR s) := by
  intro st
  have h1 := rd_one s st
  have h2 := rd_ones s (oneR s st).1.toNat (oneR s st).2
  refine ⟨fun h => h2.1 (h1.1 h), fun h hi => ?_⟩
  obtain ⟨a1, a2⟩ := h1.2 h hi
  cases e : rNum 1 ((lst s).drop st.i) with
  | none =>
    have := h2.1 (a1 e)
    refine ⟨fun _ => this, fun v t h3 => ?_⟩
    rw [rFates, e] at h3; cases h3
  | some x =>
    obtain ⟨b1, b2, b3, b4⟩ := a2 x.1 x.2 e
    obtain ⟨c1, c2⟩ := h2.2 b2 b3
    rw [← b4] at c1 c2
    rw [b1] at c1 c2
    have hf : rFates ((lst s).drop st.i) = rOnes x.1.toNat x.2 := by rw [rFates, e]; rfl
    have hg : fatesR s st = onesR s x.1.toNat (oneR s st).2 := by rw [fatesR, b1]
    rw [hf, hg]
    exact ⟨c1, c2⟩
/-- One reading behind another one. -/
theorem rd_bind {α β : Type} {s : ByteArray} {f : List UInt8 → Option (α × List UInt8)} {g : RSt → α × RSt} {f' : α → List UInt8 → Option (β × List UInt8)} {g' : α → RSt → β × RSt} (h : Rd s f g) (h' : ∀ a, Rd s (f' a) (g' a)) : Rd s (fun l => (f l).bind fun x => f' x.1 x.2) (fun st => g' (g st).1 (g st).2) := by
  intro st
  have h1 := h st
  have h2 := h' (g st).1 (g st).2
  refine ⟨fun h => h2.1 (h1.1 h), fun h hi => ?_⟩
  dsimp only
  obtain ⟨a1, a2⟩ := h1.2 h hi
  cases e : f ((lst s).drop st.i) with
  | none =>
    have := h2.1 (a1 e)
    exact ⟨fun _ => this, fun v t h3 => (by cases h3)⟩
  | some x =>
    obtain ⟨b1, b2, b3, b4⟩ := a2 x.1 x.2 e
    obtain ⟨c1, c2⟩ := h2.2 b2 b3
    rw [← b4, b1] at c1 c2
    rw [b1]
    exact ⟨c1, c2⟩
theorem rd_map {α β : Type} {s : ByteArray} {f : List UInt8 → Option (α × List UInt8)} {g : RSt → α × RSt} (h : Rd s f g) (c : α → β) : Rd s (fun l => (f l).map fun x => (c x.1, x.2)) (fun st => (c (g st).1, (g st).2)) := by
  intro st
  have h1 := h st
  refine ⟨h1.1, fun ho hi => ?_⟩
  dsimp only
  obtain ⟨a1, a2⟩ := h1.2 ho hi
  refine ⟨fun h3 => a1 (by simpa using h3), fun v t h3 => ?_⟩
  obtain ⟨x, hx, h3⟩ := Option.map_eq_some_iff.1 h3
  injection h3 with h4 h5
  subst h4 h5
  obtain ⟨b1, b2, b3, b4⟩ := a2 x.1 x.2 hx
  exact ⟨by rw [b1], b2, b3, b4⟩
/-! What is behind an act's kind. -/
def rF (k t : Int) (key val : ByteArray) (n : Int) (l : List UInt8) : Option (ActD × List UInt8) := (rIf (bF k) [] rFates l).map fun f => (⟨k, t, key, val, n, f.1⟩, f.2)
def rN (k t : Int) (key val : ByteArray) (l : List UInt8) : Option (ActD × List UInt8) := (rIf (bN k) 0 (rNum 1) l).bind fun n => rF k t key val n.1 n.2
def rV (k t : Int) (key : ByteArray) (l : List UInt8) : Option (ActD × List UInt8) := (rIf (bV k) ByteArray.empty rText l).bind fun val => rN k t key val.1 val.2
def rK (k t : Int) (l : List UInt8) : Option (ActD × List UInt8) := (rIf (bK k) ByteArray.empty rText l).bind fun key => rV k t key.1 key.2
def rBody (k : Int) (l : List UInt8) : Option (ActD × List UInt8) := (rIf (bT k) 0 (rNum 1) l).bind fun t => rK k t.1 t.2
def gF (s : ByteArray) (k t : Int) (key val : ByteArray) (n : Int) (st : RSt) : ActD × RSt := (⟨k, t, key, val, n, (ifR (bF k) [] (fatesR s) st).1⟩, (ifR (bF k) [] (fatesR s) st).2)
def gN (s : ByteArray) (k t : Int) (key val : ByteArray) (st : RSt) : ActD × RSt := gF s k t key val (ifR (bN k) 0 (oneR s) st).1 (ifR (bN k) 0 (oneR s) st).2
def gV (s : ByteArray) (k t : Int) (key : ByteArray) (st : RSt) : ActD × RSt := gN s k t key (ifR (bV k) ByteArray.empty (textR s) st).1 (ifR (bV k) ByteArray.empty (textR s) st).2
def gK (s : ByteArray) (k t : Int) (st : RSt) : ActD × RSt := gV s k t (ifR (bK k) ByteArray.empty (textR s) st).1 (ifR (bK k) ByteArray.empty (textR s) st).2
theorem rd_F (s : ByteArray) (k t : Int) (key val : ByteArray) (n : Int) : Rd s (rF k t key val n) (gF s k t key val n) := rd_map (rd_if (rd_fates s) (bF k) []) (fun f => (⟨k, t, key, val, n, f⟩ : ActD))
theorem rd_N (s : ByteArray) (k t : Int) (key val : ByteArray) : Rd s (rN k t key val) (gN s k t key val) := rd_bind (rd_if (rd_one s) (bN k) 0) (fun n => rd_F s k t key val n)
theorem rd_V (s : ByteArray) (k t : Int) (key : ByteArray) : Rd s (rV k t key) (gV s k t key) := rd_bind (rd_if (rd_text s) (bV k) ByteArray.empty) (fun val => rd_N s k t key val)
theorem rd_K (s : ByteArray) (k t : Int) : Rd s (rK k t) (gK s k t) := rd_bind (rd_if (rd_text s) (bK k) ByteArray.empty) (fun key => rd_V s k t key)
theorem rd_body (s : ByteArray) (k : Int) : Rd s (rBody k) (actR s k) := rd_bind (rd_if (rd_one s) (bT k) 0) (fun t => rd_K s k t)
theorem rAct_body (s : ByteArray) (i : Nat) (hi : i < s.size) : rAct ((lst s).drop i) = if getV s i 1 ≤ 11 then rBody (getV s i 1) ((lst s).drop (i + 1)) else none := by
  unfold rAct
  rw [rNum1, if_pos hi]
  rfl
/-- What the reader finds at a place. -/
theorem actR_none {s : ByteArray} {i : Nat} (hi : i < s.size) (hk : getV s i 1 ≤ 11) (h : rAct1 ((lst s).drop i) = none) : (actR s (getV s i 1) ⟨i + 1, true⟩).2.ok = false ∨ (actR s (getV s i 1) ⟨i + 1, true⟩).1.right = false := by
  obtain ⟨-, h1⟩ := rd_body s (getV s i 1) ⟨i + 1, true⟩
  obtain ⟨h2, h3⟩ := h1 rfl (by simp only; omega)
  simp only at h2 h3
  unfold rAct1 at h
  rw [rAct_body s i hi, if_pos hk] at h
  cases e : rBody (getV s i 1) ((lst s).drop (i + 1)) with
  | none => exact .inl (h2 e)
  | some x =>
    obtain ⟨b1, b2, b3, b4⟩ := h3 x.1 x.2 e
    rw [e] at h
    simp only [Option.bind_some] at h
    right
    rw [b1]
    cases hr : x.1.right
    · rfl
    · rw [hr] at h; simp at h
theorem actR_some {s : ByteArray} {i : Nat} (hi : i < s.size) {a : ActD} {t : List UInt8} (h : rAct1 ((lst s).drop i) = some (a, t)) : getV s i 1 ≤ 11 ∧ (actR s (getV s i 1) ⟨i + 1, true⟩).1 = a ∧ (actR s (getV s i 1) ⟨i + 1, true⟩).2.ok = true ∧ (actR s (getV s i 1) ⟨i + 1, true⟩).2.i = i + a.encL.length ∧ a.right = true ∧ i + a.encL.length ≤ s.size ∧ t = (lst s).drop (i + a.encL.length) := by
  have hinv := rAct1_inv h
  unfold rAct1 at h
  rw [rAct_body s i hi] at h
  by_cases hk : getV s i 1 ≤ 11
  · rw [if_pos hk] at h
    obtain ⟨-, h1⟩ := rd_body s (getV s i 1) ⟨i + 1, true⟩
    obtain ⟨h2, h3⟩ := h1 rfl (by simp only; omega)
    simp only at h2 h3
    obtain ⟨x, hx, h⟩ := Option.bind_eq_some_iff.1 h
    split at h
    · rename_i hr
      injection h with h
      obtain ⟨b1, b2, b3, b4⟩ := h3 x.1 x.2 hx
      rw [h] at b1 b4 hr
      simp only at b1 b4 hr
      have hl := congrArg List.length hinv.1
      rw [List.length_append, b4, List.length_drop, List.length_drop, lst_length] at hl
      have e : (actR s (getV s i 1) ⟨i + 1, true⟩).2.i = i + a.encL.length := by omega
      exact ⟨hk, b1, b2, e, hr, by omega, by rw [← e]; exact b4⟩
    · cases h
  · rw [if_neg hk] at h
    cases h
end Bw
