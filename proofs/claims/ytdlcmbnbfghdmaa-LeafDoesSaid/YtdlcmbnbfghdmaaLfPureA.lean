/- Plain functions on leaves: what the packages leaf and budwoodref10 compute; no program in sight. -/
import Derived.Test.YtdlcmbnbfghdmaaEnPure
import Derived.Test.YtdlcmbnbfghdmaaFieldFacts
namespace Bw

/-- A leaf's data. -/
structure LfD where
  l : List PairD
  high : ByteArray
  next : Int
def noneL : LfD := ⟨[], ByteArray.empty, 0⟩
/-- How many bytes pairs take. -/
def wtL : List PairD → Int
  | [] => 0
  | p :: l => 2 + (p.1.size : Int) + (p.2.size : Int) + wtL l
def LfD.size (x : LfD) : Int := 5 + (x.high.size : Int) + wtL x.l
/-- The last key, or what stood ahead. -/
def lastK : ByteArray → List PairD → ByteArray
  | last, [] => last
  | _, p :: l => lastK p.1 l
def highB (last high : ByteArray) : Bool := decide (high = ByteArray.empty) || (keyB high && ltS last high)
def LfD.right (x : LfD) : Bool := rowFrom ByteArray.empty x.l && highB (lastK ByteArray.empty x.l) x.high && inB x.next 0 1024 && decide (wtL x.l ≤ 231)
def LfD.encL (x : LfD) : List UInt8 := 76 :: UInt8.ofNat x.l.length :: (numL x.next 2 ++ textL x.high ++ pairsL x.l)
def LfD.enc (x : LfD) : ByteArray := if x.right then str x.encL else ByteArray.empty
def LfD.same (a b : LfD) : Bool := decide (a.high = b.high) && a.next == b.next && decide (a.l = b.l)
/-- What bytes may be, and what is left. -/
def rLf : List UInt8 → Option (LfD × List UInt8)
  | b :: n :: t => (rNum 2 t).bind fun m => (rText m.2).bind fun h => (rPairs n.toNat h.2).bind fun ps => if b = 76 then some (⟨ps.1, h.1, m.1⟩, ps.2) else none
  | _ => none
def decLO (s : ByteArray) : Option LfD := if 252 < s.size then none else (rLf (lst s)).bind fun x => if x.1.right = true ∧ bareL x.2 = [] then some x.1 else none
def decLD (s : ByteArray) : LfD := (decLO s).getD noneL
def decLE (s : ByteArray) : Int := if (decLO s).isSome then 0 else 4
/-- Where a key stands, or would. -/
def findI : List PairD → ByteArray → Nat
  | [], _ => 0
  | p :: l, k => if ltS p.1 k then findI l k + 1 else 0
def findB (l : List PairD) (k : ByteArray) : Bool := match l[findI l k]? with | some p => decide (p.1 = k) | none => false
def valAt (l : List PairD) (i : Nat) : ByteArray := (l[i]?.getD (ByteArray.empty, ByteArray.empty)).2
def getE (x : LfD) (k : ByteArray) : Int := if x.right then (if findB x.l k then 0 else 7) else 1
def getS (x : LfD) (k : ByteArray) : ByteArray := if getE x k = 0 then valAt x.l (findI x.l k) else ByteArray.empty
def putL (l : List PairD) (k v : ByteArray) : List PairD := l.take (findI l k) ++ (k, v) :: l.drop (if findB l k then findI l k + 1 else findI l k)
def mayPut (x : LfD) (k v : ByteArray) : Bool := x.right && keyB k && valB v && (decide (x.high = ByteArray.empty) || ltS k x.high)
def pE (x : LfD) (k v : ByteArray) : Int := if mayPut x k v then (if wtL (putL x.l k v) ≤ 231 then 0 else 6) else 1
def pD (x : LfD) (k v : ByteArray) : LfD := if pE x k v = 0 then ⟨putL x.l k v, x.high, x.next⟩ else noneL
def delL (l : List PairD) (k : ByteArray) : List PairD := l.take (findI l k) ++ l.drop (findI l k + 1)
def dE (x : LfD) (k : ByteArray) : Int := if x.right then (if findB x.l k then 0 else 7) else 1
def dD (x : LfD) (k : ByteArray) : LfD := if dE x k = 0 then ⟨delL x.l k, x.high, x.next⟩ else noneL
/-- How many pairs the first half has: from n pairs on, while the half of all is not reached. -/
def halfN (all : Int) (m : Nat) : Nat → Int → List PairD → Nat
  | n, _, [] => n
  | n, had, p :: l => if n + 1 < m ∧ (n = 0 ∨ 2 * had < all) then halfN all m (n + 1) (had + (2 + (p.1.size : Int) + (p.2.size : Int))) l else n
def splitN (l : List PairD) : Nat := halfN (wtL l) l.length 0 0 l
def maySplit (x : LfD) (page : Int) : Bool := x.right && decide (2 ≤ x.l.length) && decide (0 ≤ page) && decide (page ≤ 1023)
def sE (x : LfD) (page : Int) : Int := if maySplit x page then 0 else 1
def sA (x : LfD) (page : Int) : LfD := if maySplit x page then ⟨x.l.take (splitN x.l), (x.l[splitN x.l]?.getD (ByteArray.empty, ByteArray.empty)).1, page + 1⟩ else noneL
def sB (x : LfD) (page : Int) : LfD := if maySplit x page then ⟨x.l.drop (splitN x.l), x.high, x.next⟩ else noneL
def headLt (l : List PairD) (h : ByteArray) : Bool := match l with | [] => false | p :: _ => ltS p.1 h
def mayJoin (a b : LfD) : Bool := a.right && b.right && !decide (a.high = ByteArray.empty) && !headLt b.l a.high && (decide (b.high = ByteArray.empty) || !ltS b.high a.high)
def jE (a b : LfD) : Int := if mayJoin a b then (if wtL (a.l ++ b.l) ≤ 231 then 0 else 6) else 1
def jD (a b : LfD) : LfD := if jE a b = 0 then ⟨a.l ++ b.l, b.high, b.next⟩ else noneL
end Bw
namespace Bw
set_option linter.unusedVariables false

theorem ltS_iff {a b : ByteArray} : ltS a b = true ↔ lst a < lst b := by simp [ltS]
theorem ltS_trans {a b c : ByteArray} (h1 : ltS a b = true) (h2 : ltS b c = true) : ltS a c = true := by
  rw [ltS_iff] at *; exact List.lt_trans h1 h2
theorem ltS_irrefl (a : ByteArray) : ltS a a = false := by
  simp only [ltS, decide_eq_false_iff_not]; exact List.lt_irrefl _
theorem ltS_asymm {a b : ByteArray} (h : ltS a b = true) : ltS b a = false := by
  cases h2 : ltS b a
  · rfl
  · have := ltS_trans h h2; rw [ltS_irrefl] at this; exact this.symm
theorem ltS_total {a b : ByteArray} (h : ltS a b = false) (h2 : ltS b a = false) : a = b := by
  simp only [ltS, decide_eq_false_iff_not] at *
  have : lst a = lst b := List.le_antisymm (List.not_lt.1 h2) (List.not_lt.1 h)
  rw [← str_lst a, this, str_lst]
theorem ltS_le_trans {a b c : ByteArray} (h1 : ltS a b = true) (h2 : ltS c b = false) : ltS a c = true := by
  cases h : ltS b c
  · rw [← ltS_total h h2]; exact h1
  · exact ltS_trans h1 h
theorem le_ltS_trans {a b c : ByteArray} (h1 : ltS b a = false) (h2 : ltS b c = true) : ltS a c = true := by
  cases h : ltS a b
  · rw [ltS_total h h1]; exact h2
  · exact ltS_trans h h2
theorem ltS_ne_empty {a b : ByteArray} (h : ltS a b = true) : b ≠ ByteArray.empty := by
  rintro rfl
  rw [ltS_iff] at h
  have : lst ByteArray.empty = [] := rfl
  rw [this] at h
  exact absurd h (List.not_lt_nil _)

theorem lastK_append (s : ByteArray) (a b : List PairD) : lastK s (a ++ b) = lastK (lastK s a) b := by
  induction a generalizing s with
  | nil => rfl
  | cons p a ih => exact ih p.1
theorem rowFrom_append (s : ByteArray) (a b : List PairD) : rowFrom s (a ++ b) = (rowFrom s a && rowFrom (lastK s a) b) := by
  induction a generalizing s with
  | nil => simp [rowFrom, lastK]
  | cons p a ih => simp only [List.cons_append, rowFrom, lastK, ih p.1, Bool.and_assoc]
theorem lastK_cons_eq (s t : ByteArray) (p : PairD) (l : List PairD) : lastK s (p :: l) = lastK t (p :: l) := rfl
theorem rowFrom_lower {s t : ByteArray} {l : List PairD} (h : rowFrom s l = true) (h1 : ∀ p, l.head? = some p → ltS t p.1 = true) : rowFrom t l = true := by
  cases l with
  | nil => rfl
  | cons p l =>
    simp only [rowFrom, Bool.and_eq_true] at h ⊢
    exact ⟨⟨h.1.1, h1 p rfl⟩, h.2⟩
/-- All keys of a row are above what stands ahead, and at most the last one. -/
theorem rowFrom_above {s : ByteArray} : ∀ {l : List PairD}, rowFrom s l = true → ∀ p ∈ l, ltS s p.1 = true
  | q :: l, h, p, hp => by
    simp only [rowFrom, Bool.and_eq_true] at h
    rcases List.mem_cons.1 hp with rfl | hp
    · exact h.1.2
    · exact ltS_trans h.1.2 (rowFrom_above h.2 p hp)
theorem lastK_ge {s : ByteArray} : ∀ {l : List PairD}, rowFrom s l = true → ltS (lastK s l) s = false ∧ ∀ p ∈ l, ltS (lastK s l) p.1 = false
  | [], h => ⟨ltS_irrefl s, by simp⟩
  | q :: l, h => by
    simp only [rowFrom, Bool.and_eq_true] at h
    obtain ⟨h1, h2⟩ := lastK_ge (s := q.1) h.2
    have hq : ltS (lastK q.1 l) s = false := by
      cases hh : ltS (lastK q.1 l) s
      · rfl
      · have := ltS_trans hh h.1.2
        rw [h1] at this; exact this.symm
    refine ⟨hq, fun p hp => ?_⟩
    rcases List.mem_cons.1 hp with rfl | hp
    · exact h1
    · exact h2 p hp
theorem lastK_mem {s : ByteArray} : ∀ {l : List PairD}, l ≠ [] → ∃ p ∈ l, lastK s l = p.1
  | [p], _ => ⟨p, List.mem_cons_self, rfl⟩
  | p :: q :: l, _ => by
    obtain ⟨r, hr, e⟩ := lastK_mem (s := p.1) (l := q :: l) (by simp)
    exact ⟨r, List.mem_cons_of_mem _ hr, e⟩
theorem rowFrom_keys {s : ByteArray} : ∀ {l : List PairD}, rowFrom s l = true → ∀ p ∈ l, keyB p.1 = true ∧ valB p.2 = true
  | q :: l, h, p, hp => by
    simp only [rowFrom, Bool.and_eq_true] at h
    rcases List.mem_cons.1 hp with rfl | hp
    · exact h.1.1
    · exact rowFrom_keys h.2 p hp
/-- A row is in order. -/
theorem rowFrom_lt {s : ByteArray} {l : List PairD} (h : rowFrom s l = true) {i j : Nat} (hij : i < j) (hj : j < l.length) : ltS (l[i]'(by omega)).1 l[j].1 = true := by
  have e : l = l.take (i + 1) ++ l.drop (i + 1) := (List.take_append_drop _ _).symm
  have h2 := h
  rw [e, rowFrom_append, Bool.and_eq_true] at h2
  have hl : lastK s (l.take (i + 1)) = (l[i]'(by omega)).1 := by
    rw [List.take_succ_eq_append_getElem (by omega), lastK_append]; rfl
  rw [hl] at h2
  exact rowFrom_above h2.2 _ (by rw [show l[j] = (l.drop (i + 1))[j - (i + 1)]'(by rw [List.length_drop]; omega) by rw [List.getElem_drop]; congr 1; omega]; exact List.getElem_mem _)
theorem keyB_ltS {s : ByteArray} (h : keyB s = true) : ltS ByteArray.empty s = true := by
  rw [ltS_iff]
  have : lst ByteArray.empty = [] := rfl
  rw [this]
  simp only [keyB, Bool.and_eq_true, decide_eq_true_eq] at h
  cases hl : lst s with
  | nil => have := lst_length s; rw [hl] at this; simp at this; omega
  | cons c r => simp

theorem findI_le : ∀ (l : List PairD) (k : ByteArray), findI l k ≤ l.length
  | [], _ => Nat.le_refl 0
  | p :: l, k => by unfold findI; split; · exact Nat.succ_le_succ (findI_le l k)
                    · exact Nat.zero_le _
theorem findI_below : ∀ (l : List PairD) (k : ByteArray) (i : Nat) (h : i < findI l k), ltS (l[i]'(by have := findI_le l k; omega)).1 k = true
  | p :: l, k, i, h => by
    unfold findI at h
    split at h
    · rename_i hp
      cases i with
      | zero => exact hp
      | succ i => exact findI_below l k i (by omega)
    · omega
theorem findI_at : ∀ (l : List PairD) (k : ByteArray) (h : findI l k < l.length), ltS l[findI l k].1 k = false
  | p :: l, k, h => by
    by_cases hp : ltS p.1 k = true
    · have e : findI (p :: l) k = findI l k + 1 := by rw [findI, if_pos hp]
      have h' : findI l k < l.length := by rw [e] at h; exact Nat.lt_of_succ_lt_succ h
      have := findI_at l k h'
      simp only [e, List.getElem_cons_succ]
      exact this
    · have e : findI (p :: l) k = 0 := by rw [findI, if_neg hp]
      simp only [e, List.getElem_cons_zero]
      simpa using hp
/-- Where what is below ends. -/
theorem findI_of {l : List PairD} {k : ByteArray} {i : Nat} (hi : i ≤ l.length) (h1 : ∀ t (h : t < l.length), t < i → ltS l[t].1 k = true) (h2 : ∀ (h : i < l.length), ltS l[i].1 k = false) : findI l k = i := by
  have hle := findI_le l k
  rcases Nat.lt_trichotomy (findI l k) i with h | h | h
  · have := findI_at l k (by omega)
    rw [h1 _ (by omega) h] at this
    exact absurd this (by decide)
  · exact h
  · have := findI_below l k i h
    rw [h2 (by omega)] at this
    exact absurd this (by decide)
theorem findB_iff {l : List PairD} {k : ByteArray} : findB l k = true ↔ ∃ h : findI l k < l.length, l[findI l k].1 = k := by
  unfold findB
  constructor
  · intro h
    split at h
    · rename_i p hp
      obtain ⟨h1, h2⟩ := List.getElem?_eq_some_iff.1 hp
      exact ⟨h1, by rw [h2]; simpa using h⟩
    · cases h
  · rintro ⟨h, e⟩
    rw [List.getElem?_eq_getElem h]
    simp [e]
theorem wtL_append (a b : List PairD) : wtL (a ++ b) = wtL a + wtL b := by
  induction a with
  | nil => simp [wtL]
  | cons p a ih => simp only [List.cons_append, wtL, ih]; omega
theorem wtL_nonneg (l : List PairD) : 2 * (l.length : Int) ≤ wtL l := by
  induction l with
  | nil => simp [wtL]
  | cons p l ih => simp only [wtL, List.length_cons]; omega
/-- Bounds of what is walked. -/
structure LfD.Sm (x : LfD) : Prop where
  len : x.l.length ≤ 1000
  high : x.high.size ≤ 1000
  each : ∀ p ∈ x.l, p.1.size ≤ 1000 ∧ p.2.size ≤ 1000
theorem wtL_le {l : List PairD} (h : ∀ p ∈ l, p.1.size ≤ 1000 ∧ p.2.size ≤ 1000) : wtL l ≤ 2002 * l.length := by
  induction l with
  | nil => simp [wtL]
  | cons p l ih =>
    have := ih fun q hq => h q (List.mem_cons_of_mem _ hq)
    have h1 := h p List.mem_cons_self
    simp only [wtL, List.length_cons]; omega
theorem right_row {x : LfD} (h : x.right = true) : rowFrom ByteArray.empty x.l = true ∧ highB (lastK ByteArray.empty x.l) x.high = true ∧ (0 ≤ x.next ∧ x.next ≤ 1024) ∧ wtL x.l ≤ 231 := by
  simp only [LfD.right, Bool.and_eq_true, inB, decide_eq_true_eq] at h
  exact ⟨h.1.1.1, h.1.1.2, h.1.2, h.2⟩
theorem right_of {x : LfD} (h1 : rowFrom ByteArray.empty x.l = true) (h2 : highB (lastK ByteArray.empty x.l) x.high = true) (h3 : 0 ≤ x.next ∧ x.next ≤ 1024) (h4 : wtL x.l ≤ 231) : x.right = true := by
  simp only [LfD.right, Bool.and_eq_true, inB, decide_eq_true_eq]
  exact ⟨⟨⟨h1, h2⟩, h3⟩, h4⟩
theorem right_sm {x : LfD} (h : x.right = true) : x.l.length ≤ 77 ∧ x.high.size ≤ 16 ∧ ∀ p ∈ x.l, (1 ≤ p.1.size ∧ p.1.size ≤ 16) ∧ p.2.size ≤ 32 := by
  obtain ⟨h1, h2, h3, h4⟩ := right_row h
  have hk : ∀ p ∈ x.l, (1 ≤ p.1.size ∧ p.1.size ≤ 16) ∧ p.2.size ≤ 32 := by
    intro p hp
    have := rowFrom_keys h1 p hp
    simp only [keyB, valB, Bool.and_eq_true, decide_eq_true_eq] at this
    omega
  have hw : ∀ l : List PairD, (∀ p ∈ l, (1 ≤ p.1.size ∧ p.1.size ≤ 16) ∧ p.2.size ≤ 32) → 3 * (l.length : Int) ≤ wtL l := by
    intro l
    induction l with
    | nil => intro _; simp [wtL]
    | cons p l ih =>
      intro h
      have := ih fun q hq => h q (List.mem_cons_of_mem _ hq)
      have h1 := h p List.mem_cons_self
      simp only [wtL, List.length_cons]; omega
  refine ⟨by have := hw x.l hk; omega, ?_, hk⟩
  unfold highB at h2
  rw [Bool.or_eq_true, decide_eq_true_eq, Bool.and_eq_true] at h2
  rcases h2 with h2 | h2
  · rw [h2]; decide
  · have := h2.1
    simp only [keyB, Bool.and_eq_true, decide_eq_true_eq] at this
    omega
theorem LfD.sm {x : LfD} (h : x.right = true) : x.Sm := by
  obtain ⟨h1, h2, h3⟩ := right_sm h
  exact ⟨by omega, by omega, fun p hp => by have := h3 p hp; omega⟩
/-- The document's conditions. -/
theorem right_doc {x : LfD} : x.right = true ↔ (rowFrom ByteArray.empty x.l = true ∧ ∀ p ∈ x.l, x.high = ByteArray.empty ∨ ltS p.1 x.high = true) ∧ x.high.size ≤ 16 ∧ (0 ≤ x.next ∧ x.next ≤ 1024) ∧ wtL x.l ≤ 231 := by
  constructor
  · intro h
    obtain ⟨h1, h2, h3, h4⟩ := right_row h
    refine ⟨⟨h1, fun p hp => ?_⟩, (right_sm h).2.1, h3, h4⟩
    unfold highB at h2
    rw [Bool.or_eq_true, decide_eq_true_eq, Bool.and_eq_true] at h2
    rcases h2 with h2 | h2
    · exact .inl h2
    · exact .inr (le_ltS_trans ((lastK_ge h1).2 p hp) h2.2)
  · rintro ⟨⟨h1, h2⟩, h5, h3, h4⟩
    refine right_of h1 ?_ h3 h4
    unfold highB
    rw [Bool.or_eq_true, decide_eq_true_eq, Bool.and_eq_true]
    by_cases he : x.high = ByteArray.empty
    · exact .inl he
    · right
      have hk : keyB x.high = true := by
        have : x.high.size ≠ 0 := fun h => he (by
          have : lst x.high = [] := List.length_eq_zero_iff.1 (by rw [lst_length]; exact h)
          rw [← str_lst x.high, this]; rfl)
        simp only [keyB, Bool.and_eq_true, decide_eq_true_eq]; omega
      refine ⟨hk, ?_⟩
      by_cases hl : x.l = []
      · rw [hl]; exact keyB_ltS hk
      · obtain ⟨p, hp, e⟩ := lastK_mem (s := ByteArray.empty) hl
        rw [e]
        exact (h2 p hp).resolve_left he
end Bw
namespace Bw
set_option linter.unusedVariables false
def zL (m : Nat) : List UInt8 := List.replicate m 0
theorem zL_length (m : Nat) : (zL m).length = m := List.length_replicate
theorem zL_drop (m k : Nat) : (zL m).drop k = zL (m - k) := by simp [zL]
theorem textL_length (s : ByteArray) : (textL s).length = s.size + 1 := by simp [textL, lst_length]
theorem pairsL_length (l : List PairD) : ((pairsL l).length : Int) = wtL l := by
  induction l with
  | nil => rfl
  | cons p l ih =>
    simp only [pairsL, List.flatMap_cons, List.length_append, textL_length, wtL] at *
    omega
theorem pairsL_append (a b : List PairD) : pairsL (a ++ b) = pairsL a ++ pairsL b := by simp [pairsL]
theorem pt_at {A : List UInt8} {m : Nat} {t : ByteArray} (ht : t.size ≤ 255) (hm : t.size + 1 ≤ m) :
    ptE (str (A ++ zL m)) A.length t = 0 ∧ ptTo (str (A ++ zL m)) A.length t = (A.length : Int) + t.size + 1 ∧ ptS (str (A ++ zL m)) A.length t = str (A ++ textL t ++ zL (m - (t.size + 1))) := by
  have hsz : (str (A ++ zL m)).size = A.length + m := by rw [size_str, List.length_append, zL_length]
  have hE : ptE (str (A ++ zL m)) A.length t = 0 := by
    unfold ptE
    rw [if_neg (by omega), if_neg (by omega), if_neg (by omega)]
  refine ⟨hE, by simp [ptTo, hE], ?_⟩
  have h1 : (A ++ zL m).take A.length = A := by rw [List.take_append_of_le_length (Nat.le_refl _), List.take_length]
  have h2 : (A ++ zL m).drop (A.length + t.size + 1) = zL (m - (t.size + 1)) := by
    rw [Nat.add_assoc, List.drop_append, List.drop_of_length_le (by omega), List.nil_append, zL_drop]
    congr 1
    omega
  unfold ptS
  rw [if_pos hE, Int.toNat_natCast, lst_str, h1, h2]
  simp [textL]
theorem put_at {A : List UInt8} {m k n : Nat} (h1 : 1 ≤ k) (h8 : k ≤ 8) (hk : k ≤ m) (hn : n < 256 ^ k) :
    putE (str (A ++ zL m)) A.length k n = 0 ∧ putS (str (A ++ zL m)) A.length k n = str (A ++ toLE n k ++ zL (m - k)) := by
  have hsz : (str (A ++ zL m)).size = A.length + m := by rw [size_str, List.length_append, zL_length]
  have hR : roomE (str (A ++ zL m)) A.length k = 0 := by
    unfold roomE
    rw [if_neg (by omega), if_neg (by omega)]
  have hE : putE (str (A ++ zL m)) A.length k n = 0 := by
    unfold putE
    rw [if_pos hR, Int.toNat_natCast, Int.toNat_natCast, if_neg (by omega)]
  refine ⟨hE, ?_⟩
  have h1 : (A ++ zL m).take A.length = A := by rw [List.take_append_of_le_length (Nat.le_refl _), List.take_length]
  have h2 : (A ++ zL m).drop (A.length + k) = zL (m - k) := by
    rw [List.drop_append, List.drop_of_length_le (by omega), List.nil_append, zL_drop]
    congr 1
    omega
  unfold putS
  rw [if_pos hE, Int.toNat_natCast, Int.toNat_natCast, Int.toNat_natCast, lst_str, h1, h2]
theorem pad_at {S : Nat} (h1 : 1 ≤ S) (h2 : S ≤ 1000) : padE (str [76]) S = 0 ∧ padS (str [76]) S = str ([76] ++ zL (S - 1)) := by
  have hE : padE (str [76]) S = 0 := by
    unfold padE
    rw [if_neg (by omega), if_neg (by rw [size_str]; simp; omega)]
  refine ⟨hE, ?_⟩
  unfold padS
  rw [if_pos hE, Int.toNat_natCast, lst_str, size_str]
  rfl
/-- What stands ahead of the pairs. -/
def hdL (x : LfD) : List UInt8 := 76 :: UInt8.ofNat x.l.length :: (numL x.next 2 ++ textL x.high)
theorem encL_hd (x : LfD) : x.encL = hdL x ++ pairsL x.l := by simp [LfD.encL, hdL]
theorem hdL_length (x : LfD) : (hdL x).length = 5 + x.high.size := by simp [hdL, numL, toLE_length, textL_length]; omega
theorem encL_length (x : LfD) : (x.encL.length : Int) = x.size := by
  have := pairsL_length x.l
  rw [encL_hd, List.length_append, hdL_length, LfD.size]; omega
end Bw
