/- An act as a text: a plain function; two acts that may be are shown the same just if they are the same. No program in sight. -/
import Derived.Test.YtkkgcmnipdkeeaaDoorScPure
import Derived.Lib.ItoaNum
namespace Bw
open Go
set_option linter.unusedVariables false
def hexC (n : Nat) : UInt8 := if n < 10 then UInt8.ofNat (48 + n) else UInt8.ofNat (87 + n)
def hexL (s : ByteArray) : List UInt8 := 32 :: 58 :: (lst s).flatMap fun c => [hexC (c.toNat / 16), hexC (c.toNat % 16)]
def numT (n : Int) : List UInt8 := 32 :: Lib.itoa n
def nameL : Nat → List UInt8
  | 0 => [98, 101, 103, 105, 110] | 1 => [103, 101, 116] | 2 => [112, 117, 116] | 3 => [100, 101, 108] | 4 => [115, 99, 97, 110] | 5 => [99, 111, 109, 109, 105, 116]
  | 6 => [97, 98, 111, 114, 116] | 7 => [115, 121, 110, 99] | 8 => [99, 104, 101, 99, 107] | 9 => [115, 116, 101, 112] | 10 => [116, 105, 99, 107] | _ => [99, 114, 97, 115, 104]
def fatesL (l : List Int) : List UInt8 := 32 :: 58 :: l.flatMap Lib.itoa
def ActD.rest (a : ActD) : List UInt8 := (if bT a.k then numT a.t else []) ++ ((if bK a.k then hexL a.key else []) ++ ((if bV a.k then hexL a.val else []) ++ ((if bN a.k then numT a.n else []) ++ (if bF a.k then fatesL a.f else []))))
def ActD.showL (a : ActD) : List UInt8 := nameL a.k.toNat ++ a.rest
def ActD.show' (a : ActD) : ByteArray := if a.right then str a.showL else ByteArray.empty

/-- Nothing, or what begins with a blank. -/
def Bl (l : List UInt8) : Prop := l = [] ∨ ∃ t, l = 32 :: t
theorem bl_if {b : Bool} {l t : List UInt8} (h : Bl l) (hn : b = true → l ≠ []) (ht : Bl t) : Bl ((if b then l else []) ++ t) := by
  cases b
  · exact ht
  · rcases h with h | ⟨u, rfl⟩
    · exact absurd h (hn rfl)
    · exact .inr ⟨u ++ t, rfl⟩
/-- Up to the first blank. -/
theorem no_blank : ∀ {a b x y : List UInt8}, (∀ c ∈ a, c ≠ 32) → (∀ c ∈ b, c ≠ 32) → Bl x → Bl y → a ++ x = b ++ y → a = b ∧ x = y
  | [], [], _, _, _, _, _, _, h => ⟨rfl, h⟩
  | [], c :: b, x, y, _, hb, hx, _, h => by
    rcases hx with rfl | ⟨t, rfl⟩
    · cases h
    · injection h with h1 _
      exact absurd h1.symm (hb c (by simp))
  | c :: a, [], x, y, ha, _, _, hy, h => by
    rcases hy with rfl | ⟨t, rfl⟩
    · cases h
    · injection h with h1 _
      exact absurd h1 (ha c (by simp))
  | c :: a, d :: b, x, y, ha, hb, hx, hy, h => by
    injection h with h1 h2
    obtain ⟨h3, h4⟩ := no_blank (fun e he => ha e (by simp [he])) (fun e he => hb e (by simp [he])) hx hy h2
    exact ⟨by rw [h1, h3], h4⟩
theorem hexC_ok : ∀ n < 16, hexC n ≠ 32 ∧ (hexC n).toNat = (if n < 10 then 48 + n else 87 + n) := by decide
theorem hexC_inj {m n : Nat} (hm : m < 16) (hn : n < 16) (h : hexC m = hexC n) : m = n := by
  have h1 := (hexC_ok m hm).2
  have h2 := (hexC_ok n hn).2
  rw [h, h2] at h1
  split at h1 <;> split at h1 <;> omega
theorem hex_inj : ∀ {a b : List UInt8}, (a.flatMap fun c => [hexC (c.toNat / 16), hexC (c.toNat % 16)]) = (b.flatMap fun c => [hexC (c.toNat / 16), hexC (c.toNat % 16)]) → a = b
  | [], [], _ => rfl
  | [], d :: b, h => by simp at h
  | c :: a, [], h => by simp at h
  | c :: a, d :: b, h => by
    simp only [List.flatMap_cons, List.cons_append, List.nil_append] at h
    injection h with h1 h2
    injection h2 with h2 h3
    have := c.toNat_lt; have := d.toNat_lt
    have e1 := hexC_inj (by omega) (by omega) h1
    have e2 := hexC_inj (by omega) (by omega) h2
    rw [hex_inj h3]
    congr 1
    apply UInt8.toNat_inj.1
    omega
theorem hex_blank (l : List UInt8) : ∀ c ∈ (l.flatMap fun c => [hexC (c.toNat / 16), hexC (c.toNat % 16)]), c ≠ 32 := by
  intro c hc
  obtain ⟨d, -, hd⟩ := List.mem_flatMap.1 hc
  have := d.toNat_lt
  simp at hd
  rcases hd with rfl | rfl
  · exact (hexC_ok _ (by omega)).1
  · exact (hexC_ok _ (by omega)).1
/-- A numeral's number. -/
def numOf (l : List UInt8) : Nat := l.foldl (fun n c => n * 10 + (c.toNat - 48)) 0
theorem itoa_ok : ∀ n < 256, (∀ c ∈ Lib.itoa ((n : Nat) : Int), c ≠ 32) ∧ numOf (Lib.itoa ((n : Nat) : Int)) = n := by decide +kernel
theorem itoa_blank {n : Int} (h0 : 0 ≤ n) (h1 : n ≤ 255) : ∀ c ∈ Lib.itoa n, c ≠ 32 := by
  have := (itoa_ok n.toNat (by omega)).1
  rwa [Int.toNat_of_nonneg h0] at this
theorem itoa_inj {m n : Int} (h0 : 0 ≤ m) (h1 : m ≤ 255) (h2 : 0 ≤ n) (h3 : n ≤ 255) (h : Lib.itoa m = Lib.itoa n) : m = n := by
  have e1 := (itoa_ok m.toNat (by omega)).2
  have e2 := (itoa_ok n.toNat (by omega)).2
  rw [Int.toNat_of_nonneg h0, h] at e1
  rw [Int.toNat_of_nonneg h2] at e2
  omega
theorem itoa_one : ∀ n < 3, Lib.itoa ((n : Nat) : Int) = [UInt8.ofNat (48 + n)] := by decide +kernel
theorem fates_inj : ∀ {a b : List Int}, (∀ x ∈ a, 0 ≤ x ∧ x ≤ 2) → (∀ x ∈ b, 0 ≤ x ∧ x ≤ 2) → a.flatMap Lib.itoa = b.flatMap Lib.itoa → a = b := by
  have one : ∀ x : Int, 0 ≤ x ∧ x ≤ 2 → Lib.itoa x = [UInt8.ofNat (48 + x.toNat)] := fun x hx => by
    have := itoa_one x.toNat (by omega)
    rwa [Int.toNat_of_nonneg hx.1] at this
  intro a
  induction a with
  | nil =>
    intro b _ hb h
    cases b with
    | nil => rfl
    | cons y b => rw [List.flatMap_cons, one y (hb y (by simp))] at h; cases h
  | cons x a ih =>
    intro b ha hb h
    cases b with
    | nil => rw [List.flatMap_cons, one x (ha x (by simp))] at h; cases h
    | cons y b =>
      have hx := ha x (by simp)
      have hy := hb y (by simp)
      rw [List.flatMap_cons, List.flatMap_cons, one x hx, one y hy] at h
      injection h with h1 h2
      have h3 := congrArg UInt8.toNat h1
      rw [UInt8.toNat_ofNat', UInt8.toNat_ofNat'] at h3
      rw [ih (fun z hz => ha z (by simp [hz])) (fun z hz => hb z (by simp [hz])) h2]
      congr 1
      omega
theorem name_blank : ∀ n < 12, ∀ c ∈ nameL n, c ≠ 32 := by decide
theorem name_inj : ∀ m < 12, ∀ n < 12, nameL m = nameL n → m = n := by decide
theorem numT_bl (n : Int) : Bl (numT n) := .inr ⟨_, rfl⟩
theorem hexL_bl (s : ByteArray) : Bl (hexL s) := .inr ⟨_, rfl⟩
theorem fatesL_bl (l : List Int) : Bl (fatesL l) := .inr ⟨_, rfl⟩
theorem numT_ne (n : Int) : numT n ≠ [] := by simp [numT]
theorem hexL_ne (s : ByteArray) : hexL s ≠ [] := by simp [hexL]
theorem fatesL_ne (l : List Int) : fatesL l ≠ [] := by simp [fatesL]
theorem numT_inj {m n : Int} (h0 : 0 ≤ m) (h1 : m ≤ 255) (h2 : 0 ≤ n) (h3 : n ≤ 255) {x y : List UInt8} (hx : Bl x) (hy : Bl y) (h : numT m ++ x = numT n ++ y) : m = n ∧ x = y := by
  injection h with _ h
  obtain ⟨h4, h5⟩ := no_blank (itoa_blank h0 h1) (itoa_blank h2 h3) hx hy h
  exact ⟨itoa_inj h0 h1 h2 h3 h4, h5⟩
theorem hexL_inj {a b : ByteArray} {x y : List UInt8} (hx : Bl x) (hy : Bl y) (h : hexL a ++ x = hexL b ++ y) : a = b ∧ x = y := by
  injection h with _ h
  injection h with _ h
  obtain ⟨h4, h5⟩ := no_blank (hex_blank _) (hex_blank _) hx hy h
  exact ⟨by rw [← str_lst a, hex_inj h4, str_lst], h5⟩
theorem showL_inj {a b : ActD} (ha : a.right = true) (hb : b.right = true) (h : a.showL = b.showL) : a = b := by
  have oa := ActD.ok ha
  have ob := ActD.ok hb
  obtain ⟨k, t, key, val, n, f⟩ := a
  obtain ⟨k', t', key', val', n', f'⟩ := b
  simp only [ActD.showL, ActD.rest] at h
  have a1 := oa.k0; have a2 := oa.k11; have b1 := ob.k0; have b2 := ob.k11
  simp only at a1 a2 b1 b2
  have B5 : ∀ (k : Int) (f : List Int), Bl (if bF k then fatesL f else []) := fun k f => by
    cases bF k
    · exact .inl rfl
    · exact fatesL_bl f
  have B4 := fun (k n : Int) f => bl_if (b := bN k) (numT_bl n) (fun _ => numT_ne n) (B5 k f)
  have B3 := fun (k n : Int) v f => bl_if (b := bV k) (hexL_bl v) (fun _ => hexL_ne v) (B4 k n f)
  have B2 := fun (k n : Int) u v f => bl_if (b := bK k) (hexL_bl u) (fun _ => hexL_ne u) (B3 k n v f)
  have B1 := fun (k t n : Int) u v f => bl_if (b := bT k) (numT_bl t) (fun _ => numT_ne t) (B2 k n u v f)
  obtain ⟨h1, h⟩ := no_blank (name_blank _ (by omega)) (name_blank _ (by omega)) (B1 k t n key val f) (B1 k' t' n' key' val' f') h
  have hk : k = k' := by
    have := name_inj k.toNat (by omega) k'.toNat (by omega) h1
    omega
  subst hk
  obtain ⟨ht, h⟩ : t = t' ∧ (if bK k then hexL key else []) ++ ((if bV k then hexL val else []) ++ ((if bN k then numT n else []) ++ (if bF k then fatesL f else []))) = (if bK k then hexL key' else []) ++ ((if bV k then hexL val' else []) ++ ((if bN k then numT n' else []) ++ (if bF k then fatesL f' else []))) := by
    cases e : bT k
    · rw [e] at h
      exact ⟨(oa.t0 e).trans (ob.t0 e).symm, h⟩
    · rw [e] at h
      have u1 := oa.t1 e; have u2 := ob.t1 e
      simp only at u1 u2
      exact numT_inj (by omega) (by omega) (by omega) (by omega) (B2 k n key val f) (B2 k n' key' val' f') h
  obtain ⟨hkey, h⟩ : key = key' ∧ (if bV k then hexL val else []) ++ ((if bN k then numT n else []) ++ (if bF k then fatesL f else [])) = (if bV k then hexL val' else []) ++ ((if bN k then numT n' else []) ++ (if bF k then fatesL f' else [])) := by
    cases e : bK k
    · rw [e] at h
      exact ⟨(oa.key0 e).trans (ob.key0 e).symm, h⟩
    · rw [e] at h
      exact hexL_inj (B3 k n val f) (B3 k n' val' f') h
  obtain ⟨hval, h⟩ : val = val' ∧ (if bN k then numT n else []) ++ (if bF k then fatesL f else []) = (if bN k then numT n' else []) ++ (if bF k then fatesL f' else []) := by
    cases e : bV k
    · rw [e] at h
      exact ⟨(oa.val0 e).trans (ob.val0 e).symm, h⟩
    · rw [e] at h
      exact hexL_inj (B4 k n f) (B4 k n' f') h
  obtain ⟨hn, h⟩ : n = n' ∧ (if bF k then fatesL f else []) = (if bF k then fatesL f' else []) := by
    cases e : bN k
    · rw [e] at h
      exact ⟨(oa.n0 e).trans (ob.n0 e).symm, h⟩
    · rw [e] at h
      have u1 := oa.n1; have u2 := ob.n1
      simp only at u1 u2
      exact numT_inj (by omega) (by omega) (by omega) (by omega) (B5 k f) (B5 k f') h
  have hf : f = f' := by
    cases e : bF k
    · exact (oa.f0 e).trans (ob.f0 e).symm
    · rw [e] at h
      injection h with _ h
      injection h with _ h
      exact fates_inj oa.f1 ob.f1 h
  subst ht hkey hval hn hf
  rfl
theorem nameL_len (n : Nat) : 1 ≤ (nameL n).length := by
  unfold nameL
  split <;> simp
theorem show_ne {a : ActD} (h : a.right = true) : a.show' ≠ ByteArray.empty := by
  intro he
  have h1 := congrArg lst he
  rw [ActD.show', if_pos h, lst_str] at h1
  have h2 := congrArg List.length h1
  have h3 := nameL_len a.k.toNat
  rw [ActD.showL, List.length_append] at h2
  have h4 : (lst ByteArray.empty).length = 0 := rfl
  omega
theorem show_iff {a b : ActD} (ha : a.right = true) (hb : b.right = true) : a.show' = b.show' ↔ a = b := by
  refine ⟨fun h => ?_, fun h => by rw [h]⟩
  have h1 := congrArg lst h
  rw [ActD.show', ActD.show', if_pos ha, if_pos hb, lst_str, lst_str] at h1
  exact showL_inj ha hb h1
end Bw
