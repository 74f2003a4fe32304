import Derived.Test.YtiekjjejoekdeaaFieldWalk5
namespace Go.Proofs.Ytiekjjejoekdeaa
open Go.RowKit Bw
set_option linter.unusedVariables false

theorem one_byte (w : World) (n : Nat) (hn : n ≤ 255) : BytesAt (w.alloc (.cells #[.int .u8 (n : Int)] 5)) w.heap.size 0 [UInt8.ofNat n] :=
  bytesAt_alloc _ _ _ fun j hj => by
    have : j = 0 := by simpa using hj
    subst this
    have e : (UInt8.ofNat n).toNat = n % 256 := UInt8.toNat_ofNat'
    simp [e]; omega


theorem bareL_snoc (l : List UInt8) (b : UInt8) : bareL (l ++ [b]) = if b = 0 then bareL l else l ++ [b] := by
  simp only [bareL, List.reverse_append, List.reverse_cons, List.reverse_nil, List.nil_append, List.cons_append, List.dropWhile_cons]
  by_cases h : b = 0 <;> simp [h]

theorem bareL_nil : bareL [] = [] := rfl

/-- Where the bytes 0 at the end begin. -/
theorem bare_stop (s : ByteArray) (n : Nat) (hn : n ≤ s.size) (h : bareL (lst s) = bareL ((lst s).take n)) (hz : n = 0 ∨ ∃ h : n - 1 < s.size, 0 < n ∧ s[n - 1] ≠ 0) : bareS s = s.extract 0 n := by
  rw [bareS, extract_str, h]
  congr 1
  simp only [List.drop_zero, Nat.sub_zero]
  rcases hz with rfl | ⟨hn1, h0, hne⟩
  · rfl
  · obtain ⟨m, rfl⟩ : ∃ m, n = m + 1 := ⟨n - 1, by omega⟩
    have hg : (lst s)[m]? = some s[m] := by rw [lst_getElem]; exact List.getElem?_eq_getElem _
    rw [List.take_add_one, hg]
    simp only [Option.toList_some]
    rw [bareL_snoc, if_neg (by simpa using hne)]

theorem bare_step (s : ByteArray) (n : Nat) (hn : n < s.size) (h : bareL (lst s) = bareL ((lst s).take (n + 1))) (hz : s[n] = 0) : bareL (lst s) = bareL ((lst s).take n) := by
  have hg : (lst s)[n]? = some s[n] := by rw [lst_getElem]; exact List.getElem?_eq_getElem _
  rw [List.take_add_one, hg] at h
  simp only [Option.toList_some] at h
  rw [h, bareL_snoc, if_pos hz]


end Go.Proofs.Ytiekjjejoekdeaa
