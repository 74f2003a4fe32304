import Derived.Test.YtoogmpoahnjfkaaFieldWalk5
namespace Go.Proofs.Ytoogmpoahnjfkaa
open Go.RowKit Bw
set_option linter.unusedVariables false

theorem one_byte (w : World) (n : Nat) (hn : n ≤ 255) : BytesAt (w.alloc (.cells #[.int .u8 (n : Int)] 5)) w.heap.size 0 [UInt8.ofNat n] :=
  bytesAt_alloc _ _ _ fun j hj => by
    have : j = 0 := by simpa using hj
    subst this
    have e : (UInt8.ofNat n).toNat = n % 256 := UInt8.toNat_ofNat'
    simp [e]; omega

set_option maxHeartbeats 400000 in
theorem field_PutText_ok (s t : ByteArray) (i : Nat) (w : World) (hs : s.size ≤ 1099511627776) (ht : t.size ≤ 255) (hi : i + t.size + 1 ≤ s.size) :
    Calls Try.prog 17 #[.string s, .int .i64 i, .string t] w fun e w' =>
      e = .returned (.tuple #[.string (str ((lst s).take i ++ UInt8.ofNat t.size :: lst t ++ (lst s).drop (i + t.size + 1))), .int .i64 ((i : Int) + t.size + 1), .int .i64 0]) ∧ Below w.heap.size w w' := by
  have C := field_place s i w
  have P : placeE s i = 0 := by simp [placeE]; omega
  rw [P] at C; clear P
  have H := Lib.hid C; clear C
  have hb1 := one_byte w t.size ht
  go_enter Try.func17, Try.ntmps17
  go_wp2_with (first
    | (with_reducible refine H.out.mono ?_; rintro e w' ⟨rfl, rfl⟩)
    | (at_builtin; refine wpList_appendString rfl _ _ 47 9 5 rfl Try.underlying47 Try.underlying9 u8info w.heap.size 1 t [UInt8.ofNat t.size] rfl rfl hb1 rfl (by omega) w.heap.size w ((Below.refl _ _).alloc (Nat.le_refl _) _) (by simp) (Nat.le_refl _) ?_; intro g1 cap1 w1 hb2 hw1 hw1' hg1 hc1 hc2; have HO := Lib.hid (field_over s i g1 0 (1 + t.size) cap1 ([UInt8.ofNat t.size] ++ lst t) w1 hs hb2 (by simp [lst_length]; omega) (by omega) (by omega)); clear hb1 hb2)
    | (with_reducible refine HO.out.mono ?_; rintro e w2 ⟨rfl, hw2⟩))
  go_ret3
  refine ⟨?_, ?_⟩
  · simp [lst_length, Nat.add_assoc]
  · exact hw1.trans (hw2.mono (by have := hw1.size; omega))

set_option maxHeartbeats 400000 in
theorem field_PutText (s : ByteArray) (i : Int) (t : ByteArray) (w : World) (hs : s.size ≤ 1099511627776) (ht : t.size ≤ 1099511627776) :
    Calls Try.prog 17 #[.string s, .int .i64 i, .string t] w fun e w' =>
      e = .returned (.tuple #[.string (ptS s i t), .int .i64 (ptTo s i t), .int .i64 (ptE s i t)]) ∧ Below w.heap.size w w' := by
  have C := field_place s i w
  by_cases h0 : i < 0 ∨ (s.size : Int) < i
  · have P : placeE s i = 1 := by simp [placeE, h0]
    have E : ptE s i t = 1 := by simp [ptE, h0]
    rw [show ptS s i t = ByteArray.empty by simp [ptS, E], show ptTo s i t = 0 by simp [ptTo, E], E]
    rw [P] at C
    clear h0 E P
    have H := Lib.hid C; clear C
    go_enter Try.func17, Try.ntmps17
    go_wp2_with (with_reducible refine H.out.mono ?_; rintro e w' ⟨rfl, rfl⟩)
    go_ret3
    exact ⟨rfl, Below.refl _ _⟩
  have P : placeE s i = 0 := by simp [placeE, h0]
  have h1 : 0 ≤ i := by omega
  have h2 : i ≤ s.size := by omega
  clear h0
  rw [P] at C; clear P
  have H := Lib.hid C; clear C
  by_cases h3 : 255 < t.size
  · have E : ptE s i t = 2 := by simp only [ptE]; rw [if_neg (by omega), if_pos h3]
    rw [show ptS s i t = ByteArray.empty by simp [ptS, E], show ptTo s i t = 0 by simp [ptTo, E], E]
    clear E
    go_enter Try.func17, Try.ntmps17
    go_wp2_with (with_reducible refine H.out.mono ?_; rintro e w' ⟨rfl, rfl⟩)
    go_ret3
    exact ⟨rfl, Below.refl _ _⟩
  by_cases h4 : (s.size : Int) - i < t.size + 1
  · have E : ptE s i t = 3 := by simp only [ptE]; rw [if_neg (by omega), if_neg h3, if_pos h4]
    rw [show ptS s i t = ByteArray.empty by simp [ptS, E], show ptTo s i t = 0 by simp [ptTo, E], E]
    clear E
    go_enter Try.func17, Try.ntmps17
    go_wp2_with (with_reducible refine H.out.mono ?_; rintro e w' ⟨rfl, rfl⟩)
    go_ret3
    exact ⟨rfl, Below.refl _ _⟩
  have E : ptE s i t = 0 := by simp only [ptE]; rw [if_neg (by omega), if_neg h3, if_neg h4]
  obtain ⟨i, rfl⟩ := Int.eq_ofNat_of_zero_le h1
  have := field_PutText_ok s t i w hs (by omega) (by omega)
  simp only [ptS, ptTo, E, if_true, Int.toNat_natCast]
  exact this

theorem bareL_snoc (l : List UInt8) (b : UInt8) : bareL (l ++ [b]) = if b = 0 then bareL l else l ++ [b] := by
  simp only [bareL, List.reverse_append, List.reverse_cons, List.reverse_nil, List.nil_append, List.cons_append, List.dropWhile_cons]
  by_cases h : b = 0 <;> simp [h]

theorem bareL_nil : bareL [] = [] := rfl

/-- Where the bytes 0 at the end begin. -/
theorem bare_stop (s : ByteArray) (n : Nat) (hn : n ≤ s.size) (h : bareL (lst s) = bareL ((lst s).take n)) (hz : n = 0 ∨ ∃ h : n - 1 < s.size, 0 < n ∧ s[n - 1] ≠ 0) : bareS s = s.extract 0 n := by
  rw [bareS, extract_str, h]
  congr 1
  simp only [List.drop_zero, Nat.sub_zero]
  rcases hz with rfl | ⟨hn1, h0, hne⟩
  · rfl
  · obtain ⟨m, rfl⟩ : ∃ m, n = m + 1 := ⟨n - 1, by omega⟩
    have hg : (lst s)[m]? = some s[m] := by rw [lst_getElem]; exact List.getElem?_eq_getElem _
    rw [List.take_add_one, hg]
    simp only [Option.toList_some]
    rw [bareL_snoc, if_neg (by simpa using hne)]

theorem bare_step (s : ByteArray) (n : Nat) (hn : n < s.size) (h : bareL (lst s) = bareL ((lst s).take (n + 1))) (hz : s[n] = 0) : bareL (lst s) = bareL ((lst s).take n) := by
  have hg : (lst s)[n]? = some s[n] := by rw [lst_getElem]; exact List.getElem?_eq_getElem _
  rw [List.take_add_one, hg] at h
  simp only [Option.toList_some] at h
  rw [h, bareL_snoc, if_pos hz]

set_option maxHeartbeats 400000 in
theorem field_Bare (s : ByteArray) (w : World) (hs : s.size ≤ 1099511627776) :
    Calls Try.prog 19 #[.string s] w fun e w' => e = .returned (.string (bareS s)) ∧ w = w' := by
  go_enter Try.func19, Try.ntmps19
  go_wp2
  go_loop [3] (fun c => ∃ n : Nat, n ≤ s.size ∧ c = .int .i64 n ∧ Hid (bareL (lst s) = bareL ((lst s).take n))) (fun c => (intOf c).toNat)
  case atStart => exact ⟨s.size, Nat.le_refl _, rfl, by show _ = _; rw [List.take_of_length_le (by rw [lst_length]; exact Nat.le_refl _)]⟩
  case round =>
    obtain ⟨n, hn, rfl, hb⟩ := hrel
    by_cases h0 : n = 0
    · subst h0
      go_wp2
      go_ret
      exact ⟨by rw [bare_stop s 0 hn hb.out (.inl rfl)]; simp, rfl⟩
    · obtain ⟨m, rfl⟩ : ∃ m, n = m + 1 := ⟨n - 1, by omega⟩
      have hm : m < s.size := by omega
      go_wp2
      · have hz : ((s[m].toNat : Int) == 0) = true := by assumption
        have hz' : s[m] = 0 := by apply UInt8.toNat_inj.1; simpa using hz
        go_round
        case rel => exact ⟨m, by omega, rfl, bare_step s m hm hb.out hz'⟩
        case measure => simp [intOf]
      · have hz : ((s[m].toNat : Int) == 0) = false := by assumption
        have hz' : s[m] ≠ 0 := by intro h; rw [h] at hz; simp at hz
        go_ret
        exact ⟨by rw [bare_stop s (m + 1) hn hb.out (.inr ⟨hm, by omega, hz'⟩)]; rfl, rfl⟩
end Go.Proofs.Ytoogmpoahnjfkaa
