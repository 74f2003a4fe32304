import Derived.Test.YtibeeomeafakgaaEnWalk1
import Derived.Test.YtibeeomeafakgaaRelRegion2
import Derived.Defers
import Derived.Recover
namespace Go.Proofs.Ytibeeomeafakgaa
open Go.RowKit Bw
set_option linter.unusedVariables false

/-- What rec.must panics with. -/
def badV (n : Int) : Value := .iface 37 (.int .i64 n)

theorem rec_must_ok (w : World) : Calls Try.prog 39 #[.int .i64 0] w fun e w' => e = .returned (.tuple #[]) ∧ w = w' := by
  go_enter Try.func39, Try.ntmps39
  go_wp2_with fail
  go_end0
  exact ⟨rfl, rfl⟩
theorem rec_must_bad (n : Int) (hn : n ≠ 0) (w : World) : Calls Try.prog 39 #[.int .i64 n] w fun e w' => e = .panicked [{ v := badV n, recovered := false }] ∧ w = w' := by
  have h1 : (n != 0) = true := by simpa using hn
  go_enter Try.func39, Try.ntmps39
  go_wp2_with fail
  exact ⟨rfl, rfl, rfl⟩

theorem getV_ok (s : ByteArray) (i k : Nat) (hk : 1 ≤ k) (hk8 : k ≤ 8) (hi : i + k ≤ s.size) : roomE s i k = 0 ∧ getV s i k = (le (((lst s).drop i).take k) : Nat) := by
  have h0 : roomE s i k = 0 := by simp [roomE]; omega
  exact ⟨h0, by rw [getV, if_pos h0]; simp⟩
theorem roomE_short (s : ByteArray) (i k : Nat) (hk : 1 ≤ k) (hk8 : k ≤ 8) (hi : i ≤ s.size) (h : s.size < i + k) : roomE s i k = 3 := by
  unfold roomE
  rw [if_neg (by omega), if_pos (by omega)]

/-! What the readers do, by the bytes that are left. -/
theorem rNum_at {s : ByteArray} {i k : Nat} {v : Int} {t : List UInt8} (h : rNum k ((lst s).drop i) = some (v, t)) (hi : i ≤ s.size) : i + k ≤ s.size ∧ v = min (le (((lst s).drop i).take k) : Int) 1099511627777 ∧ t = (lst s).drop (i + k) := by
  unfold rNum at h
  split at h
  · rename_i hk
    injection h with h
    injection h with h1 h2
    rw [List.length_drop, lst_length] at hk
    exact ⟨by omega, h1.symm, by rw [← h2, List.drop_drop]⟩
  · cases h
theorem rNum_no {s : ByteArray} {i k : Nat} (h : rNum k ((lst s).drop i) = none) (hi : i ≤ s.size) : s.size < i + k := by
  unfold rNum at h
  split at h
  · cases h
  · rename_i hk
    rw [List.length_drop, lst_length] at hk
    omega

set_option maxHeartbeats 400000 in
theorem reader_num {s : ByteArray} (hs : s.size ≤ 1099511627776) {i k : Nat} (hk : 1 ≤ k) (hk8 : k ≤ 8) (hi : i ≤ s.size) {v : Int} {t : List UInt8} (ht : rNum k ((lst s).drop i) = some (v, t)) {g : Nat} {w : World} (hr : RowAt w g [.string s, .int .i64 i]) :
    Calls Try.prog 44 #[.pointer (some ⟨g, 0, none⟩), .int .i64 k] w fun e w' => e = .returned (.int .i64 v) ∧ RowAt w' g [.string s, .int .i64 ((i + k : Nat) : Int)] ∧ AllBut g w w' := by
  obtain ⟨hik', rfl, -⟩ := rNum_at ht hi
  have c1 := fun w => field_Get s i k w hs
  obtain ⟨e1, e2⟩ := getV_ok s i k hk hk8 hik'
  rw [e1, e2] at c1
  have C1 := Lib.hid c1; clear c1 e1 e2 ht
  have C2 := Lib.hid rec_must_ok
  generalize le (((lst s).drop i).take k) = V at *
  obtain ⟨r0, r1, -⟩ := hr.c2
  have l0 := Later.cell_of r0; have l1 := Later.cell_of r1
  have hne := later_ne w
  clear r0 r1
  have hik : IntKind.i64.wrap ((i : Int) + k) = ((i + k : Nat) : Int) := by rw [IntKind.wrap_i64]; omega
  go_enter Try.func44, Try.ntmps44
  go_wp2_with fail
  refine wp_region_later (by kernel_rfl) (by kernel_rfl) ?_
  repeat (go_big_quiet_step ((go_at_call 52; with_reducible exact Calls.later_same (C1.out _))))
  refine wpQuiet_nil ?_
  intro w9 hw9
  obtain ⟨u9, rfl⟩ := hw9
  replace hr := hr.up u9.up
  have hux : Up w u9.world := u9.up
  clear hne l0 l1
  generalize u9.world = wx at *
  obtain ⟨r0, r1, f0, f1⟩ := hr.c2
  go_wp2_with ((with_reducible refine (C2.out _).mono ?_); rintro e wn ⟨rfl, rfl⟩)
  go_ret
  exact ⟨rfl, by simpa using hr.set 1 _ (by simp), (AllBut.of_up hux).set 1 _⟩

set_option maxHeartbeats 400000 in
theorem reader_num_no {s : ByteArray} (hs : s.size ≤ 1099511627776) {i k : Nat} (hk : 1 ≤ k) (hk8 : k ≤ 8) (hi : i ≤ s.size) (ht : rNum k ((lst s).drop i) = none) {g : Nat} {w : World} (hr : RowAt w g [.string s, .int .i64 i]) :
    Calls Try.prog 44 #[.pointer (some ⟨g, 0, none⟩), .int .i64 k] w fun e w' => e = .panicked [{ v := badV 3, recovered := false }] ∧ AllBut g w w' := by
  have c1 := fun w => field_Get s i k w hs
  have e1 := roomE_short s i k hk hk8 hi (rNum_no ht hi)
  rw [e1] at c1
  have C1 := Lib.hid c1; clear c1 e1 ht
  have C2 := Lib.hid (rec_must_bad 3 (by decide))
  generalize getV s i k = V at *
  obtain ⟨r0, r1, -⟩ := hr.c2
  have l0 := Later.cell_of r0; have l1 := Later.cell_of r1
  have hne := later_ne w
  clear r0 r1
  go_enter Try.func44, Try.ntmps44
  go_wp2_with fail
  refine wp_region_later (by kernel_rfl) (by kernel_rfl) ?_
  repeat (go_big_quiet_step ((go_at_call 52; with_reducible exact Calls.later_same (C1.out _))))
  refine wpQuiet_nil ?_
  intro w9 hw9
  obtain ⟨u9, rfl⟩ := hw9
  replace hr := hr.up u9.up
  have hux : Up w u9.world := u9.up
  clear hne l0 l1
  generalize u9.world = wx at *
  obtain ⟨r0, r1, f0, f1⟩ := hr.c2
  go_wp2_with ((with_reducible refine (C2.out _).mono ?_); rintro e wn ⟨rfl, rfl⟩)
  exact ⟨rfl, rfl, AllBut.of_up hux⟩

theorem rText_at {s : ByteArray} {i : Nat} {x : ByteArray} {t : List UInt8} (h : rText ((lst s).drop i) = some (x, t)) (hi : i ≤ s.size) :
    textE s i = 0 ∧ textS s i = x ∧ textTo s i = ((i + 1 + x.size : Nat) : Int) ∧ i + 1 + x.size ≤ s.size ∧ t = (lst s).drop (i + 1 + x.size) := by
  have hl := lst_length s
  have hlt : i < (lst s).length := by
    rcases Nat.lt_or_ge i (lst s).length with h1 | h1
    · exact h1
    · rw [List.drop_of_length_le h1] at h; cases h
  rw [List.drop_eq_getElem_cons hlt] at h
  simp only [rText] at h
  split at h
  · rename_i hb
    rw [List.length_drop] at hb
    injection h with h
    injection h with h1 h2
    have hgd : (lst s).getD i 0 = (lst s)[i] := by simp [hlt]
    have hE : textE s i = 0 := by
      unfold textE
      rw [if_neg (by omega), Int.toNat_natCast, hgd, if_neg (by omega)]
    have hsz : x.size = (lst s)[i].toNat := by rw [← h1, size_str, List.length_take, List.length_drop]; omega
    refine ⟨hE, ?_, ?_, by omega, ?_⟩
    · rw [textS, if_pos hE, Int.toNat_natCast, hgd, ← h1]
    · rw [textTo, if_pos hE, Int.toNat_natCast, hgd, hsz]; omega
    · rw [← h2, List.drop_drop, hsz]
  · cases h
theorem rText_no {s : ByteArray} {i : Nat} (h : rText ((lst s).drop i) = none) (hi : i ≤ s.size) : textE s i = 3 := by
  have hl := lst_length s
  rcases Nat.lt_or_ge i (lst s).length with hlt | h1
  · rw [List.drop_eq_getElem_cons hlt] at h
    simp only [rText] at h
    split at h
    · cases h
    · rename_i hb
      rw [List.length_drop] at hb
      have hgd : (lst s).getD i 0 = (lst s)[i] := by simp [hlt]
      unfold textE
      rw [if_neg (by omega), Int.toNat_natCast, hgd, if_pos (by omega)]
  · unfold textE
    rw [if_neg (by omega), if_pos (by omega)]

set_option maxHeartbeats 400000 in
theorem reader_text {s : ByteArray} (hs : s.size ≤ 1099511627776) {i : Nat} (hi : i ≤ s.size) {x : ByteArray} {t : List UInt8} (ht : rText ((lst s).drop i) = some (x, t)) {g : Nat} {w : World} (hr : RowAt w g [.string s, .int .i64 i]) :
    Calls Try.prog 45 #[.pointer (some ⟨g, 0, none⟩)] w fun e w' => e = .returned (.string x) ∧ RowAt w' g [.string s, .int .i64 ((i + 1 + x.size : Nat) : Int)] ∧ AllBut g w w' := by
  obtain ⟨e1, e2, e3, -, -⟩ := rText_at ht hi
  have c1 := fun w => field_Text s i w hs
  rw [e1, e2, e3] at c1
  have C1 := Lib.hid c1; clear c1 e1 e2 e3 ht
  have C2 := Lib.hid rec_must_ok
  obtain ⟨r0, r1, -⟩ := hr.c2
  have l0 := Later.cell_of r0; have l1 := Later.cell_of r1
  have hne := later_ne w
  clear r0 r1
  generalize hj : i + 1 + x.size = j at *
  clear hj
  go_enter Try.func45, Try.ntmps45
  go_wp2_with fail
  refine wp_region_later (by kernel_rfl) (by kernel_rfl) ?_
  repeat (go_big_quiet_step ((go_at_call 53; with_reducible exact Calls.later_same (C1.out _))))
  refine wpQuiet_nil ?_
  intro w9 hw9
  obtain ⟨u9, rfl⟩ := hw9
  replace hr := hr.up u9.up
  have hux : Up w u9.world := u9.up
  clear hne l0 l1
  generalize u9.world = wx at *
  obtain ⟨r0, r1, f0, f1⟩ := hr.c2
  go_wp2_with ((with_reducible refine (C2.out _).mono ?_); rintro e wn ⟨rfl, rfl⟩)
  go_ret
  exact ⟨rfl, by simpa using hr.set 1 _ (by simp), (AllBut.of_up hux).set 1 _⟩

set_option maxHeartbeats 400000 in
theorem reader_text_no {s : ByteArray} (hs : s.size ≤ 1099511627776) {i : Nat} (hi : i ≤ s.size) (ht : rText ((lst s).drop i) = none) {g : Nat} {w : World} (hr : RowAt w g [.string s, .int .i64 i]) :
    Calls Try.prog 45 #[.pointer (some ⟨g, 0, none⟩)] w fun e w' => e = .panicked [{ v := badV 3, recovered := false }] ∧ AllBut g w w' := by
  have e1 := rText_no ht hi
  have c1 := fun w => field_Text s i w hs
  rw [e1] at c1
  have C1 := Lib.hid c1; clear c1 e1 ht
  have C2 := Lib.hid (rec_must_bad 3 (by decide))
  generalize textS s i = V at *
  generalize textTo s i = V2 at *
  obtain ⟨r0, r1, -⟩ := hr.c2
  have l0 := Later.cell_of r0; have l1 := Later.cell_of r1
  have hne := later_ne w
  clear r0 r1
  go_enter Try.func45, Try.ntmps45
  go_wp2_with fail
  refine wp_region_later (by kernel_rfl) (by kernel_rfl) ?_
  repeat (go_big_quiet_step ((go_at_call 53; with_reducible exact Calls.later_same (C1.out _))))
  refine wpQuiet_nil ?_
  intro w9 hw9
  obtain ⟨u9, rfl⟩ := hw9
  replace hr := hr.up u9.up
  have hux : Up w u9.world := u9.up
  clear hne l0 l1
  generalize u9.world = wx at *
  obtain ⟨r0, r1, f0, f1⟩ := hr.c2
  go_wp2_with ((with_reducible refine (C2.out _).mono ?_); rintro e wn ⟨rfl, rfl⟩)
  exact ⟨rfl, rfl, AllBut.of_up hux⟩

/-! The contracts as the walk of read takes them: the places as letters. -/
theorem num_step {s : ByteArray} {i k : Nat} {v : Int} {t : List UInt8} (h : rNum k ((lst s).drop i) = some (v, t)) (hi : i ≤ s.size) : ∃ j, j = i + k ∧ j ≤ s.size ∧ t = (lst s).drop j := by
  obtain ⟨h1, -, h3⟩ := rNum_at h hi
  exact ⟨i + k, rfl, h1, h3⟩
theorem text_step {s : ByteArray} {i : Nat} {x : ByteArray} {t : List UInt8} (h : rText ((lst s).drop i) = some (x, t)) (hi : i ≤ s.size) : ∃ j, j = i + 1 + x.size ∧ j ≤ s.size ∧ t = (lst s).drop j := by
  obtain ⟨-, -, -, h1, h3⟩ := rText_at h hi
  exact ⟨i + 1 + x.size, rfl, h1, h3⟩
def NumC (s : ByteArray) (g i j : Nat) (k v : Int) : Prop := ∀ w, RowAt w g [.string s, .int .i64 (i : Int)] →
    Calls Try.prog 44 #[.pointer (some ⟨g, 0, none⟩), .int .i64 k] w fun e w' => e = .returned (.int .i64 v) ∧ RowAt w' g [.string s, .int .i64 (j : Int)] ∧ AllBut g w w'
def NumN (s : ByteArray) (g i : Nat) (k : Int) : Prop := ∀ w, RowAt w g [.string s, .int .i64 (i : Int)] →
    Calls Try.prog 44 #[.pointer (some ⟨g, 0, none⟩), .int .i64 k] w fun e w' => e = .panicked [{ v := badV 3, recovered := false }] ∧ AllBut g w w'
def TextC (s : ByteArray) (g i j : Nat) (x : ByteArray) : Prop := ∀ w, RowAt w g [.string s, .int .i64 (i : Int)] →
    Calls Try.prog 45 #[.pointer (some ⟨g, 0, none⟩)] w fun e w' => e = .returned (.string x) ∧ RowAt w' g [.string s, .int .i64 (j : Int)] ∧ AllBut g w w'
def TextN (s : ByteArray) (g i : Nat) : Prop := ∀ w, RowAt w g [.string s, .int .i64 (i : Int)] →
    Calls Try.prog 45 #[.pointer (some ⟨g, 0, none⟩)] w fun e w' => e = .panicked [{ v := badV 3, recovered := false }] ∧ AllBut g w w'
theorem numC {s : ByteArray} (hs : s.size ≤ 1099511627776) {g i j k : Nat} {kk v : Int} {t : List UInt8} (hkk : kk = k) (hk : 1 ≤ k) (hk8 : k ≤ 8) (hi : i ≤ s.size) (hj : j = i + k) (ht : rNum k ((lst s).drop i) = some (v, t)) : NumC s g i j kk v := fun w hr => by
  subst hj hkk; exact reader_num hs hk hk8 hi ht hr
theorem numN {s : ByteArray} (hs : s.size ≤ 1099511627776) {g i k : Nat} {kk : Int} (hkk : kk = k) (hk : 1 ≤ k) (hk8 : k ≤ 8) (hi : i ≤ s.size) (ht : rNum k ((lst s).drop i) = none) : NumN s g i kk := fun w hr => by
  subst hkk; exact reader_num_no hs hk hk8 hi ht hr
theorem textC {s : ByteArray} (hs : s.size ≤ 1099511627776) {g i j : Nat} {x : ByteArray} {t : List UInt8} (hi : i ≤ s.size) (hj : j = i + 1 + x.size) (ht : rText ((lst s).drop i) = some (x, t)) : TextC s g i j x := fun w hr => by
  subst hj; exact reader_text hs hi ht hr
theorem textN {s : ByteArray} (hs : s.size ≤ 1099511627776) {g i : Nat} (hi : i ≤ s.size) (ht : rText ((lst s).drop i) = none) : TextN s g i := fun w hr => reader_text_no hs hi ht hr
theorem rok_up : ROk Up := ⟨Up.refl, Up.trans⟩
theorem up_up : TRok Up Up := ⟨rok_up, rok_up, id⟩
theorem LaterUp.of {w w1 : World} {p : Addr} {v : Value} (h : w.cell? p = some v) (h1 : Up w w1) : ∀ u : LaterR Up w1, u.world.cell? p = some v := fun u =>
  (Below.cell (p := p) (Up.trans h1 u.up) (World.block_lt_of_cell? w p h)).trans h
theorem Calls.laterUp {P : Program} {f : FuncId} {args : Array Value} {W : World} {u : LaterR Up W} {v : Value} (h : Calls P f args u.world fun e w' => e = .returned v ∧ Below u.world.heap.size u.world w') :
    Calls P f args u.world fun e w' => e = .returned v ∧ ∃ u' : LaterR Up W, w' = u'.world := h.mono fun _ w' ⟨he, hb⟩ => ⟨he, ⟨w', u.up.next hb⟩, rfl⟩
end Go.Proofs.Ytibeeomeafakgaa
