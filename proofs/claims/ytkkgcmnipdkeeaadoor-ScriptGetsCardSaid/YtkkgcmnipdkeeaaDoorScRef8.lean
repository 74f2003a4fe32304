/- Layer 24, the document's side: the act that may stand at a place. -/
import Derived.Test.YtkkgcmnipdkeeaaDoorScRef7
import Derived.Test.YtkkgcmnipdkeeaaDoorScRef0
import Derived.Test.YtkkgcmnipdkeeaaDoorScRef1
import Derived.Test.YtkkgcmnipdkeeaaDoorScWalk10
import Derived.Test.YtkkgcmnipdkeeaaDoorRef1WalkA
namespace Bw
theorem gOnes_snoc (s : ByteArray) : ∀ (n i : Nat), gOnes s (n + 1) i = ((gOnes s n i).1 ++ [getV s ((i + n : Nat) : Int) 1], i + n + 1)
  | 0, i => rfl
  | n + 1, i => by
    rw [gOnes, gOnes_snoc s n (i + 1)]
    simp only [gOnes, List.cons_append]
    have e : i + 1 + n = i + (n + 1) := by omega
    rw [e]
theorem gOnes_len (s : ByteArray) : ∀ (n i : Nat), (gOnes s n i).1.length = n
  | 0, i => rfl
  | n + 1, i => by rw [gOnes_snoc]; simp [gOnes_len s n i]
theorem gText_le (s : ByteArray) (i : Nat) : (gText s i).2 ≤ s.size := by
  show (textTo s i).toNat ≤ s.size
  by_cases h : textE s i = 0
  · by_cases hi : i ≤ s.size
    · exact (textTo_le s i hi h).2
    · exfalso
      unfold textE at h
      rw [if_neg (by omega), if_pos (by omega)] at h
      omega
  · rw [textTo, if_neg h]; omega
theorem textTo_nat (s : ByteArray) (i : Nat) : textTo s i = (((textTo s i).toNat : Nat) : Int) := by
  rw [Int.toNat_of_nonneg]
  unfold textTo
  split <;> omega
theorem flags_all (k : Int) (h0 : 0 ≤ k) : Go.Proofs.YtkkgcmnipdkeeaaDoor.Flags (bT k) (bK k) (bV k) (bN k) (bF k) := by
  by_cases h : k ≤ 11
  · exact Go.Proofs.YtkkgcmnipdkeeaaDoor.flags_of k h0 h
  · have h1 : bT k = false := by simp only [bT, Bool.and_eq_false_iff, decide_eq_false_iff_not]; omega
    have h2 : bK k = false := by simp only [bK, Bool.and_eq_false_iff, decide_eq_false_iff_not]; omega
    have h3 : bV k = false := by simp only [bV, decide_eq_false_iff_not]; omega
    have h4 : bN k = false := by simp only [bN, decide_eq_false_iff_not]; omega
    have h5 : bF k = false := by simp only [bF, decide_eq_false_iff_not]; omega
    rw [h1, h2, h3, h4, h5]
    simp [Go.Proofs.YtkkgcmnipdkeeaaDoor.Flags]
theorem Calls.laterS_same {P : Go.Program} {f : Go.FuncId} {args : Array Go.Value} {R : Go.World → Go.World → Prop} {W : Go.World} {u : LaterR R W} {v : Go.Value} (h : Go.Calls P f args u.world fun e w' => e = .returned v ∧ u.world = w') :
    Go.Calls P f args u.world fun e w' => e = .returned v ∧ ∃ u' : LaterR R W, w' = u'.world := h.mono fun _ _ ⟨he, hb⟩ => ⟨he, u, hb.symm⟩
end Bw
namespace Go.Proofs.YtkkgcmnipdkeeaaDoor
open Go.RowKit Bw
set_option linter.unusedVariables false
theorem byteAt2 (s : ByteArray) (i : Nat) {v : Int} (hv : getV s i 1 = v) (w : World) : Calls Tryd.prog 46 #[.string s, .int .i64 i] w fun e w' => e = .returned (.int .i64 v) ∧ w = w' := by
  rw [← hv]; exact ref24_byteAt s i w
theorem text2 (s : ByteArray) (i : Nat) (hs : s.size ≤ 1000000) {v : ByteArray} {p : Nat} (hv : gText s i = (v, p)) (w : World) : Calls Tryd.prog 47 #[.string s, .int .i64 i] w fun e w' => e = .returned (.tuple #[.string v, .int .i64 p, .int .i64 (textE s i)]) ∧ w = w' := by
  have := ref1_Text s i w (by omega)
  have h1 : textS s i = v := congrArg Prod.fst hv
  have h2 : (textTo s i).toNat = p := congrArg Prod.snd hv
  rw [textTo_nat, h1, h2] at this
  exact this
theorem hold_nilI {w w' : World} {l : List Res} (h : Hold w w' l) : Hold w w' [intsR none []] :=
  (h.sub (List.nil_sublist l)).add (Below.refl _ w') (intsR none []) ⟨IntsAt.nil _ _, fun x hx => (by cases hx)⟩ (fun k hk => by obtain ⟨x, hx, -⟩ := hk; cases hx)
theorem hold_ints2 {W w : World} {A B : Res} {e : TypeId} {q : Option Addr} {c : Nat} {fs : List Int} (h : Hold W w [A, B, ownZ e 1 (.slice q fs.length c) fs.length (intC fs)]) : Hold W w [intsR q fs] := by
  obtain ⟨o1, -, -, o4⟩ := own_ints (h.get 2 rfl) rfl
  have h2 := h.step 2 rfl (intsR q fs) ⟨o1, o4⟩ (fun k hk => .inl (by obtain ⟨x, hx, rfl⟩ := hk; subst hx; rfl)) (AllS.refl _ w)
  exact Hold.sub (l' := [intsR q fs]) h2 (.cons _ (.cons _ (.cons_cons _ .slnil)))
set_option maxHeartbeats 4000000 in
set_option maxRecDepth 100000 in
theorem ref24_guess (s : ByteArray) (hs : s.size ≤ 1000000) (i : Nat) (hi : i ≤ s.size) (w : World) :
    Calls Tryd.prog 41 #[.string s, .int .i64 i] w fun e w' => ∃ q c, e = .returned (actV (guessA s i) q c) ∧ Hold w w' [intsR q (guessA s i).f] := by
  obtain ⟨k, hk⟩ : ∃ k, getV s i 1 = k := ⟨_, rfl⟩
  have hk0 := (getV1_le s i).1
  have hk1 := (getV1_le s i).2
  have hZ : guessA s i = (hT s k (i + 1)).1 := by rw [← hk]; rfl
  rw [hk] at hk0 hk1
  have CB := Lib.hid (fun w => byteAt2 s i hk w)
  have CH := Lib.hid (fun w => ref24_Has k w)
  have HF := Lib.hid (flags_all k hk0)
  obtain ⟨t, p2, h2⟩ : ∃ t p2, ifR (bT k) 0 (gOne s) (i + 1) = (t, p2) := ⟨_, _, rfl⟩
  obtain ⟨key, p3, h3⟩ : ∃ key p3, ifR (bK k) ByteArray.empty (gText s) p2 = (key, p3) := ⟨_, _, rfl⟩
  obtain ⟨val, p4, h4⟩ : ∃ val p4, ifR (bV k) ByteArray.empty (gText s) p3 = (val, p4) := ⟨_, _, rfl⟩
  obtain ⟨n, p5, h5⟩ : ∃ n p5, ifR (bN k) 0 (gOne s) p4 = (n, p5) := ⟨_, _, rfl⟩
  obtain ⟨fs, p6, h6⟩ : ∃ fs p6, ifR (bF k) [] (gFates s) p5 = (fs, p6) := ⟨_, _, rfl⟩
  simp only [hT, hK, hV, hN, hF, h2, h3, h4, h5, h6] at hZ
  obtain ⟨p1, hp1⟩ : ∃ p1, i + 1 = p1 := ⟨_, rfl⟩
  rw [hp1] at h2
  have i0 : (0 : Int) ≤ (i : Int) := by omega
  have hp1' : p1 ≤ s.size + 1 := by omega
  have hik : IntKind.i64.wrap ((i : Int) + 1) = (p1 : Int) := by rw [IntKind.wrap_i64]; omega
  have HH := Lib.hid (And.intro h2 (And.intro h3 (And.intro h4 (And.intro h5 h6))))
  clear h2 h3 h4 h5 h6 hp1 hk
  unfold hasL at CH
  generalize guessA s i = Z at *
  subst hZ
  generalize bT k = T at *
  generalize bK k = K at *
  generalize bV k = V at *
  generalize bN k = N at *
  generalize bF k = F at *
  rcases HF.out with ⟨rfl, rfl, rfl, rfl, rfl⟩ | ⟨rfl, rfl, rfl, rfl, rfl⟩ | ⟨rfl, rfl, rfl, rfl, rfl⟩ | ⟨rfl, rfl, rfl, rfl, rfl⟩ | ⟨rfl, rfl, rfl, rfl, rfl⟩ | ⟨rfl, rfl, rfl, rfl, rfl⟩
  · obtain ⟨h2, h3, h4, h5, h6⟩ := HH.out
    clear HH HF
    replace h2 : gOne s p1 = (t, p2) := h2
    have e2 : p2 = p1 + 1 := (congrArg Prod.snd h2).symm
    have CB0 := Lib.hid (fun w => byteAt2 s p1 (congrArg Prod.fst h2) w)
    have hk2 : IntKind.i64.wrap ((p1 : Int) + 1) = (p2 : Int) := by rw [IntKind.wrap_i64]; omega
    obtain ⟨x1, x2⟩ : key = ⟨#[]⟩ ∧ p2 = p3 := by injection h3 with x1 x2; exact ⟨x1.symm, x2⟩
    subst x1 x2
    obtain ⟨x1, x2⟩ : val = ⟨#[]⟩ ∧ p2 = p4 := by injection h4 with x1 x2; exact ⟨x1.symm, x2⟩
    subst x1 x2
    obtain ⟨x1, x2⟩ : n = 0 ∧ p2 = p5 := by injection h5 with x1 x2; exact ⟨x1.symm, x2⟩
    subst x1 x2
    obtain ⟨x1, x2⟩ : fs = [] ∧ p2 = p6 := by injection h6 with x1 x2; exact ⟨x1.symm, x2⟩
    subst x1 x2
    clear hi hs hp1' h2 e2
    simp only [if_true, Bool.false_eq_true, if_false, List.append_nil] at CH
    replace CH := Lib.hid (show ∀ w, Calls Tryd.prog 33 #[.int .i64 k] w fun e w' => e = .returned (.string ⟨#[116]⟩) ∧ Below w.heap.size w w' from fun w => CH.out w)
    go_enter Tryd.func41, Tryd.ntmps41
    go_upto_region 1 with fail
    have hD := (Hold.start w).madeRow (.int .i64 0) [.int .i64 0, .string ⟨#[]⟩, .string ⟨#[]⟩, .int .i64 0, .slice none 0 0] 28
    simp only [List.nil_append] at hD
    generalize w.alloc _ = w0 at *
    go_upto_region 2 with ((with_reducible refine (CB.out _).mono ?_); rintro e wn ⟨rfl, rfl⟩)
    replace hD := hD.madeRow (.int .i64 k) [.int .i64 0, .string ⟨#[]⟩, .string ⟨#[]⟩, .int .i64 0, .slice none 0 0] 28
    have hga : w.heap.size < w0.heap.size := by have := (hD.sub (List.sublist_append_left [_] [_])).get 0 rfl; have h2 := RowAt.lt this; simp only [World.size_alloc] at h2; have h3 := hD.apart' 0 1 rfl rfl (by decide) w.heap.size rfl; have h4 : ¬ w.heap.size = w0.heap.size := h3; omega
    generalize w0.heap.size = ga at *
    generalize w0.alloc _ = w1 at *
    replace hD : Hold w w1 [rowR w.heap.size (.int .i64 0) [.int .i64 0, .string ⟨#[]⟩, .string ⟨#[]⟩, .int .i64 0, .slice none 0 0], rowR ga (.int .i64 k) [.int .i64 0, .string ⟨#[]⟩, .string ⟨#[]⟩, .int .i64 0, .slice none 0 0]] := hD
    have n3 : ¬ w.heap.size = ga := by omega
    obtain ⟨⟨a0, a1, a2, a3, a4, a5⟩, y0, y1, y2, y3, y4, y5⟩ := RowAt.c6 (hD.get 1 rfl); obtain ⟨⟨b0, b1, b2, b3, b4, b5⟩, z0, z1, z2, z3, z4, z5⟩ := RowAt.c6 (hD.get 0 rfl)
    clear CB
    go_upto_region 3 with ((with_reducible refine (CH.out _).mono ?_); rintro e w2 ⟨rfl, hb⟩; replace hD := hD.next hb; clear hb; clear a0 a1 a2 a3 a4 a5 y0 y1 y2 y3 y4 y5 b0 b1 b2 b3 b4 b5 z0 z1 z2 z3 z4 z5; obtain ⟨⟨a0, a1, a2, a3, a4, a5⟩, y0, y1, y2, y3, y4, y5⟩ := RowAt.c6 (hD.get 1 rfl); obtain ⟨⟨b0, b1, b2, b3, b4, b5⟩, z0, z1, z2, z3, z4, z5⟩ := RowAt.c6 (hD.get 0 rfl))
    clear CH hik
    go_wp2_with fail
    refine wp_loop_rounds 2 ?_
    rw [rounds_succ]
    go_upto_region 14 with ((with_reducible refine (CB0.out _).mono ?_); rintro e wn ⟨rfl, rfl⟩)
    replace hD := hD.putRow 1 (g := ga) rfl 1 (.int .i64 t) (.int .i64 k) [.int .i64 t, .string ⟨#[]⟩, .string ⟨#[]⟩, .int .i64 0, .slice none 0 0] (by simp) rfl
    clear a0 a1 a2 a3 a4 a5 y0 y1 y2 y3 y4 y5 b0 b1 b2 b3 b4 b5 z0 z1 z2 z3 z4 z5
    generalize w2.setCell _ _ = v0 at *
    replace hD : Hold w v0 [rowR w.heap.size (.int .i64 0) [.int .i64 0, .string ⟨#[]⟩, .string ⟨#[]⟩, .int .i64 0, .slice none 0 0], rowR ga (.int .i64 k) [.int .i64 t, .string ⟨#[]⟩, .string ⟨#[]⟩, .int .i64 0, .slice none 0 0]] := hD
    obtain ⟨⟨a0, a1, a2, a3, a4, a5⟩, y0, y1, y2, y3, y4, y5⟩ := RowAt.c6 (hD.get 1 rfl); obtain ⟨⟨b0, b1, b2, b3, b4, b5⟩, z0, z1, z2, z3, z4, z5⟩ := RowAt.c6 (hD.get 0 rfl)
    go_wp2_with fail
    rw [rounds_succ]
    go_upto_region 26 with fail
    go_wp2_with fail
    replace hD := hD.put6 0 (g := w.heap.size) rfl (.int .i64 k) (.int .i64 t) (.string (⟨#[]⟩)) (.string (⟨#[]⟩)) (.int .i64 0) (.slice none 0 0)
    clear a0 a1 a2 a3 a4 a5 y0 y1 y2 y3 y4 y5 b0 b1 b2 b3 b4 b5 z0 z1 z2 z3 z4 z5
    generalize (((((v0.setCell _ _).setCell _ _).setCell _ _).setCell _ _).setCell _ _).setCell _ _ = w9 at *
    obtain ⟨⟨b0, b1, b2, b3, b4, b5⟩, -⟩ := RowAt.c6 (hD.get 0 rfl)
    have hI := (hold_nilI hD)
    refine bodyPost_ret (v := .agg #[.int .i64 k, .int .i64 t, .string (⟨#[]⟩), .string (⟨#[]⟩), .int .i64 0, .slice none 0 0]) (by simp [results, Tryd.results41, go_sem, b0, b1, b2, b3, b4, b5]) rfl ⟨none, 0, rfl, hI⟩
  · obtain ⟨h2, h3, h4, h5, h6⟩ := HH.out
    clear HH HF
    replace h2 : gOne s p1 = (t, p2) := h2
    have e2 : p2 = p1 + 1 := (congrArg Prod.snd h2).symm
    have CB0 := Lib.hid (fun w => byteAt2 s p1 (congrArg Prod.fst h2) w)
    have hk2 : IntKind.i64.wrap ((p1 : Int) + 1) = (p2 : Int) := by rw [IntKind.wrap_i64]; omega
    replace h3 : gText s p2 = (key, p3) := h3
    have e3 : p3 ≤ s.size := by have := gText_le s p2; rw [h3] at this; exact this
    have CB1 := Lib.hid (fun w => text2 s p2 hs h3 w)
    obtain ⟨x1, x2⟩ : val = ⟨#[]⟩ ∧ p3 = p4 := by injection h4 with x1 x2; exact ⟨x1.symm, x2⟩
    subst x1 x2
    obtain ⟨x1, x2⟩ : n = 0 ∧ p3 = p5 := by injection h5 with x1 x2; exact ⟨x1.symm, x2⟩
    subst x1 x2
    obtain ⟨x1, x2⟩ : fs = [] ∧ p3 = p6 := by injection h6 with x1 x2; exact ⟨x1.symm, x2⟩
    subst x1 x2
    clear hi hs hp1' h2 e2 h3 e3
    simp only [if_true, Bool.false_eq_true, if_false, List.append_nil, List.nil_append, List.cons_append] at CH
    replace CH := Lib.hid (show ∀ w, Calls Tryd.prog 33 #[.int .i64 k] w fun e w' => e = .returned (.string ⟨#[116, 107]⟩) ∧ Below w.heap.size w w' from fun w => CH.out w)
    go_enter Tryd.func41, Tryd.ntmps41
    go_upto_region 1 with fail
    have hD := (Hold.start w).madeRow (.int .i64 0) [.int .i64 0, .string ⟨#[]⟩, .string ⟨#[]⟩, .int .i64 0, .slice none 0 0] 28
    simp only [List.nil_append] at hD
    generalize w.alloc _ = w0 at *
    go_upto_region 2 with ((with_reducible refine (CB.out _).mono ?_); rintro e wn ⟨rfl, rfl⟩)
    replace hD := hD.madeRow (.int .i64 k) [.int .i64 0, .string ⟨#[]⟩, .string ⟨#[]⟩, .int .i64 0, .slice none 0 0] 28
    have hga : w.heap.size < w0.heap.size := by have := (hD.sub (List.sublist_append_left [_] [_])).get 0 rfl; have h2 := RowAt.lt this; simp only [World.size_alloc] at h2; have h3 := hD.apart' 0 1 rfl rfl (by decide) w.heap.size rfl; have h4 : ¬ w.heap.size = w0.heap.size := h3; omega
    generalize w0.heap.size = ga at *
    generalize w0.alloc _ = w1 at *
    replace hD : Hold w w1 [rowR w.heap.size (.int .i64 0) [.int .i64 0, .string ⟨#[]⟩, .string ⟨#[]⟩, .int .i64 0, .slice none 0 0], rowR ga (.int .i64 k) [.int .i64 0, .string ⟨#[]⟩, .string ⟨#[]⟩, .int .i64 0, .slice none 0 0]] := hD
    have n3 : ¬ w.heap.size = ga := by omega
    obtain ⟨⟨a0, a1, a2, a3, a4, a5⟩, y0, y1, y2, y3, y4, y5⟩ := RowAt.c6 (hD.get 1 rfl); obtain ⟨⟨b0, b1, b2, b3, b4, b5⟩, z0, z1, z2, z3, z4, z5⟩ := RowAt.c6 (hD.get 0 rfl)
    clear CB
    go_upto_region 3 with ((with_reducible refine (CH.out _).mono ?_); rintro e w2 ⟨rfl, hb⟩; replace hD := hD.next hb; clear hb; clear a0 a1 a2 a3 a4 a5 y0 y1 y2 y3 y4 y5 b0 b1 b2 b3 b4 b5 z0 z1 z2 z3 z4 z5; obtain ⟨⟨a0, a1, a2, a3, a4, a5⟩, y0, y1, y2, y3, y4, y5⟩ := RowAt.c6 (hD.get 1 rfl); obtain ⟨⟨b0, b1, b2, b3, b4, b5⟩, z0, z1, z2, z3, z4, z5⟩ := RowAt.c6 (hD.get 0 rfl))
    clear CH hik
    go_wp2_with fail
    refine wp_loop_rounds 3 ?_
    rw [rounds_succ]
    go_upto_region 14 with ((with_reducible refine (CB0.out _).mono ?_); rintro e wn ⟨rfl, rfl⟩)
    replace hD := hD.putRow 1 (g := ga) rfl 1 (.int .i64 t) (.int .i64 k) [.int .i64 t, .string ⟨#[]⟩, .string ⟨#[]⟩, .int .i64 0, .slice none 0 0] (by simp) rfl
    clear a0 a1 a2 a3 a4 a5 y0 y1 y2 y3 y4 y5 b0 b1 b2 b3 b4 b5 z0 z1 z2 z3 z4 z5
    generalize w2.setCell _ _ = v0 at *
    replace hD : Hold w v0 [rowR w.heap.size (.int .i64 0) [.int .i64 0, .string ⟨#[]⟩, .string ⟨#[]⟩, .int .i64 0, .slice none 0 0], rowR ga (.int .i64 k) [.int .i64 t, .string ⟨#[]⟩, .string ⟨#[]⟩, .int .i64 0, .slice none 0 0]] := hD
    obtain ⟨⟨a0, a1, a2, a3, a4, a5⟩, y0, y1, y2, y3, y4, y5⟩ := RowAt.c6 (hD.get 1 rfl); obtain ⟨⟨b0, b1, b2, b3, b4, b5⟩, z0, z1, z2, z3, z4, z5⟩ := RowAt.c6 (hD.get 0 rfl)
    go_wp2_with fail
    rw [rounds_succ]
    go_upto_region 18 with ((with_reducible refine (CB1.out _).mono ?_); rintro e wn ⟨rfl, rfl⟩)
    replace hD := hD.putRow 1 (g := ga) rfl 2 (.string key) (.int .i64 k) [.int .i64 t, .string key, .string ⟨#[]⟩, .int .i64 0, .slice none 0 0] (by simp) rfl
    clear a0 a1 a2 a3 a4 a5 y0 y1 y2 y3 y4 y5 b0 b1 b2 b3 b4 b5 z0 z1 z2 z3 z4 z5
    generalize v0.setCell _ _ = v1 at *
    replace hD : Hold w v1 [rowR w.heap.size (.int .i64 0) [.int .i64 0, .string ⟨#[]⟩, .string ⟨#[]⟩, .int .i64 0, .slice none 0 0], rowR ga (.int .i64 k) [.int .i64 t, .string key, .string ⟨#[]⟩, .int .i64 0, .slice none 0 0]] := hD
    obtain ⟨⟨a0, a1, a2, a3, a4, a5⟩, y0, y1, y2, y3, y4, y5⟩ := RowAt.c6 (hD.get 1 rfl); obtain ⟨⟨b0, b1, b2, b3, b4, b5⟩, z0, z1, z2, z3, z4, z5⟩ := RowAt.c6 (hD.get 0 rfl)
    go_wp2_with fail
    rw [rounds_succ]
    go_upto_region 26 with fail
    go_wp2_with fail
    replace hD := hD.put6 0 (g := w.heap.size) rfl (.int .i64 k) (.int .i64 t) (.string (key)) (.string (⟨#[]⟩)) (.int .i64 0) (.slice none 0 0)
    clear a0 a1 a2 a3 a4 a5 y0 y1 y2 y3 y4 y5 b0 b1 b2 b3 b4 b5 z0 z1 z2 z3 z4 z5
    generalize (((((v1.setCell _ _).setCell _ _).setCell _ _).setCell _ _).setCell _ _).setCell _ _ = w9 at *
    obtain ⟨⟨b0, b1, b2, b3, b4, b5⟩, -⟩ := RowAt.c6 (hD.get 0 rfl)
    have hI := (hold_nilI hD)
    refine bodyPost_ret (v := .agg #[.int .i64 k, .int .i64 t, .string (key), .string (⟨#[]⟩), .int .i64 0, .slice none 0 0]) (by simp [results, Tryd.results41, go_sem, b0, b1, b2, b3, b4, b5]) rfl ⟨none, 0, rfl, hI⟩
  · obtain ⟨h2, h3, h4, h5, h6⟩ := HH.out
    clear HH HF
    replace h2 : gOne s p1 = (t, p2) := h2
    have e2 : p2 = p1 + 1 := (congrArg Prod.snd h2).symm
    have CB0 := Lib.hid (fun w => byteAt2 s p1 (congrArg Prod.fst h2) w)
    have hk2 : IntKind.i64.wrap ((p1 : Int) + 1) = (p2 : Int) := by rw [IntKind.wrap_i64]; omega
    replace h3 : gText s p2 = (key, p3) := h3
    have e3 : p3 ≤ s.size := by have := gText_le s p2; rw [h3] at this; exact this
    have CB1 := Lib.hid (fun w => text2 s p2 hs h3 w)
    replace h4 : gText s p3 = (val, p4) := h4
    have e4 : p4 ≤ s.size := by have := gText_le s p3; rw [h4] at this; exact this
    have CB2 := Lib.hid (fun w => text2 s p3 hs h4 w)
    obtain ⟨x1, x2⟩ : n = 0 ∧ p4 = p5 := by injection h5 with x1 x2; exact ⟨x1.symm, x2⟩
    subst x1 x2
    obtain ⟨x1, x2⟩ : fs = [] ∧ p4 = p6 := by injection h6 with x1 x2; exact ⟨x1.symm, x2⟩
    subst x1 x2
    clear hi hs hp1' h2 e2 h3 e3 h4 e4
    simp only [if_true, Bool.false_eq_true, if_false, List.append_nil, List.nil_append, List.cons_append] at CH
    replace CH := Lib.hid (show ∀ w, Calls Tryd.prog 33 #[.int .i64 k] w fun e w' => e = .returned (.string ⟨#[116, 107, 118]⟩) ∧ Below w.heap.size w w' from fun w => CH.out w)
    go_enter Tryd.func41, Tryd.ntmps41
    go_upto_region 1 with fail
    have hD := (Hold.start w).madeRow (.int .i64 0) [.int .i64 0, .string ⟨#[]⟩, .string ⟨#[]⟩, .int .i64 0, .slice none 0 0] 28
    simp only [List.nil_append] at hD
    generalize w.alloc _ = w0 at *
    go_upto_region 2 with ((with_reducible refine (CB.out _).mono ?_); rintro e wn ⟨rfl, rfl⟩)
    replace hD := hD.madeRow (.int .i64 k) [.int .i64 0, .string ⟨#[]⟩, .string ⟨#[]⟩, .int .i64 0, .slice none 0 0] 28
    have hga : w.heap.size < w0.heap.size := by have := (hD.sub (List.sublist_append_left [_] [_])).get 0 rfl; have h2 := RowAt.lt this; simp only [World.size_alloc] at h2; have h3 := hD.apart' 0 1 rfl rfl (by decide) w.heap.size rfl; have h4 : ¬ w.heap.size = w0.heap.size := h3; omega
    generalize w0.heap.size = ga at *
    generalize w0.alloc _ = w1 at *
    replace hD : Hold w w1 [rowR w.heap.size (.int .i64 0) [.int .i64 0, .string ⟨#[]⟩, .string ⟨#[]⟩, .int .i64 0, .slice none 0 0], rowR ga (.int .i64 k) [.int .i64 0, .string ⟨#[]⟩, .string ⟨#[]⟩, .int .i64 0, .slice none 0 0]] := hD
    have n3 : ¬ w.heap.size = ga := by omega
    obtain ⟨⟨a0, a1, a2, a3, a4, a5⟩, y0, y1, y2, y3, y4, y5⟩ := RowAt.c6 (hD.get 1 rfl); obtain ⟨⟨b0, b1, b2, b3, b4, b5⟩, z0, z1, z2, z3, z4, z5⟩ := RowAt.c6 (hD.get 0 rfl)
    clear CB
    go_upto_region 3 with ((with_reducible refine (CH.out _).mono ?_); rintro e w2 ⟨rfl, hb⟩; replace hD := hD.next hb; clear hb; clear a0 a1 a2 a3 a4 a5 y0 y1 y2 y3 y4 y5 b0 b1 b2 b3 b4 b5 z0 z1 z2 z3 z4 z5; obtain ⟨⟨a0, a1, a2, a3, a4, a5⟩, y0, y1, y2, y3, y4, y5⟩ := RowAt.c6 (hD.get 1 rfl); obtain ⟨⟨b0, b1, b2, b3, b4, b5⟩, z0, z1, z2, z3, z4, z5⟩ := RowAt.c6 (hD.get 0 rfl))
    clear CH hik
    go_wp2_with fail
    refine wp_loop_rounds 4 ?_
    rw [rounds_succ]
    go_upto_region 14 with ((with_reducible refine (CB0.out _).mono ?_); rintro e wn ⟨rfl, rfl⟩)
    replace hD := hD.putRow 1 (g := ga) rfl 1 (.int .i64 t) (.int .i64 k) [.int .i64 t, .string ⟨#[]⟩, .string ⟨#[]⟩, .int .i64 0, .slice none 0 0] (by simp) rfl
    clear a0 a1 a2 a3 a4 a5 y0 y1 y2 y3 y4 y5 b0 b1 b2 b3 b4 b5 z0 z1 z2 z3 z4 z5
    generalize w2.setCell _ _ = v0 at *
    replace hD : Hold w v0 [rowR w.heap.size (.int .i64 0) [.int .i64 0, .string ⟨#[]⟩, .string ⟨#[]⟩, .int .i64 0, .slice none 0 0], rowR ga (.int .i64 k) [.int .i64 t, .string ⟨#[]⟩, .string ⟨#[]⟩, .int .i64 0, .slice none 0 0]] := hD
    obtain ⟨⟨a0, a1, a2, a3, a4, a5⟩, y0, y1, y2, y3, y4, y5⟩ := RowAt.c6 (hD.get 1 rfl); obtain ⟨⟨b0, b1, b2, b3, b4, b5⟩, z0, z1, z2, z3, z4, z5⟩ := RowAt.c6 (hD.get 0 rfl)
    go_wp2_with fail
    rw [rounds_succ]
    go_upto_region 18 with ((with_reducible refine (CB1.out _).mono ?_); rintro e wn ⟨rfl, rfl⟩)
    replace hD := hD.putRow 1 (g := ga) rfl 2 (.string key) (.int .i64 k) [.int .i64 t, .string key, .string ⟨#[]⟩, .int .i64 0, .slice none 0 0] (by simp) rfl
    clear a0 a1 a2 a3 a4 a5 y0 y1 y2 y3 y4 y5 b0 b1 b2 b3 b4 b5 z0 z1 z2 z3 z4 z5
    generalize v0.setCell _ _ = v1 at *
    replace hD : Hold w v1 [rowR w.heap.size (.int .i64 0) [.int .i64 0, .string ⟨#[]⟩, .string ⟨#[]⟩, .int .i64 0, .slice none 0 0], rowR ga (.int .i64 k) [.int .i64 t, .string key, .string ⟨#[]⟩, .int .i64 0, .slice none 0 0]] := hD
    obtain ⟨⟨a0, a1, a2, a3, a4, a5⟩, y0, y1, y2, y3, y4, y5⟩ := RowAt.c6 (hD.get 1 rfl); obtain ⟨⟨b0, b1, b2, b3, b4, b5⟩, z0, z1, z2, z3, z4, z5⟩ := RowAt.c6 (hD.get 0 rfl)
    go_wp2_with fail
    rw [rounds_succ]
    go_upto_region 22 with ((with_reducible refine (CB2.out _).mono ?_); rintro e wn ⟨rfl, rfl⟩)
    replace hD := hD.putRow 1 (g := ga) rfl 3 (.string val) (.int .i64 k) [.int .i64 t, .string key, .string val, .int .i64 0, .slice none 0 0] (by simp) rfl
    clear a0 a1 a2 a3 a4 a5 y0 y1 y2 y3 y4 y5 b0 b1 b2 b3 b4 b5 z0 z1 z2 z3 z4 z5
    generalize v1.setCell _ _ = v2 at *
    replace hD : Hold w v2 [rowR w.heap.size (.int .i64 0) [.int .i64 0, .string ⟨#[]⟩, .string ⟨#[]⟩, .int .i64 0, .slice none 0 0], rowR ga (.int .i64 k) [.int .i64 t, .string key, .string val, .int .i64 0, .slice none 0 0]] := hD
    obtain ⟨⟨a0, a1, a2, a3, a4, a5⟩, y0, y1, y2, y3, y4, y5⟩ := RowAt.c6 (hD.get 1 rfl); obtain ⟨⟨b0, b1, b2, b3, b4, b5⟩, z0, z1, z2, z3, z4, z5⟩ := RowAt.c6 (hD.get 0 rfl)
    go_wp2_with fail
    rw [rounds_succ]
    go_upto_region 26 with fail
    go_wp2_with fail
    replace hD := hD.put6 0 (g := w.heap.size) rfl (.int .i64 k) (.int .i64 t) (.string (key)) (.string (val)) (.int .i64 0) (.slice none 0 0)
    clear a0 a1 a2 a3 a4 a5 y0 y1 y2 y3 y4 y5 b0 b1 b2 b3 b4 b5 z0 z1 z2 z3 z4 z5
    generalize (((((v2.setCell _ _).setCell _ _).setCell _ _).setCell _ _).setCell _ _).setCell _ _ = w9 at *
    obtain ⟨⟨b0, b1, b2, b3, b4, b5⟩, -⟩ := RowAt.c6 (hD.get 0 rfl)
    have hI := (hold_nilI hD)
    refine bodyPost_ret (v := .agg #[.int .i64 k, .int .i64 t, .string (key), .string (val), .int .i64 0, .slice none 0 0]) (by simp [results, Tryd.results41, go_sem, b0, b1, b2, b3, b4, b5]) rfl ⟨none, 0, rfl, hI⟩
  · obtain ⟨h2, h3, h4, h5, h6⟩ := HH.out
    clear HH HF
    replace h2 : gOne s p1 = (t, p2) := h2
    have e2 : p2 = p1 + 1 := (congrArg Prod.snd h2).symm
    have CB0 := Lib.hid (fun w => byteAt2 s p1 (congrArg Prod.fst h2) w)
    have hk2 : IntKind.i64.wrap ((p1 : Int) + 1) = (p2 : Int) := by rw [IntKind.wrap_i64]; omega
    replace h3 : gText s p2 = (key, p3) := h3
    have e3 : p3 ≤ s.size := by have := gText_le s p2; rw [h3] at this; exact this
    have CB1 := Lib.hid (fun w => text2 s p2 hs h3 w)
    obtain ⟨x1, x2⟩ : val = ⟨#[]⟩ ∧ p3 = p4 := by injection h4 with x1 x2; exact ⟨x1.symm, x2⟩
    subst x1 x2
    replace h5 : gOne s p3 = (n, p5) := h5
    have e5 : p5 = p3 + 1 := (congrArg Prod.snd h5).symm
    have CB3 := Lib.hid (fun w => byteAt2 s p3 (congrArg Prod.fst h5) w)
    have hk5 : IntKind.i64.wrap ((p3 : Int) + 1) = (p5 : Int) := by rw [IntKind.wrap_i64]; omega
    obtain ⟨x1, x2⟩ : fs = [] ∧ p5 = p6 := by injection h6 with x1 x2; exact ⟨x1.symm, x2⟩
    subst x1 x2
    clear hi hs hp1' h2 e2 h3 e3 h5 e5
    simp only [if_true, Bool.false_eq_true, if_false, List.append_nil, List.nil_append, List.cons_append] at CH
    replace CH := Lib.hid (show ∀ w, Calls Tryd.prog 33 #[.int .i64 k] w fun e w' => e = .returned (.string ⟨#[116, 107, 110]⟩) ∧ Below w.heap.size w w' from fun w => CH.out w)
    go_enter Tryd.func41, Tryd.ntmps41
    go_upto_region 1 with fail
    have hD := (Hold.start w).madeRow (.int .i64 0) [.int .i64 0, .string ⟨#[]⟩, .string ⟨#[]⟩, .int .i64 0, .slice none 0 0] 28
    simp only [List.nil_append] at hD
    generalize w.alloc _ = w0 at *
    go_upto_region 2 with ((with_reducible refine (CB.out _).mono ?_); rintro e wn ⟨rfl, rfl⟩)
    replace hD := hD.madeRow (.int .i64 k) [.int .i64 0, .string ⟨#[]⟩, .string ⟨#[]⟩, .int .i64 0, .slice none 0 0] 28
    have hga : w.heap.size < w0.heap.size := by have := (hD.sub (List.sublist_append_left [_] [_])).get 0 rfl; have h2 := RowAt.lt this; simp only [World.size_alloc] at h2; have h3 := hD.apart' 0 1 rfl rfl (by decide) w.heap.size rfl; have h4 : ¬ w.heap.size = w0.heap.size := h3; omega
    generalize w0.heap.size = ga at *
    generalize w0.alloc _ = w1 at *
    replace hD : Hold w w1 [rowR w.heap.size (.int .i64 0) [.int .i64 0, .string ⟨#[]⟩, .string ⟨#[]⟩, .int .i64 0, .slice none 0 0], rowR ga (.int .i64 k) [.int .i64 0, .string ⟨#[]⟩, .string ⟨#[]⟩, .int .i64 0, .slice none 0 0]] := hD
    have n3 : ¬ w.heap.size = ga := by omega
    obtain ⟨⟨a0, a1, a2, a3, a4, a5⟩, y0, y1, y2, y3, y4, y5⟩ := RowAt.c6 (hD.get 1 rfl); obtain ⟨⟨b0, b1, b2, b3, b4, b5⟩, z0, z1, z2, z3, z4, z5⟩ := RowAt.c6 (hD.get 0 rfl)
    clear CB
    go_upto_region 3 with ((with_reducible refine (CH.out _).mono ?_); rintro e w2 ⟨rfl, hb⟩; replace hD := hD.next hb; clear hb; clear a0 a1 a2 a3 a4 a5 y0 y1 y2 y3 y4 y5 b0 b1 b2 b3 b4 b5 z0 z1 z2 z3 z4 z5; obtain ⟨⟨a0, a1, a2, a3, a4, a5⟩, y0, y1, y2, y3, y4, y5⟩ := RowAt.c6 (hD.get 1 rfl); obtain ⟨⟨b0, b1, b2, b3, b4, b5⟩, z0, z1, z2, z3, z4, z5⟩ := RowAt.c6 (hD.get 0 rfl))
    clear CH hik
    go_wp2_with fail
    refine wp_loop_rounds 4 ?_
    rw [rounds_succ]
    go_upto_region 14 with ((with_reducible refine (CB0.out _).mono ?_); rintro e wn ⟨rfl, rfl⟩)
    replace hD := hD.putRow 1 (g := ga) rfl 1 (.int .i64 t) (.int .i64 k) [.int .i64 t, .string ⟨#[]⟩, .string ⟨#[]⟩, .int .i64 0, .slice none 0 0] (by simp) rfl
    clear a0 a1 a2 a3 a4 a5 y0 y1 y2 y3 y4 y5 b0 b1 b2 b3 b4 b5 z0 z1 z2 z3 z4 z5
    generalize w2.setCell _ _ = v0 at *
    replace hD : Hold w v0 [rowR w.heap.size (.int .i64 0) [.int .i64 0, .string ⟨#[]⟩, .string ⟨#[]⟩, .int .i64 0, .slice none 0 0], rowR ga (.int .i64 k) [.int .i64 t, .string ⟨#[]⟩, .string ⟨#[]⟩, .int .i64 0, .slice none 0 0]] := hD
    obtain ⟨⟨a0, a1, a2, a3, a4, a5⟩, y0, y1, y2, y3, y4, y5⟩ := RowAt.c6 (hD.get 1 rfl); obtain ⟨⟨b0, b1, b2, b3, b4, b5⟩, z0, z1, z2, z3, z4, z5⟩ := RowAt.c6 (hD.get 0 rfl)
    go_wp2_with fail
    rw [rounds_succ]
    go_upto_region 18 with ((with_reducible refine (CB1.out _).mono ?_); rintro e wn ⟨rfl, rfl⟩)
    replace hD := hD.putRow 1 (g := ga) rfl 2 (.string key) (.int .i64 k) [.int .i64 t, .string key, .string ⟨#[]⟩, .int .i64 0, .slice none 0 0] (by simp) rfl
    clear a0 a1 a2 a3 a4 a5 y0 y1 y2 y3 y4 y5 b0 b1 b2 b3 b4 b5 z0 z1 z2 z3 z4 z5
    generalize v0.setCell _ _ = v1 at *
    replace hD : Hold w v1 [rowR w.heap.size (.int .i64 0) [.int .i64 0, .string ⟨#[]⟩, .string ⟨#[]⟩, .int .i64 0, .slice none 0 0], rowR ga (.int .i64 k) [.int .i64 t, .string key, .string ⟨#[]⟩, .int .i64 0, .slice none 0 0]] := hD
    obtain ⟨⟨a0, a1, a2, a3, a4, a5⟩, y0, y1, y2, y3, y4, y5⟩ := RowAt.c6 (hD.get 1 rfl); obtain ⟨⟨b0, b1, b2, b3, b4, b5⟩, z0, z1, z2, z3, z4, z5⟩ := RowAt.c6 (hD.get 0 rfl)
    go_wp2_with fail
    rw [rounds_succ]
    go_upto_region 25 with ((with_reducible refine (CB3.out _).mono ?_); rintro e wn ⟨rfl, rfl⟩)
    replace hD := hD.putRow 1 (g := ga) rfl 4 (.int .i64 n) (.int .i64 k) [.int .i64 t, .string key, .string ⟨#[]⟩, .int .i64 n, .slice none 0 0] (by simp) rfl
    clear a0 a1 a2 a3 a4 a5 y0 y1 y2 y3 y4 y5 b0 b1 b2 b3 b4 b5 z0 z1 z2 z3 z4 z5
    generalize v1.setCell _ _ = v2 at *
    replace hD : Hold w v2 [rowR w.heap.size (.int .i64 0) [.int .i64 0, .string ⟨#[]⟩, .string ⟨#[]⟩, .int .i64 0, .slice none 0 0], rowR ga (.int .i64 k) [.int .i64 t, .string key, .string ⟨#[]⟩, .int .i64 n, .slice none 0 0]] := hD
    obtain ⟨⟨a0, a1, a2, a3, a4, a5⟩, y0, y1, y2, y3, y4, y5⟩ := RowAt.c6 (hD.get 1 rfl); obtain ⟨⟨b0, b1, b2, b3, b4, b5⟩, z0, z1, z2, z3, z4, z5⟩ := RowAt.c6 (hD.get 0 rfl)
    go_wp2_with fail
    rw [rounds_succ]
    go_upto_region 26 with fail
    go_wp2_with fail
    replace hD := hD.put6 0 (g := w.heap.size) rfl (.int .i64 k) (.int .i64 t) (.string (key)) (.string (⟨#[]⟩)) (.int .i64 n) (.slice none 0 0)
    clear a0 a1 a2 a3 a4 a5 y0 y1 y2 y3 y4 y5 b0 b1 b2 b3 b4 b5 z0 z1 z2 z3 z4 z5
    generalize (((((v2.setCell _ _).setCell _ _).setCell _ _).setCell _ _).setCell _ _).setCell _ _ = w9 at *
    obtain ⟨⟨b0, b1, b2, b3, b4, b5⟩, -⟩ := RowAt.c6 (hD.get 0 rfl)
    have hI := (hold_nilI hD)
    refine bodyPost_ret (v := .agg #[.int .i64 k, .int .i64 t, .string (key), .string (⟨#[]⟩), .int .i64 n, .slice none 0 0]) (by simp [results, Tryd.results41, go_sem, b0, b1, b2, b3, b4, b5]) rfl ⟨none, 0, rfl, hI⟩
  · obtain ⟨h2, h3, h4, h5, h6⟩ := HH.out
    clear HH HF
    obtain ⟨x1, x2⟩ : t = 0 ∧ p1 = p2 := by injection h2 with x1 x2; exact ⟨x1.symm, x2⟩
    subst x1 x2
    obtain ⟨x1, x2⟩ : key = ⟨#[]⟩ ∧ p1 = p3 := by injection h3 with x1 x2; exact ⟨x1.symm, x2⟩
    subst x1 x2
    obtain ⟨x1, x2⟩ : val = ⟨#[]⟩ ∧ p1 = p4 := by injection h4 with x1 x2; exact ⟨x1.symm, x2⟩
    subst x1 x2
    obtain ⟨x1, x2⟩ : n = 0 ∧ p1 = p5 := by injection h5 with x1 x2; exact ⟨x1.symm, x2⟩
    subst x1 x2
    obtain ⟨x1, x2⟩ : fs = [] ∧ p1 = p6 := by injection h6 with x1 x2; exact ⟨x1.symm, x2⟩
    subst x1 x2
    clear hi hs hp1' 
    simp only [Bool.false_eq_true, if_false, List.append_nil] at CH
    replace CH := Lib.hid (show ∀ w, Calls Tryd.prog 33 #[.int .i64 k] w fun e w' => e = .returned (.string ⟨#[]⟩) ∧ Below w.heap.size w w' from fun w => CH.out w)
    go_enter Tryd.func41, Tryd.ntmps41
    go_upto_region 1 with fail
    have hD := (Hold.start w).madeRow (.int .i64 0) [.int .i64 0, .string ⟨#[]⟩, .string ⟨#[]⟩, .int .i64 0, .slice none 0 0] 28
    simp only [List.nil_append] at hD
    generalize w.alloc _ = w0 at *
    go_upto_region 2 with ((with_reducible refine (CB.out _).mono ?_); rintro e wn ⟨rfl, rfl⟩)
    replace hD := hD.madeRow (.int .i64 k) [.int .i64 0, .string ⟨#[]⟩, .string ⟨#[]⟩, .int .i64 0, .slice none 0 0] 28
    have hga : w.heap.size < w0.heap.size := by have := (hD.sub (List.sublist_append_left [_] [_])).get 0 rfl; have h2 := RowAt.lt this; simp only [World.size_alloc] at h2; have h3 := hD.apart' 0 1 rfl rfl (by decide) w.heap.size rfl; have h4 : ¬ w.heap.size = w0.heap.size := h3; omega
    generalize w0.heap.size = ga at *
    generalize w0.alloc _ = w1 at *
    replace hD : Hold w w1 [rowR w.heap.size (.int .i64 0) [.int .i64 0, .string ⟨#[]⟩, .string ⟨#[]⟩, .int .i64 0, .slice none 0 0], rowR ga (.int .i64 k) [.int .i64 0, .string ⟨#[]⟩, .string ⟨#[]⟩, .int .i64 0, .slice none 0 0]] := hD
    have n3 : ¬ w.heap.size = ga := by omega
    obtain ⟨⟨a0, a1, a2, a3, a4, a5⟩, y0, y1, y2, y3, y4, y5⟩ := RowAt.c6 (hD.get 1 rfl); obtain ⟨⟨b0, b1, b2, b3, b4, b5⟩, z0, z1, z2, z3, z4, z5⟩ := RowAt.c6 (hD.get 0 rfl)
    clear CB
    go_upto_region 3 with ((with_reducible refine (CH.out _).mono ?_); rintro e w2 ⟨rfl, hb⟩; replace hD := hD.next hb; clear hb; clear a0 a1 a2 a3 a4 a5 y0 y1 y2 y3 y4 y5 b0 b1 b2 b3 b4 b5 z0 z1 z2 z3 z4 z5; obtain ⟨⟨a0, a1, a2, a3, a4, a5⟩, y0, y1, y2, y3, y4, y5⟩ := RowAt.c6 (hD.get 1 rfl); obtain ⟨⟨b0, b1, b2, b3, b4, b5⟩, z0, z1, z2, z3, z4, z5⟩ := RowAt.c6 (hD.get 0 rfl))
    clear CH hik
    go_wp2_with fail
    refine wp_loop_rounds 1 ?_
    rw [rounds_succ]
    go_upto_region 26 with fail
    go_wp2_with fail
    replace hD := hD.put6 0 (g := w.heap.size) rfl (.int .i64 k) (.int .i64 0) (.string (⟨#[]⟩)) (.string (⟨#[]⟩)) (.int .i64 0) (.slice none 0 0)
    clear a0 a1 a2 a3 a4 a5 y0 y1 y2 y3 y4 y5 b0 b1 b2 b3 b4 b5 z0 z1 z2 z3 z4 z5
    generalize (((((w2.setCell _ _).setCell _ _).setCell _ _).setCell _ _).setCell _ _).setCell _ _ = w9 at *
    obtain ⟨⟨b0, b1, b2, b3, b4, b5⟩, -⟩ := RowAt.c6 (hD.get 0 rfl)
    have hI := (hold_nilI hD)
    refine bodyPost_ret (v := .agg #[.int .i64 k, .int .i64 0, .string (⟨#[]⟩), .string (⟨#[]⟩), .int .i64 0, .slice none 0 0]) (by simp [results, Tryd.results41, go_sem, b0, b1, b2, b3, b4, b5]) rfl ⟨none, 0, rfl, hI⟩
  · obtain ⟨h2, h3, h4, h5, h6⟩ := HH.out
    clear HH HF
    obtain ⟨x1, x2⟩ : t = 0 ∧ p1 = p2 := by injection h2 with x1 x2; exact ⟨x1.symm, x2⟩
    subst x1 x2
    obtain ⟨x1, x2⟩ : key = ⟨#[]⟩ ∧ p1 = p3 := by injection h3 with x1 x2; exact ⟨x1.symm, x2⟩
    subst x1 x2
    obtain ⟨x1, x2⟩ : val = ⟨#[]⟩ ∧ p1 = p4 := by injection h4 with x1 x2; exact ⟨x1.symm, x2⟩
    subst x1 x2
    obtain ⟨x1, x2⟩ : n = 0 ∧ p1 = p5 := by injection h5 with x1 x2; exact ⟨x1.symm, x2⟩
    subst x1 x2
    skip
    replace h6 : gFates s p1 = (fs, p6) := h6
    obtain ⟨m, hm⟩ : ∃ m, getV s p1 1 = m := ⟨_, rfl⟩
    have hm1 := getV1_le s p1
    rw [hm] at hm1
    obtain ⟨M, rfl⟩ : ∃ M : Nat, m = (M : Int) := ⟨m.toNat, by omega⟩
    have h8 : gOnes s M (p1 + 1) = (fs, p6) := by unfold gFates gOne at h6; simp only at h6; rw [hm] at h6; exact h6
    have hM : M = fs.length := by have := gOnes_len s M (p1 + 1); rw [h8] at this; exact this.symm
    subst hM
    have H8 := Lib.hid h8
    have CBm := Lib.hid (fun w => byteAt2 s p1 hm w)
    have hM2 : fs.length ≤ 255 := by omega
    clear h8 h6 hm
    simp only [if_true, Bool.false_eq_true, if_false, List.nil_append] at CH
    replace CH := Lib.hid (show ∀ w, Calls Tryd.prog 33 #[.int .i64 k] w fun e w' => e = .returned (.string ⟨#[102]⟩) ∧ Below w.heap.size w w' from fun w => CH.out w)
    go_enter Tryd.func41, Tryd.ntmps41
    go_upto_region 1 with fail
    have hD := (Hold.start w).madeRow (.int .i64 0) [.int .i64 0, .string ⟨#[]⟩, .string ⟨#[]⟩, .int .i64 0, .slice none 0 0] 28
    simp only [List.nil_append] at hD
    generalize w.alloc _ = w0 at *
    go_upto_region 2 with ((with_reducible refine (CB.out _).mono ?_); rintro e wn ⟨rfl, rfl⟩)
    replace hD := hD.madeRow (.int .i64 k) [.int .i64 0, .string ⟨#[]⟩, .string ⟨#[]⟩, .int .i64 0, .slice none 0 0] 28
    have hga : w.heap.size < w0.heap.size := by have := (hD.sub (List.sublist_append_left [_] [_])).get 0 rfl; have h2 := RowAt.lt this; simp only [World.size_alloc] at h2; have h3 := hD.apart' 0 1 rfl rfl (by decide) w.heap.size rfl; have h4 : ¬ w.heap.size = w0.heap.size := h3; omega
    generalize w0.heap.size = ga at *
    generalize w0.alloc _ = w1 at *
    replace hD : Hold w w1 [rowR w.heap.size (.int .i64 0) [.int .i64 0, .string ⟨#[]⟩, .string ⟨#[]⟩, .int .i64 0, .slice none 0 0], rowR ga (.int .i64 k) [.int .i64 0, .string ⟨#[]⟩, .string ⟨#[]⟩, .int .i64 0, .slice none 0 0]] := hD
    have n3 : ¬ w.heap.size = ga := by omega
    obtain ⟨⟨a0, a1, a2, a3, a4, a5⟩, y0, y1, y2, y3, y4, y5⟩ := RowAt.c6 (hD.get 1 rfl); obtain ⟨⟨b0, b1, b2, b3, b4, b5⟩, z0, z1, z2, z3, z4, z5⟩ := RowAt.c6 (hD.get 0 rfl)
    clear CB
    go_upto_region 3 with ((with_reducible refine (CH.out _).mono ?_); rintro e w2 ⟨rfl, hb⟩; replace hD := hD.next hb; clear hb; clear a0 a1 a2 a3 a4 a5 y0 y1 y2 y3 y4 y5 b0 b1 b2 b3 b4 b5 z0 z1 z2 z3 z4 z5; obtain ⟨⟨a0, a1, a2, a3, a4, a5⟩, y0, y1, y2, y3, y4, y5⟩ := RowAt.c6 (hD.get 1 rfl); obtain ⟨⟨b0, b1, b2, b3, b4, b5⟩, z0, z1, z2, z3, z4, z5⟩ := RowAt.c6 (hD.get 0 rfl))
    clear CH hik
    go_wp2_with fail
    refine wp_loop_rounds 2 ?_
    rw [rounds_succ]
    go_wp2_with ((with_reducible refine (CBm.out _).mono ?_); rintro e wn ⟨rfl, rfl⟩)
    clear a0 a1 a2 a3 a4 a5 y0 y1 y2 y3 y4 y5 b0 b1 b2 b3 b4 b5 z0 z1 z2 z3 z4 z5
    replace hD : Hold w w2 [rowR w.heap.size (.int .i64 0) [.int .i64 0, .string ⟨#[]⟩, .string ⟨#[]⟩, .int .i64 0, .slice none 0 0], rowR ga (.int .i64 k) [.int .i64 0, .string ⟨#[]⟩, .string ⟨#[]⟩, .int .i64 0, .slice none 0 0], ownZ 3 1 (.slice none 0 0) 0 (intC [])] := hD.nilZ 3 1
    obtain ⟨inf, hi0', hz0, hz1, hz2⟩ := infoInt
    go_loopw [16] (fun v16 wr => ∃ (n : Nat) (q : Option Addr) (c : Nat), n ≤ fs.length ∧ v16 = .int .i64 ((n : Int) + 1) ∧ Hold w wr [rowR w.heap.size (.int .i64 0) [.int .i64 0, .string ⟨#[]⟩, .string ⟨#[]⟩, .int .i64 0, .slice none 0 0], rowR ga (.int .i64 k) [.int .i64 0, .string ⟨#[]⟩, .string ⟨#[]⟩, .int .i64 0, .slice q n c], ownZ 3 1 (.slice q n c) n (intC (gOnes s n (p1 + 1)).1)]) (fun v _ => fs.length + 1 - (intOf v).toNat)
    case atStart => exact ⟨0, none, 0, by omega, rfl, hD⟩
    case round =>
    clear hD
    obtain ⟨n, q, c, hn, rfl, hD⟩ := hrel
    by_cases hlt : n < fs.length
    · have b1' : (n : Int) + 1 ≤ (fs.length : Int) := by omega
      obtain ⟨px, hpx⟩ : ∃ px, p1 + 1 + n = px := ⟨_, rfl⟩
      obtain ⟨v, hv⟩ : ∃ v, getV s px 1 = v := ⟨_, rfl⟩
      have hsn : (gOnes s (n + 1) (p1 + 1)).1 = (gOnes s n (p1 + 1)).1 ++ [v] := by rw [gOnes_snoc, hpx, hv]
      have HSN := Lib.hid hsn
      have CBx := Lib.hid (fun w => byteAt2 s px hv w)
      have hikx : IntKind.i64.wrap ((p1 : Int) + ((n : Int) + 1)) = (px : Int) := by rw [IntKind.wrap_i64]; omega
      have hikn : IntKind.i64.wrap ((n : Int) + 1 + 1) = ((n + 1 : Nat) : Int) + 1 := by rw [IntKind.wrap_i64]; omega
      clear hsn hv hpx
      generalize (gOnes s n (p1 + 1)).1 = L at *
      go_upto_region 11 with fail
      refine wp_region_two Eq (AllS (ownZ 3 1 (.slice q n c) n (intC L)).has) (allS_ok _) (by kernel_rfl) (by kernel_rfl) (by kernel_rfl) ?_
      replace hD := hD.next ((Below.refl _ wr).drew)
      generalize wr.drew = wa9 at *
      have hga17 : ¬ (ownZ 3 1 (.slice q n c) n (intC L)).has ga := hD.apart' 1 2 rfl rfl (by decide) ga rfl
      obtain ⟨⟨a0, a1, a2, a3, a4, a5⟩, -⟩ := RowAt.c6 (hD.get 1 rfl)
      refine wpAnyTS_quiet 0 7 4 94 (by rfl) (by kernel_rfl) (fun _ _ _ _ _ h => h) (by kernel_rfl) (by kernel_rfl) ?_
      apply Exists.intro
      refine ⟨fun w2 hw2 => ?_, ?_⟩
      · have hne := laterR_ne (R := Eq) eqOK w2
        have l5 := laterS a5 hga17 hw2
        simp only [List.drop_zero, List.take_succ_cons, List.take_zero]
        repeat (go_big_quiet_step ((go_at_call 46; with_reducible exact Calls.laterS_same (CBx.out _))))
        exact wpQuiet_nil rfl
      clear a0 a1 a2 a3 a4 a5 hga17 CBx hikx
      refine wpAnyTS_some 7 [] 3 (by rfl) (by kernel_rfl) (by kernel_rfl) ?_
      rintro w2 rfl
      refine ⟨?_, trivial⟩
      simp only [List.drop_succ_cons, List.drop_zero, List.take_succ_cons, List.take_zero]
      go_wp2_with fail
      refine ⟨.inr (AllS.of_up ((Up.refl _).alloc _)), ?_⟩
      have hF : Hold w (wa9.alloc (.cells #[.int .i64 v] 3)) [rowR w.heap.size (.int .i64 0) [.int .i64 0, .string ⟨#[]⟩, .string ⟨#[]⟩, .int .i64 0, .slice none 0 0], rowR ga (.int .i64 k) [.int .i64 0, .string ⟨#[]⟩, .string ⟨#[]⟩, .int .i64 0, .slice q n c], ownZ 3 1 (.slice q n c) n (intC L), rowR wa9.heap.size (.int .i64 v) []] := hD.madeRow (.int .i64 v) [] 3
      clear hD
      generalize wa9.heap.size = gx at *
      generalize wa9.alloc _ = wy at *
      have r7 : RowAt wy gx [.int .i64 v] := hF.get 3 rfl
      refine wpAnyTS_some 8 [] 2 (by rfl) (by kernel_rfl) (by kernel_rfl) ?_
      rintro w2 rfl
      refine ⟨?_, trivial⟩
      simp only [List.drop_succ_cons, List.drop_zero, List.take_succ_cons, List.take_zero]
      go_wp2_with ((with_reducible refine wpList_at 51 ?_); refine wpList_appendB rfl _ _ 22 rfl 3 inf (.int .i64 0) 1 8 (by kernel_rfl) hi0' hz0 hz1 hz2 rfl (by decide) hF 2 _ (intC L) n rfl rfl ⟨gx, 0, none⟩ 1 [.int .i64 v] rfl rfl r7.addsAt (fun x hx => by simp at hx; subst hx; rfl) (by unfold maxLen; omega) (by omega) ?_; intro b9 c9 w6 hA6 hl6 hw)
      clear hA6 hl6 r7 hF
      have hD : Hold w w6 [rowR w.heap.size (.int .i64 0) [.int .i64 0, .string ⟨#[]⟩, .string ⟨#[]⟩, .int .i64 0, .slice none 0 0], rowR ga (.int .i64 k) [.int .i64 0, .string ⟨#[]⟩, .string ⟨#[]⟩, .int .i64 0, .slice q n c], ownZ 3 1 (.slice (some ⟨b9, 0, none⟩) (n + 1) c9) (n + 1) (intC (L ++ [v]))] := by
        have h2 := hw.sub (l' := [rowR w.heap.size (.int .i64 0) [.int .i64 0, .string ⟨#[]⟩, .string ⟨#[]⟩, .int .i64 0, .slice none 0 0], rowR ga (.int .i64 k) [.int .i64 0, .string ⟨#[]⟩, .string ⟨#[]⟩, .int .i64 0, .slice q n c], ownZ 3 1 (.slice (some ⟨b9, 0, none⟩) (n + 1) c9) (n + 1) (intC L ++ [.int .i64 v])]) (List.sublist_append_left [_, _, _] [_])
        rw [intC_append]
        exact h2
      clear hw
      refine wpAnyTS_quiet 9 1 1 94 (by rfl) (by kernel_rfl) (fun _ _ _ _ _ h => h) (by kernel_rfl) (by kernel_rfl) ?_
      apply Exists.intro
      refine ⟨fun w2 hw2 => ?_, ?_⟩
      · have hne := laterR_ne (R := Eq) eqOK w2
        skip
        simp only [List.drop_succ_cons, List.drop_zero, List.take_succ_cons, List.take_zero]
        repeat (go_big_quiet_step (fail))
        exact wpQuiet_nil rfl
      refine wpAnyTS_some 10 [] 0 (by rfl) (by kernel_rfl) (by kernel_rfl) ?_
      rintro w2 rfl
      refine ⟨?_, trivial⟩
      obtain ⟨⟨a0, a1, a2, a3, a4, a5⟩, y0, y1, y2, y3, y4, y5⟩ := RowAt.c6 (hD.get 1 rfl)
      simp only [List.drop_succ_cons, List.drop_zero, List.take_succ_cons, List.take_zero]
      go_wp2_with fail
      refine ⟨.inl (by kernel_rfl), ?_⟩
      replace hD := hD.putRow 1 (g := ga) rfl 5 (.slice (some ⟨b9, 0, none⟩) (n + 1) c9) (.int .i64 k) [.int .i64 0, .string ⟨#[]⟩, .string ⟨#[]⟩, .int .i64 0, .slice (some ⟨b9, 0, none⟩) (n + 1) c9] (by simp) rfl
      clear a0 a1 a2 a3 a4 a5 y0 y1 y2 y3 y4 y5
      refine wpAnyTS_done (by kernel_rfl) ?_
      rintro w2 rfl
      go_wp2_with fail
      refine ⟨⟨n + 1, some ⟨b9, 0, none⟩, c9, by omega, ?_, ?_⟩, ?_⟩
      · rfl
      · rw [HSN.out]
        exact hD
      · simp [intOf]; omega
    · have hnM : n = fs.length := by omega
      subst hnM
      rw [H8.out] at hD
      have b2 : ¬ (fs.length : Int) + 1 ≤ (fs.length : Int) := by omega
      clear H8 hn hlt
      obtain ⟨⟨a0, a1, a2, a3, a4, a5⟩, y0, y1, y2, y3, y4, y5⟩ := RowAt.c6 (hD.get 1 rfl); obtain ⟨⟨b0, b1, b2, b3, b4, b5⟩, z0, z1, z2, z3, z4, z5⟩ := RowAt.c6 (hD.get 0 rfl)
      go_wp2_with fail
      rw [rounds_succ]
      go_upto_region 26 with fail
      go_wp2_with fail
      replace hD := hD.put6 0 (g := w.heap.size) rfl (.int .i64 k) (.int .i64 0) (.string (⟨#[]⟩)) (.string (⟨#[]⟩)) (.int .i64 0) (.slice q fs.length c)
      clear a0 a1 a2 a3 a4 a5 y0 y1 y2 y3 y4 y5 b0 b1 b2 b3 b4 b5 z0 z1 z2 z3 z4 z5
      generalize (((((wr.setCell _ _).setCell _ _).setCell _ _).setCell _ _).setCell _ _).setCell _ _ = w9 at *
      obtain ⟨⟨b0, b1, b2, b3, b4, b5⟩, -⟩ := RowAt.c6 (hD.get 0 rfl)
      have hI := (hold_ints2 hD)
      refine bodyPost_ret (v := .agg #[.int .i64 k, .int .i64 0, .string (⟨#[]⟩), .string (⟨#[]⟩), .int .i64 0, .slice q fs.length c]) (by simp [results, Tryd.results41, go_sem, b0, b1, b2, b3, b4, b5]) rfl ⟨q, c, rfl, hI⟩
end Go.Proofs.YtkkgcmnipdkeeaaDoor
