import Derived.Test.YtibeeomeafakgaaEnWalk5
namespace Go.Proofs.Ytibeeomeafakgaa
open Go.RowKit Bw
set_option linter.unusedVariables false


/-- The bytes that are left, behind k pairs. -/
def Left (s : ByteArray) (m i5 k i : Nat) (L : List PairD) : Prop := rPairs m ((lst s).drop i5) = (rPairs (m - k) ((lst s).drop i)).map fun c => (L ++ c.1, c.2)
theorem left_start (s : ByteArray) (m i5 : Nat) : Left s m i5 0 i5 [] := by
  unfold Left; cases rPairs m ((lst s).drop i5) <;> simp
theorem left_end {s : ByteArray} {m i5 i : Nat} {L : List PairD} (h : Left s m i5 m i L) : rPairs m ((lst s).drop i5) = some (L, (lst s).drop i) := by
  unfold Left at h; rw [h, Nat.sub_self]; simp [rPairs]
theorem left_none1 {s : ByteArray} {m i5 k i : Nat} {L : List PairD} (h : Left s m i5 k i L) (hk : k < m) (h1 : rText ((lst s).drop i) = none) : rPairs m ((lst s).drop i5) = none := by
  unfold Left at h; rw [h, show m - k = (m - k - 1) + 1 by omega, rPairs, h1]; rfl
theorem left_none2 {s : ByteArray} {m i5 k i j : Nat} {x : ByteArray} {L : List PairD} (h : Left s m i5 k i L) (hk : k < m) (h1 : rText ((lst s).drop i) = some (x, (lst s).drop j)) (h2 : rText ((lst s).drop j) = none) : rPairs m ((lst s).drop i5) = none := by
  unfold Left at h; rw [h, show m - k = (m - k - 1) + 1 by omega, rPairs, h1]; simp [h2]
theorem left_step {s : ByteArray} {m i5 k i j j' : Nat} {x y : ByteArray} {L : List PairD} (h : Left s m i5 k i L) (hk : k < m) (h1 : rText ((lst s).drop i) = some (x, (lst s).drop j)) (h2 : rText ((lst s).drop j) = some (y, (lst s).drop j')) : Left s m i5 (k + 1) j' (L ++ [(x, y)]) := by
  unfold Left at h ⊢; rw [h, show m - k = (m - (k + 1)) + 1 by omega, rPairs, h1]
  simp only [Option.bind_some, h2]
  cases rPairs (m - (k + 1)) ((lst s).drop j') <;> simp

theorem sameAt_but {g : Nat} {w w' : World} {p : Addr} {v : Value} (h : AllBut g w w') (hc : w.cell? p = some v) (hne : p.block ≠ g) : SameAt p w w' := (h.cell hc hne).trans hc.symm
theorem ownsRow_but {g : Nat} {w w' : World} {base : Nat} {e : TypeId} {size : Nat} {v : Value} {n : Nat} {xs : List Value} (h : w.ownsRow base e size v n xs) (hu : AllBut g w w') (hg : g < base) : w'.ownsRow base e size v n xs := by
  refine ⟨h.1, ?_⟩
  rcases h.2 with hn | ⟨b, cap, cur, rfl, hb, hgg, rest⟩
  · exact .inl hn
  · refine .inr ⟨b, cap, cur, rfl, hb, ?_, rest⟩
    rw [hu.block b (Array.getElem?_eq_some_iff.1 hgg).1 (by omega)]
    exact hgg
theorem ownsRow_8 {w : World} {base : Nat} {e : TypeId} {size : Nat} {v : Value} {n : Nat} {xs : List Value} (h : w.ownsRow base e size v n xs) (b : Nat) (v0 v1 v2 v3 v4 v5 v6 v7 : Value) (hb : b < base) :
    ((((((((w.setCell ⟨b, 0, none⟩ v0).setCell ⟨b, 1, none⟩ v1).setCell ⟨b, 2, none⟩ v2).setCell ⟨b, 3, none⟩ v3).setCell ⟨b, 4, none⟩ v4).setCell ⟨b, 5, none⟩ v5).setCell ⟨b, 6, none⟩ v6).setCell ⟨b, 7, none⟩ v7).ownsRow base e size v n xs :=
  ownsRow_set (ownsRow_set (ownsRow_set (ownsRow_set (ownsRow_set (ownsRow_set (ownsRow_set (ownsRow_set h b 0 v0 hb) b 1 v1 hb) b 2 v2 hb) b 3 v3 hb) b 4 v4 hb) b 5 v5 hb) b 6 v6 hb) b 7 v7 hb
set_option maxHeartbeats 1000000 in
set_option maxRecDepth 100000 in
theorem read7 {s : ByteArray} (hs : s.size ≤ 1099511627776) {g i0 i1 : Nat} {w : World} (hi0 : i0 ≤ s.size) (hi1 : i1 = i0 + 1) (hi1' : i1 ≤ s.size) (h1 : rNum 1 ((lst s).drop i0) = some (7, (lst s).drop i1)) (hr : RowAt w g [.string s, .int .i64 (i0 : Int)]) :
    Calls Try.prog 38 #[.pointer (some ⟨g, 0, none⟩)] w (ReadPost s g w (rRec ((lst s).drop i0))) := by
  have C1 := Lib.hid (numC (g := g) (kk := 1) (k := 1) hs rfl (by omega) (by omega) hi0 (show i1 = i0 + 1 by omega) h1)
  unfold NumC at C1
  have c3 := fun w => rec_within 7 1 7 w
  rw [show inB 7 1 7 = true from rfl] at c3
  have C3 := Lib.hid c3; clear c3
  have C4 := Lib.hid rec_kinds
  have hix : ∀ w, (Instr.index 51 (.agg kindsA) (.int .i64 7)).run Try.prog w = .ok (.agg #[.bool false, .bool false, .bool false, .bool true, .bool true]) w := fun _ => by kernel_rfl
  have o1 := hr.lt
  go_enter Try.func38, Try.ntmps38
  go_upto_region 1 with fail
  have r2 : RowAt (w.alloc (.cells #[.int .i64 0, .int .i64 0, .string ⟨#[]⟩, .string ⟨#[]⟩, .int .i64 0, .int .i64 0, .int .i64 0, .slice none 0 0] 24)) w.heap.size [.int .i64 0, .int .i64 0, .string ⟨#[]⟩, .string ⟨#[]⟩, .int .i64 0, .int .i64 0, .int .i64 0, .slice none 0 0] := RowAt.made w _ _
  replace hr := hr.alloc (.cells #[.int .i64 0, .int .i64 0, .string ⟨#[]⟩, .string ⟨#[]⟩, .int .i64 0, .int .i64 0, .int .i64 0, .slice none 0 0] 24)
  have hw0 := (AllBut.refl g w).alloc (.cells #[.int .i64 0, .int .i64 0, .string ⟨#[]⟩, .string ⟨#[]⟩, .int .i64 0, .int .i64 0, .int .i64 0, .slice none 0 0] 24)
  generalize w.alloc (.cells #[.int .i64 0, .int .i64 0, .string ⟨#[]⟩, .string ⟨#[]⟩, .int .i64 0, .int .i64 0, .int .i64 0, .slice none 0 0] 24) = w2 at *
  go_upto_region 2 with ((with_reducible refine (C1.out _ hr).mono ?_); rintro e w1 ⟨rfl, hr1, ha⟩; clear hr; have hr := hr1; clear hr1; replace r2 := r2.allBut ha (by omega); replace hw0 := hw0.trans ha; clear ha)
  have o2 := r2.lt
  have rx : RowAt (w1.alloc (.cells #[.int .i64 7, .int .i64 0, .string ⟨#[]⟩, .string ⟨#[]⟩, .int .i64 0, .int .i64 0, .int .i64 0, .slice none 0 0] 24)) w1.heap.size [.int .i64 7, .int .i64 0, .string ⟨#[]⟩, .string ⟨#[]⟩, .int .i64 0, .int .i64 0, .int .i64 0, .slice none 0 0] := RowAt.made w1 _ _
  replace r2 := r2.alloc (.cells #[.int .i64 7, .int .i64 0, .string ⟨#[]⟩, .string ⟨#[]⟩, .int .i64 0, .int .i64 0, .int .i64 0, .slice none 0 0] 24)
  replace hr := hr.alloc (.cells #[.int .i64 7, .int .i64 0, .string ⟨#[]⟩, .string ⟨#[]⟩, .int .i64 0, .int .i64 0, .int .i64 0, .slice none 0 0] 24)
  replace hw0 := hw0.alloc (.cells #[.int .i64 7, .int .i64 0, .string ⟨#[]⟩, .string ⟨#[]⟩, .int .i64 0, .int .i64 0, .int .i64 0, .slice none 0 0] 24)
  generalize w1.heap.size = gx at *
  generalize w1.alloc (.cells #[.int .i64 7, .int .i64 0, .string ⟨#[]⟩, .string ⟨#[]⟩, .int .i64 0, .int .i64 0, .int .i64 0, .slice none 0 0] 24) = w3 at *
  obtain ⟨x0, -⟩ := rx.c8
  go_upto_region 4 with ((with_reducible refine (C3.out _).mono ?_); rintro e w1 ⟨rfl, rfl⟩)
  refine wp_region_two Up Up up_up (by kernel_rfl) (by kernel_rfl) (by kernel_rfl) ?_
  refine wpAnyTS_quiet 0 4 2 61 (by rfl) (by kernel_rfl) (fun _ _ _ _ _ h => h) (by kernel_rfl) (by kernel_rfl) ?_
  apply Exists.intro
  refine ⟨fun w1 hw1 => ?_, ?_⟩
  · have l0 := LaterUp.of (show w3.drew.cell? ⟨gx, 0, none⟩ = _ from x0) hw1
    have hne := laterR_ne rok_up w1
    simp only [List.drop_zero, List.take_succ_cons, List.take_zero]
    repeat (go_big_quiet_step ((go_at_call 27; with_reducible exact Calls.laterUp (C4.out _))))
    exact wpQuiet_nil rfl
  refine wpAnyTS_some 4 [] 1 (by rfl) (by kernel_rfl) (by kernel_rfl) ?_
  intro w4 h4
  refine ⟨?_, trivial⟩
  replace h4 := (Up.refl w3).drew.trans h4
  replace hr := hr.up h4; replace r2 := r2.up h4; replace rx := rx.up h4; replace hw0 := hw0.up h4
  clear x0 h4
  simp only [List.drop_succ_cons, List.drop_zero, List.take_succ_cons, List.take_zero]
  go_wp2_with fail
  refine ⟨.inr ((Up.refl w4).alloc _), ?_⟩
  have rh : RowAt (w4.alloc (.cells #[.bool false, .bool false, .bool false, .bool false, .bool false] 50)) w4.heap.size [.bool false, .bool false, .bool false, .bool false, .bool false] := RowAt.made w4 _ _
  have o3 := rx.lt
  replace hr := hr.alloc (.cells #[.bool false, .bool false, .bool false, .bool false, .bool false] 50)
  replace r2 := r2.alloc (.cells #[.bool false, .bool false, .bool false, .bool false, .bool false] 50)
  replace rx := rx.alloc (.cells #[.bool false, .bool false, .bool false, .bool false, .bool false] 50)
  replace hw0 := hw0.alloc (.cells #[.bool false, .bool false, .bool false, .bool false, .bool false] 50)
  generalize w4.heap.size = gh at *
  generalize w4.alloc (.cells #[.bool false, .bool false, .bool false, .bool false, .bool false] 50) = w5 at *
  refine wpAnyTS_some 5 [] 0 (by rfl) (by kernel_rfl) (by kernel_rfl) ?_
  intro w6 h6
  refine ⟨?_, trivial⟩
  replace hr := hr.up h6; replace r2 := r2.up h6; replace rx := rx.up h6; replace hw0 := hw0.up h6; replace rh := rh.up h6
  clear h6
  simp only [List.drop_succ_cons, List.drop_zero, List.take_succ_cons, List.take_zero]
  obtain ⟨y0, y1, y2, y3, y4, q0, q1, q2, q3, q4⟩ := rh.c5
  go_wp2_with fail
  refine ⟨.inl (by kernel_rfl), ?_⟩
  clear y0 y1 y2 y3 y4 q0 q1 q2 q3 q4
  refine wpAnyTS_done (by kernel_rfl) ?_
  intro w7 h7
  replace hr := ((((((hr.other gh 0 (.bool false) (by omega)).other gh 1 (.bool false) (by omega)).other gh 2 (.bool false) (by omega)).other gh 3 (.bool true) (by omega)).other gh 4 (.bool true) (by omega))).up h7
  replace r2 := ((((((r2.other gh 0 (.bool false) (by omega)).other gh 1 (.bool false) (by omega)).other gh 2 (.bool false) (by omega)).other gh 3 (.bool true) (by omega)).other gh 4 (.bool true) (by omega))).up h7
  replace rx := ((((((rx.other gh 0 (.bool false) (by omega)).other gh 1 (.bool false) (by omega)).other gh 2 (.bool false) (by omega)).other gh 3 (.bool true) (by omega)).other gh 4 (.bool true) (by omega))).up h7
  replace rh := ((((((rh.set 0 (.bool false) (by simp)).set 1 (.bool false) (by simp)).set 2 (.bool false) (by simp)).set 3 (.bool true) (by simp)).set 4 (.bool true) (by simp)))
  simp only [List.set_cons_zero, List.set_cons_succ] at rh
  replace rh := rh.up h7
  replace hw0 := ((((((hw0.setNew gh 0 (.bool false) (by omega)).setNew gh 1 (.bool false) (by omega)).setNew gh 2 (.bool false) (by omega)).setNew gh 3 (.bool true) (by omega)).setNew gh 4 (.bool true) (by omega))).up h7
  clear h7 hix C1 C3 C4
  obtain ⟨x0, x1, x2, x3, x4, x5, x6, x7, z0, z1, z2, z3, z4, z5, z6, z7⟩ := rx.c8
  obtain ⟨y0, y1, y2, y3, y4, -⟩ := rh.c5
  go_upto_region 8 with fail
  cases h2 : rNum 6 ((lst s).drop i1) with
  | none =>
    have CN := Lib.hid (numN (g := g) (kk := 6) (k := 6) hs rfl (by omega) (by omega) (show i1 ≤ s.size by omega) h2)
    unfold NumN at CN
    go_wp2_with (((with_reducible refine (CN.out _ hr).mono ?_); rintro e wn ⟨rfl, ha⟩; replace hw0 := hw0.trans ha; clear ha))
    have hnone : rRec ((lst s).drop i0) = none := by simp [rRec, rIf, txnB, passB, hkeyB, hvalB, pairsB, h1, h2]
    exact ⟨rfl, by rw [hnone]; exact ⟨3, rfl, hw0⟩⟩
  | some vt =>
    obtain ⟨p, tt⟩ := vt
    obtain ⟨i2, hji2, hj'i2, rfl⟩ := num_step h2 (show i1 ≤ s.size by omega)
    have C2 := Lib.hid (numC (g := g) (kk := 6) (k := 6) hs rfl (by omega) (by omega) (show i1 ≤ s.size by omega) hji2 h2)
    unfold NumC at C2
    cases h3 : rNum 6 ((lst s).drop i2) with
    | none =>
      have CN := Lib.hid (numN (g := g) (kk := 6) (k := 6) hs rfl (by omega) (by omega) (show i2 ≤ s.size by omega) h3)
      unfold NumN at CN
      go_wp2_with (first | ((with_reducible refine (C2.out _ hr).mono ?_); rintro e wn ⟨rfl, hr1, ha⟩; clear hr; have hr := hr1; clear hr1; replace rx := rx.allBut ha (by omega); replace r2 := r2.allBut ha (by omega); replace rh := rh.allBut ha (by omega); replace hw0 := hw0.trans ha; clear ha; clear x0 x1 x2 x3 x4 x5 x6 x7 z0 z1 z2 z3 z4 z5 z6 z7 y0 y1 y2 y3 y4; obtain ⟨x0, x1, x2, x3, x4, x5, x6, x7, z0, z1, z2, z3, z4, z5, z6, z7⟩ := rx.c8; obtain ⟨y0, y1, y2, y3, y4, -⟩ := rh.c5) | ((with_reducible refine (CN.out _ hr).mono ?_); rintro e wn ⟨rfl, ha⟩; replace hw0 := hw0.trans ha; clear ha))
      have hnone : rRec ((lst s).drop i0) = none := by simp [rRec, rIf, txnB, passB, hkeyB, hvalB, pairsB, h1, h2, h3]
      exact ⟨rfl, by rw [hnone]; exact ⟨3, rfl, hw0⟩⟩
    | some vt =>
      obtain ⟨u, tt⟩ := vt
      obtain ⟨i3, hji3, hj'i3, rfl⟩ := num_step h3 (show i2 ≤ s.size by omega)
      have C3 := Lib.hid (numC (g := g) (kk := 6) (k := 6) hs rfl (by omega) (by omega) (show i2 ≤ s.size by omega) hji3 h3)
      unfold NumC at C3
      cases h4 : rNum 6 ((lst s).drop i3) with
      | none =>
        have CN := Lib.hid (numN (g := g) (kk := 6) (k := 6) hs rfl (by omega) (by omega) (show i3 ≤ s.size by omega) h4)
        unfold NumN at CN
        go_wp2_with (first | ((with_reducible refine (C2.out _ hr).mono ?_); rintro e wn ⟨rfl, hr1, ha⟩; clear hr; have hr := hr1; clear hr1; replace rx := rx.allBut ha (by omega); replace r2 := r2.allBut ha (by omega); replace rh := rh.allBut ha (by omega); replace hw0 := hw0.trans ha; clear ha; clear x0 x1 x2 x3 x4 x5 x6 x7 z0 z1 z2 z3 z4 z5 z6 z7 y0 y1 y2 y3 y4; obtain ⟨x0, x1, x2, x3, x4, x5, x6, x7, z0, z1, z2, z3, z4, z5, z6, z7⟩ := rx.c8; obtain ⟨y0, y1, y2, y3, y4, -⟩ := rh.c5) | ((with_reducible refine (C3.out _ hr).mono ?_); rintro e wn ⟨rfl, hr1, ha⟩; clear hr; have hr := hr1; clear hr1; replace rx := rx.allBut ha (by omega); replace r2 := r2.allBut ha (by omega); replace rh := rh.allBut ha (by omega); replace hw0 := hw0.trans ha; clear ha; clear x0 x1 x2 x3 x4 x5 x6 x7 z0 z1 z2 z3 z4 z5 z6 z7 y0 y1 y2 y3 y4; obtain ⟨x0, x1, x2, x3, x4, x5, x6, x7, z0, z1, z2, z3, z4, z5, z6, z7⟩ := rx.c8; obtain ⟨y0, y1, y2, y3, y4, -⟩ := rh.c5) | ((with_reducible refine (CN.out _ hr).mono ?_); rintro e wn ⟨rfl, ha⟩; replace hw0 := hw0.trans ha; clear ha))
        have hnone : rRec ((lst s).drop i0) = none := by simp [rRec, rIf, txnB, passB, hkeyB, hvalB, pairsB, h1, h2, h3, h4]
        exact ⟨rfl, by rw [hnone]; exact ⟨3, rfl, hw0⟩⟩
      | some vt =>
        obtain ⟨n, tt⟩ := vt
        obtain ⟨i4, hji4, hj'i4, rfl⟩ := num_step h4 (show i3 ≤ s.size by omega)
        have C4 := Lib.hid (numC (g := g) (kk := 6) (k := 6) hs rfl (by omega) (by omega) (show i3 ≤ s.size by omega) hji4 h4)
        unfold NumC at C4
        go_upto_region 9 with (first | ((with_reducible refine (C2.out _ hr).mono ?_); rintro e wn ⟨rfl, hr1, ha⟩; clear hr; have hr := hr1; clear hr1; replace rx := rx.allBut ha (by omega); replace r2 := r2.allBut ha (by omega); replace rh := rh.allBut ha (by omega); replace hw0 := hw0.trans ha; clear ha; clear x0 x1 x2 x3 x4 x5 x6 x7 z0 z1 z2 z3 z4 z5 z6 z7 y0 y1 y2 y3 y4; obtain ⟨x0, x1, x2, x3, x4, x5, x6, x7, z0, z1, z2, z3, z4, z5, z6, z7⟩ := rx.c8; obtain ⟨y0, y1, y2, y3, y4, -⟩ := rh.c5) | ((with_reducible refine (C3.out _ hr).mono ?_); rintro e wn ⟨rfl, hr1, ha⟩; clear hr; have hr := hr1; clear hr1; replace rx := rx.allBut ha (by omega); replace r2 := r2.allBut ha (by omega); replace rh := rh.allBut ha (by omega); replace hw0 := hw0.trans ha; clear ha; clear x0 x1 x2 x3 x4 x5 x6 x7 z0 z1 z2 z3 z4 z5 z6 z7 y0 y1 y2 y3 y4; obtain ⟨x0, x1, x2, x3, x4, x5, x6, x7, z0, z1, z2, z3, z4, z5, z6, z7⟩ := rx.c8; obtain ⟨y0, y1, y2, y3, y4, -⟩ := rh.c5) | ((with_reducible refine (C4.out _ hr).mono ?_); rintro e wn ⟨rfl, hr1, ha⟩; clear hr; have hr := hr1; clear hr1; replace rx := rx.allBut ha (by omega); replace r2 := r2.allBut ha (by omega); replace rh := rh.allBut ha (by omega); replace hw0 := hw0.trans ha; clear ha; clear x0 x1 x2 x3 x4 x5 x6 x7 z0 z1 z2 z3 z4 z5 z6 z7 y0 y1 y2 y3 y4; obtain ⟨x0, x1, x2, x3, x4, x5, x6, x7, z0, z1, z2, z3, z4, z5, z6, z7⟩ := rx.c8; obtain ⟨y0, y1, y2, y3, y4, -⟩ := rh.c5))
        clear x0 x1 x2 x3 x4 x5 x6 x7 z0 z1 z2 z3 z4 z5 z6 z7 y0 y1 y2 y3 y4
        replace rx := rx.set 4 (.int .i64 p) (by simp)
        replace rh := rh.other gx 4 (.int .i64 p) (by omega)
        replace r2 := r2.other gx 4 (.int .i64 p) (by omega)
        replace hr := hr.other gx 4 (.int .i64 p) (by omega)
        replace hw0 := hw0.setNew gx 4 (.int .i64 p) (by omega)
        generalize World.setCell _ ⟨gx, 4, none⟩ (.int .i64 p) = wn at *
        simp only [List.set_cons_zero, List.set_cons_succ] at rx
        replace rx := rx.set 5 (.int .i64 u) (by simp)
        replace rh := rh.other gx 5 (.int .i64 u) (by omega)
        replace r2 := r2.other gx 5 (.int .i64 u) (by omega)
        replace hr := hr.other gx 5 (.int .i64 u) (by omega)
        replace hw0 := hw0.setNew gx 5 (.int .i64 u) (by omega)
        generalize World.setCell _ ⟨gx, 5, none⟩ (.int .i64 u) = wn at *
        simp only [List.set_cons_zero, List.set_cons_succ] at rx
        replace rx := rx.set 6 (.int .i64 n) (by simp)
        replace rh := rh.other gx 6 (.int .i64 n) (by omega)
        replace r2 := r2.other gx 6 (.int .i64 n) (by omega)
        replace hr := hr.other gx 6 (.int .i64 n) (by omega)
        replace hw0 := hw0.setNew gx 6 (.int .i64 n) (by omega)
        generalize World.setCell _ ⟨gx, 6, none⟩ (.int .i64 n) = wn at *
        simp only [List.set_cons_zero, List.set_cons_succ] at rx
        obtain ⟨x0, x1, x2, x3, x4, x5, x6, x7, z0, z1, z2, z3, z4, z5, z6, z7⟩ := rx.c8
        obtain ⟨y0, y1, y2, y3, y4, -⟩ := rh.c5
        obtain ⟨inf, hi0', hz0, hz1, hz2⟩ := info_parts (P := Try.prog) (e := 47) (z := .agg #[.string ⟨#[]⟩, .string ⟨#[]⟩]) (size := 2) (bytes := 32) (by kernel_rfl)
        have HI := Lib.hid (show Try.prog.info? 47 = some inf ∧ inf.zero = _ ∧ inf.size = 2 ∧ inf.bytes = 32 from ⟨hi0', hz0, hz1, hz2⟩)
        clear hi0' hz0 hz1 hz2
        go_upto_region 14 with fail
        cases h5 : rNum 2 ((lst s).drop i4) with
        | none =>
          have CN := Lib.hid (numN (g := g) (kk := 2) (k := 2) hs rfl (by omega) (by omega) (show i4 ≤ s.size by omega) h5)
          unfold NumN at CN
          go_wp2_with (((with_reducible refine (CN.out _ hr).mono ?_); rintro e wn ⟨rfl, ha⟩; replace hw0 := hw0.trans ha; clear ha))
          have hnone : rRec ((lst s).drop i0) = none := by simp [rRec, rIf, txnB, passB, hkeyB, hvalB, pairsB, rMany, h1, h2, h3, h4, h5]
          exact ⟨rfl, by rw [hnone]; exact ⟨3, rfl, hw0⟩⟩
        | some vt =>
          obtain ⟨mm, tt⟩ := vt
          obtain ⟨i5, hji5, hj'i5, rfl⟩ := num_step h5 (show i4 ≤ s.size by omega)
          have hmm : ∃ m : Nat, mm = m ∧ m ≤ 65535 := by
            obtain ⟨-, hv, -⟩ := rNum_at h5 (show i4 ≤ s.size by omega)
            have hlt := le_lt (((lst s).drop i4).take 2)
            have hl2 : (((lst s).drop i4).take 2).length ≤ 2 := by simp; omega
            have hlt2 : 256 ^ (((lst s).drop i4).take 2).length ≤ 256 ^ 2 := Nat.pow_le_pow_right (by omega) hl2
            exact ⟨le (((lst s).drop i4).take 2), by omega, by omega⟩
          obtain ⟨m, rfl, hm⟩ := hmm
          have C5 := Lib.hid (numC (g := g) (kk := 2) (k := 2) hs rfl (by omega) (by omega) (show i4 ≤ s.size by omega) hji5 h5)
          unfold NumC at C5
          go_upto_region 15 with (((with_reducible refine (C5.out _ hr).mono ?_); rintro e wn ⟨rfl, hr1, ha⟩; clear hr; have hr := hr1; clear hr1; replace rx := rx.allBut ha (by omega); replace r2 := r2.allBut ha (by omega); replace rh := rh.allBut ha (by omega); replace hw0 := hw0.trans ha; clear ha; clear x0 x1 x2 x3 x4 x5 x6 x7 z0 z1 z2 z3 z4 z5 z6 z7 y0 y1 y2 y3 y4; obtain ⟨x0, x1, x2, x3, x4, x5, x6, x7, z0, z1, z2, z3, z4, z5, z6, z7⟩ := rx.c8; obtain ⟨y0, y1, y2, y3, y4, -⟩ := rh.c5))
          have how : World.ownsRow wn (gh + 1) 47 2 (.slice none 0 0) 0 (cellsP []) := ⟨rfl, .inl ⟨rfl, rfl⟩⟩
          have o4 := rh.lt
          clear rh y0 y1 y2 y3 y4 x0 x1 x2 x3 x4 x5 x6 x7 z0 z1 z2 z3 z4 z5 z6 z7 C2 C3 C4 C5
          have hL := left_start s m i5
          go_wp2_with fail
          go_loopw [47] (fun v wr => ∃ (k i : Nat) (b : Option Addr) (c : Nat) (L : List PairD), k ≤ m ∧ i ≤ s.size ∧ v = .int .i64 k ∧ L.length = k ∧ Left s m i5 k i L ∧ RowAt wr gx [.int .i64 7, .int .i64 0, .string ⟨#[]⟩, .string ⟨#[]⟩, .int .i64 p, .int .i64 u, .int .i64 n, .slice b k c] ∧
            wr.ownsRow (gh + 1) 47 2 (.slice b k c) k (cellsP L) ∧ RowAt wr g [.string s, .int .i64 (i : Int)] ∧ RowAt wr w.heap.size [.int .i64 0, .int .i64 0, .string ⟨#[]⟩, .string ⟨#[]⟩, .int .i64 0, .int .i64 0, .int .i64 0, .slice none 0 0] ∧ gh < wr.heap.size ∧ AllBut g w wr) (fun v _ => m - (intOf v).toNat)
          case atStart => exact ⟨0, i5, none, 0, [], by omega, by omega, rfl, rfl, hL, rx, how, hr, r2, o4, hw0⟩
          case round =>
            clear rx how hr r2 o4 hw0 hL
            obtain ⟨k, i, b, c, L, hk, hi, rfl, hLl, hL, rx, how, hr, r2, o4, hw0⟩ := hrel
            by_cases hlt : k < m
            · have j1 : (k : Int) < (m : Int) := by omega
              go_upto_region 16 with fail
              obtain ⟨x0, x1, x2, x3, x4, x5, x6, x7, -⟩ := rx.c8
              refine wp_region_two Eq (SameAt ⟨gx, 7, none⟩) (sameAt_ok _) (by kernel_rfl) (by kernel_rfl) (by kernel_rfl) ?_
              refine wpAnyTS_quiet 0 3 8 61 (by rfl) (by kernel_rfl) (fun _ _ _ _ _ h => h) (by kernel_rfl) (by kernel_rfl) ?_
              apply Exists.intro
              refine ⟨fun w1 hw1 => ?_, ?_⟩
              · have l7 := LaterEq.at x7 hw1
                have hne := laterEq_ne w1
                simp only [List.drop_succ_cons, List.drop_zero, List.take_succ_cons, List.take_zero]
                repeat (go_big_quiet_step (fail))
                exact wpQuiet_nil rfl
              refine wpAnyTS_quiet 4 1 7 61 (by rfl) (by kernel_rfl) (fun _ _ _ _ _ h => h) (by kernel_rfl) (by kernel_rfl) ?_
              apply Exists.intro
              refine ⟨fun w1 hw1 => ?_, ?_⟩
              · have l7 := LaterEq.at x7 hw1
                have hne := laterEq_ne w1
                simp only [List.drop_succ_cons, List.drop_zero, List.take_succ_cons, List.take_zero]
                repeat (go_big_quiet_step (fail))
                exact wpQuiet_nil rfl
              clear x0 x1 x2 x3 x4 x5 x6
              cases h6 : rText ((lst s).drop i) with
              | none =>
                have CN := Lib.hid (textN (g := g) hs hi h6)
                unfold TextN at CN
                refine wpAnyTS_some 3 [] 6 (by rfl) (by kernel_rfl) (by kernel_rfl) ?_
                rintro _ rfl
                refine ⟨?_, trivial⟩
                simp only [List.drop_succ_cons, List.drop_zero, List.take_succ_cons, List.take_zero]
                replace hr := hr.drew
                go_wp2_with ((with_reducible refine (CN.out _ hr).mono ?_); rintro e wn ⟨rfl, ha⟩)
                have hnone : rRec ((lst s).drop i0) = none := by
                  have hl := left_none1 hL hlt h6
                  simp [rRec, rIf, txnB, passB, hkeyB, hvalB, pairsB, rMany, h1, h2, h3, h4, h5, hl]
                exact ⟨rfl, by rw [hnone]; exact ⟨3, rfl, hw0.drew.trans ha⟩⟩
              | some vt =>
                obtain ⟨xa, tt⟩ := vt
                obtain ⟨j, hj, hj', rfl⟩ := text_step h6 hi
                have C2 := Lib.hid (textC (g := g) hs hi hj h6)
                unfold TextC at C2
                refine wpAnyTS_some 3 [] 6 (by rfl) (by kernel_rfl) (by kernel_rfl) ?_
                rintro _ rfl
                refine ⟨?_, trivial⟩
                simp only [List.drop_succ_cons, List.drop_zero, List.take_succ_cons, List.take_zero]
                replace hr := hr.drew
                replace x7 := show wr.drew.cell? ⟨gx, 7, none⟩ = _ from x7
                go_wp2_with ((with_reducible refine (C2.out _ hr).mono ?_); rintro e wn ⟨rfl, hr1, ha⟩)
                refine ⟨.inr (sameAt_but ha x7 (by simp; omega)), ?_⟩
                clear hr; have hr := hr1; clear hr1
                replace rx := rx.drew.allBut ha (by omega)
                replace r2 := r2.drew.allBut ha (by omega)
                replace how := ownsRow_but (ownsRow_up how (Up.refl wr).drew) ha (by omega)
                replace hw0 := hw0.drew.trans ha
                replace o4 := Nat.lt_of_lt_of_le o4 ha.size
                clear x7 ha C2
                obtain ⟨-, -, -, -, -, -, -, x7, -⟩ := rx.c8
                cases h7 : rText ((lst s).drop j) with
                | none =>
                  have CN := Lib.hid (textN (g := g) hs hj' h7)
                  unfold TextN at CN
                  refine wpAnyTS_some 5 [] 5 (by rfl) (by kernel_rfl) (by kernel_rfl) ?_
                  rintro _ rfl
                  refine ⟨?_, trivial⟩
                  simp only [List.drop_succ_cons, List.drop_zero, List.take_succ_cons, List.take_zero]
                  go_wp2_with ((with_reducible refine (CN.out _ hr).mono ?_); rintro e wn ⟨rfl, ha⟩)
                  have hnone : rRec ((lst s).drop i0) = none := by
                    have hl := left_none2 hL hlt h6 h7
                    simp [rRec, rIf, txnB, passB, hkeyB, hvalB, pairsB, rMany, h1, h2, h3, h4, h5, hl]
                  exact ⟨rfl, by rw [hnone]; exact ⟨3, rfl, hw0.trans ha⟩⟩
                | some vt =>
                  obtain ⟨xb, tt⟩ := vt
                  obtain ⟨j2, hj2, hj2', rfl⟩ := text_step h7 hj'
                  have C2 := Lib.hid (textC (g := g) hs hj' hj2 h7)
                  unfold TextC at C2
                  refine wpAnyTS_some 5 [] 5 (by rfl) (by kernel_rfl) (by kernel_rfl) ?_
                  rintro _ rfl
                  refine ⟨?_, trivial⟩
                  simp only [List.drop_succ_cons, List.drop_zero, List.take_succ_cons, List.take_zero]
                  go_wp2_with ((with_reducible refine (C2.out _ hr).mono ?_); rintro e wm ⟨rfl, hr1, ha⟩)
                  refine ⟨.inr (sameAt_but ha x7 (by simp; omega)), ?_⟩
                  clear hr; have hr := hr1; clear hr1
                  replace rx := rx.allBut ha (by omega)
                  replace r2 := r2.allBut ha (by omega)
                  replace how := ownsRow_but how ha (by omega)
                  replace hw0 := hw0.trans ha
                  replace o4 := Nat.lt_of_lt_of_le o4 ha.size
                  clear x7 ha C2
                  obtain ⟨-, -, -, -, -, -, -, x7, -⟩ := rx.c8
                  refine wpAnyTS_quiet 6 1 4 61 (by rfl) (by kernel_rfl) (fun _ _ _ _ _ h => h) (by kernel_rfl) (by kernel_rfl) ?_
                  apply Exists.intro
                  refine ⟨fun w1 hw1 => ?_, ?_⟩
                  · have l7 := LaterEq.at x7 hw1
                    have hne := laterEq_ne w1
                    simp only [List.drop_succ_cons, List.drop_zero, List.take_succ_cons, List.take_zero]
                    repeat (go_big_quiet_step (fail))
                    exact wpQuiet_nil rfl
                  refine wpAnyTS_some 7 [] 3 (by rfl) (by kernel_rfl) (by kernel_rfl) ?_
                  rintro _ rfl
                  refine ⟨?_, trivial⟩
                  simp only [List.drop_succ_cons, List.drop_zero, List.take_succ_cons, List.take_zero]
                  go_wp2_with fail
                  refine ⟨.inr (sameAt_but (g := g) ((AllBut.refl g _).alloc _) x7 (by simp; omega)), ?_⟩
                  have r6 := RowAt.made wm 47 [.string xa, .string xb]
                  replace hr := hr.alloc (.cells #[.string xa, .string xb] 47)
                  replace rx := rx.alloc (.cells #[.string xa, .string xb] 47)
                  replace r2 := r2.alloc (.cells #[.string xa, .string xb] 47)
                  replace how := how.alloc (.cells #[.string xa, .string xb] 47)
                  replace hw0 := hw0.alloc (.cells #[.string xa, .string xb] 47)
                  have o5 : gh < (wm.alloc (.cells #[.string xa, .string xb] 47)).heap.size := by simp; omega
                  generalize wm.heap.size = g6 at *
                  generalize wm.alloc (.cells #[.string xa, .string xb] 47) = wl at *
                  clear x7
                  obtain ⟨-, -, -, -, -, -, -, x7, -, -, -, -, -, -, -, z7⟩ := rx.c8
                  refine wpAnyTS_some 8 [] 2 (by rfl) (by kernel_rfl) (by kernel_rfl) ?_
                  rintro _ rfl
                  refine ⟨?_, trivial⟩
                  simp only [List.drop_succ_cons, List.drop_zero, List.take_succ_cons, List.take_zero]
                  obtain ⟨hi0', hz0, hz1, hz2⟩ := HI.out
                  go_wp2_with (at_builtin; refine wpList_append_own _ rfl _ _ 22 rfl (gh + 1) 47 inf (.agg #[.string ⟨#[]⟩, .string ⟨#[]⟩]) 2 32 (by kernel_rfl) hi0' hz0 hz1 hz2 rfl (by decide) _ _ _ rfl how ⟨g6, 0, none⟩ 1 1 [.string xa, .string xb] rfl rfl r6.adds (fun x hx => by simp at hx; rcases hx with rfl | rfl <;> rfl) (by unfold maxLen; omega) (by omega) (by omega) ?_; intro v' w5 how' hgrow _)
                  have hown := how.lt
                  refine ⟨.inr (Eq.trans (hgrow.cell x7 (fun e => by have := (hown gx e.symm).1; omega)) x7.symm), ?_⟩
                  obtain ⟨b5, c5, rfl⟩ := own_form how'
                  rw [show cellsP L ++ [.string xa, .string xb] = cellsP (L ++ [(xa, xb)]) by rw [cellsP_append]; rfl] at how'
                  replace rx := rx.grown hgrow (fun q hq => by have := (hown q hq).1; omega)
                  replace r2 := r2.grown hgrow (fun q hq => by have := (hown q hq).1; omega)
                  replace hr := hr.grown hgrow (fun q hq => by have := (hown q hq).1; omega)
                  replace hw0 := hw0.grown hgrow (fun q hq => by have := (hown q hq).1; omega)
                  have o6 : gh < w5.heap.size := Nat.lt_of_lt_of_le o5 hgrow.size
                  clear x7 z7 hown hgrow how r6
                  obtain ⟨-, -, -, -, -, -, -, x7, -, -, -, -, -, -, -, z7⟩ := rx.c8
                  refine wpAnyTS_quiet 9 1 1 61 (by rfl) (by kernel_rfl) (fun _ _ _ _ _ h => h) (by kernel_rfl) (by kernel_rfl) ?_
                  apply Exists.intro
                  refine ⟨fun w1 hw1 => ?_, ?_⟩
                  · have l7 := LaterEq.at x7 hw1
                    have hne := laterEq_ne w1
                    simp only [List.drop_succ_cons, List.drop_zero, List.take_succ_cons, List.take_zero]
                    repeat (go_big_quiet_step (fail))
                    exact wpQuiet_nil rfl
                  refine wpAnyTS_some 10 [] 0 (by rfl) (by kernel_rfl) (by kernel_rfl) ?_
                  rintro _ rfl
                  refine ⟨?_, trivial⟩
                  simp only [List.drop_succ_cons, List.drop_zero, List.take_succ_cons, List.take_zero]
                  go_wp2_with fail
                  refine ⟨.inl (by kernel_rfl), ?_⟩
                  replace rx := rx.set 7 (.slice b5 (k + 1) c5) (by simp)
                  simp only [List.set_cons_zero, List.set_cons_succ] at rx
                  replace r2 := r2.other gx 7 (.slice b5 (k + 1) c5) (by omega)
                  replace hr := hr.other gx 7 (.slice b5 (k + 1) c5) (by omega)
                  replace how' := ownsRow_set how' gx 7 (.slice b5 (k + 1) c5) (by omega)
                  replace hw0 := hw0.setNew gx 7 (.slice b5 (k + 1) c5) (by omega)
                  replace o6 : gh < (w5.setCell ⟨gx, 7, none⟩ (.slice b5 (k + 1) c5)).heap.size := by rw [World.size_setCell]; exact o6
                  clear x7 z7
                  generalize w5.setCell ⟨gx, 7, none⟩ (.slice b5 (k + 1) c5) = w8 at *
                  refine wpAnyTS_done (by kernel_rfl) ?_
                  rintro _ rfl
                  have hL2 := left_step hL hlt h6 h7
                  go_wp2_with fail
                  refine ⟨⟨k + 1, j2, b5, c5, L ++ [(xa, xb)], by omega, by omega, by go_num, by simp [hLl], hL2, rx, how', hr, r2, o6, hw0⟩, by simp [intOf]; omega⟩
            · have j1 : ¬ (k : Int) < (m : Int) := by omega
              obtain rfl : k = m := by omega
              have hl := left_end hL
              have hsome : rRec ((lst s).drop i0) = some (⟨7, 0, ⟨#[]⟩, ⟨#[]⟩, p, u, n, L⟩, (lst s).drop i) := by simp [rRec, rIf, txnB, passB, hkeyB, hvalB, pairsB, show (⟨#[]⟩ : ByteArray) = ByteArray.empty from rfl, rMany, h1, h2, h3, h4, h5, hl]
              go_upto_region 18 with fail
              obtain ⟨x0, x1, x2, x3, x4, x5, x6, x7, z0, z1, z2, z3, z4, z5, z6, z7⟩ := rx.c8
              obtain ⟨a0, a1, a2, a3, a4, a5, a6, a7, b0, b1, b2, b3, b4, b5, b6, b7⟩ := r2.c8
              go_wp2_with fail
              refine bodyPost_ret (v := .agg #[.int .i64 7, .int .i64 0, .string ⟨#[]⟩, .string ⟨#[]⟩, .int .i64 p, .int .i64 u, .int .i64 n, .slice b k c]) ?_ rfl ?_
              · simp [results, Try.results38, go_sem, *]
              have hfin := pairs_owned (lo := w.heap.size) (base := gh + 1) (e := 47) (k := k) (b3 := b) (c3 := c) (w := _) (by omega) (ownsRow_8 how w.heap.size (.int .i64 7) (.int .i64 0) (.string ⟨#[]⟩) (.string ⟨#[]⟩) (.int .i64 p) (.int .i64 u) (.int .i64 n) (.slice b k c) (by omega)) rfl hLl
              refine ⟨b, c, i, by rw [recV, hLl], hfin.1, hfin.2, ?_, hi, rfl, ?_⟩
              · repeat (refine RowAt.other ?_ _ _ _ (by omega))
                exact hr
              · repeat (refine AllBut.setNew ?_ _ _ _ (by omega))
                exact hw0

set_option maxHeartbeats 1000000 in
theorem read_no {s : ByteArray} (hs : s.size ≤ 1099511627776) {g i0 : Nat} {w : World} (hi0 : i0 ≤ s.size) (h1 : rNum 1 ((lst s).drop i0) = none) (hr : RowAt w g [.string s, .int .i64 (i0 : Int)]) :
    Calls Try.prog 38 #[.pointer (some ⟨g, 0, none⟩)] w (ReadPost s g w (rRec ((lst s).drop i0))) := by
  have CN := Lib.hid (numN (g := g) (kk := 1) (k := 1) hs rfl (by omega) (by omega) hi0 h1)
  unfold NumN at CN
  go_enter Try.func38, Try.ntmps38
  go_upto_region 1 with fail
  replace hr := hr.alloc (.cells #[.int .i64 0, .int .i64 0, .string ⟨#[]⟩, .string ⟨#[]⟩, .int .i64 0, .int .i64 0, .int .i64 0, .slice none 0 0] 24)
  have hw0 := (AllBut.refl g w).alloc (.cells #[.int .i64 0, .int .i64 0, .string ⟨#[]⟩, .string ⟨#[]⟩, .int .i64 0, .int .i64 0, .int .i64 0, .slice none 0 0] 24)
  generalize w.alloc (.cells #[.int .i64 0, .int .i64 0, .string ⟨#[]⟩, .string ⟨#[]⟩, .int .i64 0, .int .i64 0, .int .i64 0, .slice none 0 0] 24) = w2 at *
  go_wp2_with (((with_reducible refine (CN.out _ hr).mono ?_); rintro e wn ⟨rfl, ha⟩; replace hw0 := hw0.trans ha; clear ha))
  have hnone : rRec ((lst s).drop i0) = none := by simp [rRec, h1]
  exact ⟨rfl, by rw [hnone]; exact ⟨3, rfl, hw0⟩⟩

set_option maxHeartbeats 1000000 in
theorem read_out {s : ByteArray} (hs : s.size ≤ 1099511627776) {g i0 i1 : Nat} {w : World} (K : Int) (hK : inB K 1 7 = false) (hi0 : i0 ≤ s.size) (hi1 : i1 = i0 + 1) (h1 : rNum 1 ((lst s).drop i0) = some (K, (lst s).drop i1)) (hr : RowAt w g [.string s, .int .i64 (i0 : Int)]) :
    Calls Try.prog 38 #[.pointer (some ⟨g, 0, none⟩)] w (ReadPost s g w (rRec ((lst s).drop i0))) := by
  have C1 := Lib.hid (numC (g := g) (kk := 1) (k := 1) hs rfl (by omega) (by omega) hi0 (show i1 = i0 + 1 by omega) h1)
  unfold NumC at C1
  have c3 := fun w => rec_within K 1 7 w
  rw [hK] at c3
  have C3 := Lib.hid c3; clear c3
  have C4 := Lib.hid (rec_must_bad 4 (by decide))
  have hKK : ¬ (1 ≤ K ∧ K ≤ 7) := by
    intro h
    simp [inB, h.1] at hK
    omega
  have HK := Lib.hid hKK; clear hKK hK
  go_enter Try.func38, Try.ntmps38
  go_upto_region 1 with fail
  have o1 := hr.lt
  replace hr := hr.alloc (.cells #[.int .i64 0, .int .i64 0, .string ⟨#[]⟩, .string ⟨#[]⟩, .int .i64 0, .int .i64 0, .int .i64 0, .slice none 0 0] 24)
  have hw0 := (AllBut.refl g w).alloc (.cells #[.int .i64 0, .int .i64 0, .string ⟨#[]⟩, .string ⟨#[]⟩, .int .i64 0, .int .i64 0, .int .i64 0, .slice none 0 0] 24)
  generalize w.alloc (.cells #[.int .i64 0, .int .i64 0, .string ⟨#[]⟩, .string ⟨#[]⟩, .int .i64 0, .int .i64 0, .int .i64 0, .slice none 0 0] 24) = w2 at *
  go_upto_region 2 with ((with_reducible refine (C1.out _ hr).mono ?_); rintro e w1 ⟨rfl, hr1, ha⟩; clear hr; have hr := hr1; clear hr1; replace hw0 := hw0.trans ha; clear ha)
  have rx : RowAt (w1.alloc (.cells #[.int .i64 K, .int .i64 0, .string ⟨#[]⟩, .string ⟨#[]⟩, .int .i64 0, .int .i64 0, .int .i64 0, .slice none 0 0] 24)) w1.heap.size [.int .i64 K, .int .i64 0, .string ⟨#[]⟩, .string ⟨#[]⟩, .int .i64 0, .int .i64 0, .int .i64 0, .slice none 0 0] := RowAt.made w1 _ _
  replace hw0 := hw0.alloc (.cells #[.int .i64 K, .int .i64 0, .string ⟨#[]⟩, .string ⟨#[]⟩, .int .i64 0, .int .i64 0, .int .i64 0, .slice none 0 0] 24)
  generalize w1.heap.size = gx at *
  generalize w1.alloc (.cells #[.int .i64 K, .int .i64 0, .string ⟨#[]⟩, .string ⟨#[]⟩, .int .i64 0, .int .i64 0, .int .i64 0, .slice none 0 0] 24) = w3 at *
  obtain ⟨x0, -⟩ := rx.c8
  go_wp2_with (first
    | ((with_reducible refine (C3.out _).mono ?_); rintro e w1 ⟨rfl, rfl⟩)
    | ((with_reducible refine (C4.out _).mono ?_); rintro e w1 ⟨rfl, rfl⟩))
  have hnone : rRec ((lst s).drop i0) = none := by simp [rRec, h1]; intro a b; exact absurd ⟨a, b⟩ HK.out
  exact ⟨rfl, by rw [hnone]; exact ⟨4, rfl, hw0⟩⟩

/-- (*rec.reader).read. -/
theorem reader_read {s : ByteArray} (hs : s.size ≤ 1099511627776) {g : Nat} {w : World} (hr : RowAt w g [.string s, .int .i64 0]) :
    Calls Try.prog 38 #[.pointer (some ⟨g, 0, none⟩)] w (ReadPost s g w (rRec (lst s))) := by
  have hr0 : RowAt w g [.string s, .int .i64 ((0 : Nat) : Int)] := hr
  have e0 : (lst s).drop 0 = lst s := rfl
  rw [← e0]
  cases h1 : rNum 1 ((lst s).drop 0) with
  | none => exact read_no hs (Nat.zero_le _) h1 hr0
  | some vt =>
    obtain ⟨K, t⟩ := vt
    obtain ⟨i1, hi1, hi1', rfl⟩ := num_step h1 (Nat.zero_le _)
    cases hK : inB K 1 7
    · exact read_out hs K hK (Nat.zero_le _) hi1 h1 hr0
    · have hk : 1 ≤ K ∧ K ≤ 7 := by simpa [inB] using hK
      have : K = 1 ∨ K = 2 ∨ K = 3 ∨ K = 4 ∨ K = 5 ∨ K = 6 ∨ K = 7 := by omega
      rcases this with rfl | rfl | rfl | rfl | rfl | rfl | rfl
      · exact read1 hs (Nat.zero_le _) hi1 hi1' h1 hr0
      · exact read2 hs (Nat.zero_le _) hi1 hi1' h1 hr0
      · exact read3 hs (Nat.zero_le _) hi1 hi1' h1 hr0
      · exact read4 hs (Nat.zero_le _) hi1 hi1' h1 hr0
      · exact read5 hs (Nat.zero_le _) hi1 hi1' h1 hr0
      · exact read6 hs (Nat.zero_le _) hi1 hi1' h1 hr0
      · exact read7 hs (Nat.zero_le _) hi1 hi1' h1 hr0
end Go.Proofs.Ytibeeomeafakgaa
