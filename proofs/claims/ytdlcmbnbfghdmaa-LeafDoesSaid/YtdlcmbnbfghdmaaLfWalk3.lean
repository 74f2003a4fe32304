/- Layer 10: over. -/
import Derived.Test.YtdlcmbnbfghdmaaLfWalk2
import Derived.Test.YtdlcmbnbfghdmaaOwnMore
namespace Go.Proofs.Ytdlcmbnbfghdmaa
open Go.RowKit Bw
set_option linter.unusedVariables false
/-- Where the pairs of a slice lie; its capacity. -/
def SlAt (w : World) (q : Option Addr) (c : Nat) (l : List PairD) : Prop := PairsAt w q l ∧ l.length ≤ c ∧ (q = none → c = 0)
theorem SlAt.up {w w' : World} {q : Option Addr} {c : Nat} {l : List PairD} (h : SlAt w q c l) (hu : Up w w') : SlAt w' q c l := ⟨h.1.up hu, h.2⟩
theorem SlAt.pairs {w : World} {q : Option Addr} {c : Nat} {l : List PairD} (h : SlAt w q c l) : PairsAt w q l := h.1
theorem SlAt.cells {w : World} {q : Option Addr} {c : Nat} {l : List PairD} (h : SlAt w q c l) {ad : Addr} (hq : q = some ad) : ∀ i u, (cellsP l)[i]? = some u → w.cell? (ad.add i) = some u := by
  intro i u hu
  have hi : i < l.length * 2 := by have := (List.getElem?_eq_some_iff.1 hu).1; rw [cellsP_length] at this; exact this
  obtain ⟨g, o, e, c1, c2⟩ := h.1 (i / 2) (by omega)
  rw [hq] at e
  injection e with e
  subst e
  obtain ⟨d1, d2⟩ := cellsP_get l (i / 2) (by omega)
  have hadd : (⟨g, o, none⟩ : Addr).add i = ⟨g, o + i, none⟩ := by unfold Addr.add; split <;> simp_all
  rw [hadd]
  rcases Nat.mod_two_eq_zero_or_one i with h2 | h2
  · rw [show i / 2 * 2 = i by omega] at c1 d1
    rw [c1, ← hu, d1]
  · rw [show o + i / 2 * 2 + 1 = o + i by omega] at c2
    rw [show i / 2 * 2 + 1 = i by omega] at d2
    rw [c2, ← hu, d2]
theorem cellsP_take (l : List PairD) (n : Nat) : cellsP (l.take n) = (cellsP l).take (n * 2) := by
  induction l generalizing n with
  | nil => simp [cellsP]
  | cons p l ih =>
    cases n with
    | zero => simp [cellsP]
    | succ n =>
      have h := ih n
      simp only [cellsP, List.take_succ_cons, List.flatMap_cons] at *
      rw [h, show (n + 1) * 2 = n * 2 + 1 + 1 by omega]
      rfl
theorem cellsP_drop (l : List PairD) (n : Nat) : cellsP (l.drop n) = (cellsP l).drop (n * 2) := by
  induction l generalizing n with
  | nil => simp [cellsP]
  | cons p l ih =>
    cases n with
    | zero => simp [cellsP]
    | succ n =>
      have h := ih n
      simp only [cellsP, List.drop_succ_cons, List.flatMap_cons] at *
      rw [h, show (n + 1) * 2 = n * 2 + 1 + 1 by omega]
      rfl
theorem SlAt.takes {w : World} {q : Option Addr} {c : Nat} {l : List PairD} (h : SlAt w q c l) (n : Nat) {ad : Addr} (hq : q = some ad) : ∀ i u, (cellsP (l.take n))[i]? = some u → w.cell? (ad.add i) = some u := by
  intro i u hu
  rw [cellsP_take, List.getElem?_take] at hu
  split at hu
  · exact h.cells hq i u hu
  · cases hu
theorem SlAt.drops {w : World} {g o c : Nat} {sp : Option Nat} {l : List PairD} (h : SlAt w (some ⟨g, o, sp⟩) c l) (n : Nat) (ad : Addr) (hn : n < l.length → ad = (⟨g, o, sp⟩ : Addr).add (n * 2)) : ∀ i u, (cellsP (l.drop n))[i]? = some u → w.cell? (ad.add i) = some u := by
  intro i u hu
  rw [cellsP_drop, List.getElem?_drop] at hu
  have hlt : n * 2 + i < l.length * 2 := by have := (List.getElem?_eq_some_iff.1 hu).1; rw [cellsP_length] at this; exact this
  obtain ⟨g', o', e, -⟩ := h.1 n (by omega)
  injection e with e
  injection e with e1 e2 e3
  subst e1 e2 e3
  have h2 := h.cells (ad := ⟨g, o, none⟩) rfl _ u hu
  rw [hn (by omega)]
  have hadd : ∀ o i, (⟨g, o, none⟩ : Addr).add i = ⟨g, o + i, none⟩ := fun o i => by unfold Addr.add; split <;> simp_all
  rw [hadd] at h2
  rw [hadd, hadd]
  rw [← h2]
  congr 2
  omega
theorem slAt_own {W w : World} {l : List PairD} {T : List Res} {j : Nat} {q : Option Addr} {n c : Nat} {e : TypeId} (h : Hold W w T) (hj : T[j]? = some (ownZ e 2 (.slice q n c) n (cellsP l))) (hn : n = l.length) (hc : n ≤ c) (hq : q = none → c = 0) : SlAt w q c l := by
  obtain ⟨p, c', he, hp⟩ := owned_pairs (h.get j hj) hn
  injection he with e1 e2 e3
  subst e1
  exact ⟨hp, by omega, hq⟩
/-- Pairs in blocks of their own, as a thing in memory. -/
def slR (q : Option Addr) (c : Nat) (l : List PairD) : Res := ⟨fun k => ∃ a, q = some a ∧ a.block = k, fun w => SlAt w q c l ∧ ∀ a, q = some a → a.block < w.heap.size, fun {S w w'} hA hk h => ⟨⟨fun i hi => by
    obtain ⟨g, o, hp, hc, hd⟩ := h.1.1 i hi
    have hne : ¬ S g := hk g ⟨_, hp, rfl⟩
    exact ⟨g, o, hp, hA.cell hc hne, hA.cell hd hne⟩, h.1.2⟩, fun a ha => Nat.lt_of_lt_of_le (h.2 a ha) hA.size⟩, fun {w k} h hk => by obtain ⟨a, ha, rfl⟩ := hk; exact h.2 a ha⟩
/-- In blocks that were not there. -/
def NewQ (w : World) (q : Option Addr) : Prop := ∀ a, q = some a → w.heap.size ≤ a.block
theorem slR_nil (w : World) : (slR none 0 []).holds w ∧ NewQ w none := ⟨⟨⟨PairsAt.nil w none, Nat.le_refl _, fun _ => rfl⟩, fun a h => by cases h⟩, fun a h => by cases h⟩
theorem slR_own {W w : World} {l : List PairD} {T : List Res} {j : Nat} {q : Option Addr} {n c : Nat} {e : TypeId} (h : Hold W w T) (hj : T[j]? = some (ownZ e 2 (.slice q n c) n (cellsP l))) (hn : n = l.length) (hc : n ≤ c) (hq : q = none → c = 0) : (slR q c l).holds w ∧ NewQ W q := by
  have h1 : w.ownsRow 0 e 2 (.slice q n c) n (cellsP l) := h.get j hj
  exact ⟨⟨slAt_own h hj hn hc hq, fun a ha => by subst ha; exact (World.ownsRow.lt h1 a.block rfl).2⟩, fun a ha => by subst ha; exact h.new j hj a.block rfl⟩
theorem hold_addSl {W w w' : World} {T : List Res} {q : Option Addr} {c : Nat} {l : List PairD} (h : Hold W w T) (hu : Below w.heap.size w w') (hR : (slR q c l).holds w') (hn : NewQ w q) : Hold W w' (T ++ [slR q c l]) :=
  h.add hu _ hR fun k hk => by obtain ⟨a, ha, rfl⟩ := hk; exact hn a ha
theorem slR_pairs {w : World} {q : Option Addr} {c : Nat} {l : List PairD} (h : (slR q c l).holds w) : PairsAt w q l := h.1.1
theorem slR_sl {w : World} {q : Option Addr} {c : Nat} {l : List PairD} (h : (slR q c l).holds w) : SlAt w q c l := h.1
theorem slR_new {W w : World} {T : List Res} {j : Nat} {q : Option Addr} {c : Nat} {l : List PairD} (h : Hold W w T) (hj : T[j]? = some (slR q c l)) : NewQ W q := fun a ha => h.new j hj a.block ⟨a, ha, rfl⟩
theorem NewQ.le {W w : World} {q : Option Addr} (h : NewQ w q) (hu : Up W w) : NewQ W q := fun a ha => Nat.le_trans (Below.size hu) (h a ha)
def overL (l ws : List PairD) (i j : Nat) : List PairD := l.take i ++ ws ++ l.drop j
theorem overL_length {l ws : List PairD} {i j : Nat} (hij : i ≤ j) (hj : j ≤ l.length) : (overL l ws i j).length = i + ws.length + (l.length - j) := by simp [overL]; omega
theorem infoPair : ∃ i, Try.prog.info? 44 = some i ∧ i.zero = some (.agg #[.string ⟨#[]⟩, .string ⟨#[]⟩]) ∧ i.size = 2 ∧ i.bytes = 32 := by
  refine ⟨_, rfl, ?_, ?_, ?_⟩ <;> kernel_rfl
theorem infoPairS : (Try.prog.info? 44).map (·.size) = some 2 := by kernel_rfl
set_option maxHeartbeats 2000000 in
set_option maxRecDepth 100000 in
theorem leaf_over (l ws : List PairD) (hl : l.length ≤ 1000) (hw : ws.length ≤ 1000) (i j : Nat) (hij : i ≤ j) (hj : j ≤ l.length) (q qw : Option Addr) (c cw : Nat) (w : World) (hA : SlAt w q c l) (hW : SlAt w qw cw ws) :
    Calls Try.prog 55 #[.slice q l.length c, .int .i64 i, .int .i64 j, .slice qw ws.length cw] w fun e w' => ∃ q' c', e = .returned (.slice q' (overL l ws i j).length c') ∧ (slR q' c' (overL l ws i j)).holds w' ∧ NewQ w q' ∧ Below w.heap.size w w' := by
  have hlen := overL_length (ws := ws) hij hj
  have HO := Lib.hid (show cellsP (overL l ws i j) = cellsP (l.take i) ++ cellsP ws ++ cellsP (l.drop j) by rw [overL, cellsP_append, cellsP_append])
  generalize overL l ws i j = L at *
  have hD := Hold.start w
  obtain ⟨inf, hi0', hz0, hz1, hz2⟩ := infoPair
  have ht1 := Lib.hid (show (cellsP (l.take i)).length = i * 2 by rw [cellsP_length, List.length_take]; omega)
  have ht2 := Lib.hid (show (cellsP (l.drop j)).length = (l.length - j) * 2 by rw [cellsP_length, List.length_drop])
  have ht3 := Lib.hid (cellsP_length ws)
  have HA := Lib.hid hA
  have HW := Lib.hid hW
  have hn1 := hA.2.2
  have hn2 := hW.2.2
  have hc1 := hA.2.1
  have hc2 := hW.2.1
  clear hA hW
  have HN := Lib.hid hlen
  rw [hlen]
  clear hlen
  generalize hn : l.length = n at *
  generalize hm : ws.length = m at *
  have hni := Lib.hid hn
  have hmi := Lib.hid hm
  clear hn hm
  have i0 : (0 : Int) ≤ (i : Int) := by omega
  have i1 : (i : Int) ≤ (n : Int) := by omega
  have i2 : (0 : Int) ≤ (j : Int) := by omega
  have i3 : (j : Int) ≤ (n : Int) := by omega
  have i4 : (n : Int) ≤ 1000 := by omega
  have i5 : (m : Int) ≤ 1000 := by omega
  have i7 : (0 : Int) ≤ (n : Int) - (j : Int) := by omega
  have key : ∀ q' c' w' X, X = cellsP (l.take i) ++ cellsP ws ++ cellsP (l.drop j) → i + m + (n - j) ≤ c' → (q' = none → c' = 0) → Hold w w' [ownZ 44 2 (.slice q' (i + m + (n - j)) c') (i + m + (n - j)) X] → (slR q' c' L).holds w' ∧ NewQ w q' ∧ Below w.heap.size w w' := by
    intro q' c' w' X hX hc hq h
    rw [hX, ← HO.out] at h
    obtain ⟨x1, x2⟩ := slR_own h (j := 0) rfl HN.out.symm hc hq
    exact ⟨x1, x2, h.up⟩
  have K := Lib.hid key
  have u1 := Lib.hid (cellsP_one (l.take i))
  have u2 := Lib.hid (cellsP_one ws)
  have u3 := Lib.hid (cellsP_one (l.drop j))
  have b1 : (i + m) ≤ 2000 := by omega
  have b2 : (i + m) + (n - j) ≤ 2000 := by omega
  have HN2 := Lib.hid hn2
  have B1 := Lib.hid b1
  have B2 := Lib.hid b2
  clear key hn2 hc2 HN HO b1 b2
  generalize hX1 : cellsP (l.take i) = X1 at *
  generalize hX2 : cellsP ws = X2 at *
  generalize hX3 : cellsP (l.drop j) = X3 at *
  have HX1 := Lib.hid hX1
  have HX2 := Lib.hid hX2
  have HX3 := Lib.hid hX3
  clear hX1 hX2 hX3
  cases q with
  | none =>
    obtain rfl := hn1 rfl
    obtain rfl : n = 0 := by omega
    obtain rfl : j = 0 := by omega
    obtain rfl : i = 0 := by omega
    clear hn1 hc1 hij hj hl hw
    rw [Nat.zero_add, Nat.sub_self, Nat.add_zero] at K
    rw [Nat.zero_add, Nat.sub_self, Nat.add_zero]
    rw [Nat.sub_self] at ht2
    show Calls _ _ #[.slice none 0 0, .int .i64 0, .int .i64 0, .slice qw m cw] w _
    go_enter Try.func55, Try.ntmps55
    go_wp2_with (first
      | (at_make; refine wpList_makeZ rfl _ _ 22 rfl 44 inf (.agg #[.string ⟨#[]⟩, .string ⟨#[]⟩]) 2 32 (by kernel_rfl) hi0' hz0 hz1 hz2 _ _ _ _ 0 (m) rfl rfl rfl (by omega) (by omega) (by omega) (by unfold maxLen; omega) hD ?_; intro w5 zs hz hD; rw [List.nil_append] at hD)
      | ((with_reducible refine wpList_at 21 ?_); refine wpList_copyAll rfl (.tmp 17) (.tmp 20) 22 22 rfl 44 2 (by kernel_rfl) infoPairS hD 0 _ 0 _ _ rfl rfl (none) _ X1 rfl ht1.out (fun _ => ⟨rfl, rfl⟩) (fun ad i u h => by cases h) u1.out ?_; intro w6 hD)
      | ((with_reducible refine wpList_at 24 ?_); refine wpList_appendIn rfl (.tmp 22) (.tmp 23) 22 rfl 44 inf (.agg #[.string ⟨#[]⟩, .string ⟨#[]⟩]) 2 32 (by kernel_rfl) hi0' hz0 hz1 hz2 rfl (by decide) hD 0 0 _ X1 rfl rfl qw m cw X2 rfl ht3.out (fun h => by have := HN2.out h; have := HW.out.2.1; have := hmi.out; omega) (fun ad i u h hu => (HW.out.up hD.up).cells h i u (by simpa only [HX2.out] using hu)) u2.out (by have := B1.out; unfold maxLen; omega) (by have := B1.out; omega) ?_; intro q7 c7 w7 h7 h8 hD; try rw [Nat.zero_add] at hD)
      | ((with_reducible refine wpList_at 29 ?_); refine wpList_appendIn rfl (.tmp 25) (.tmp 28) 22 rfl 44 inf (.agg #[.string ⟨#[]⟩, .string ⟨#[]⟩]) 2 32 (by kernel_rfl) hi0' hz0 hz1 hz2 rfl (by decide) hD 0 (m) _ (X1 ++ X2) rfl rfl (none) (0) _ X3 rfl ht2.out (fun _ => ⟨rfl, rfl⟩) (fun ad i u h => by cases h) u3.out (by have := B2.out; unfold maxLen; omega) (by have := B2.out; omega) ?_; intro q9 c9 w9 h9 h10 hD))
    go_ret
    obtain ⟨y1, y2, y3⟩ := K.out _ _ _ _ rfl h9 h10 hD
    exact ⟨_, _, rfl, y1, y2, y3⟩
  | some ad =>
    obtain ⟨g, o, sp⟩ := ad
    have i6 : (n : Int) ≤ (c : Int) := by omega
    by_cases hcj : c = j
    · obtain rfl : c = n := by omega
      obtain rfl : j = c := by omega
      clear hn1 hc1 hij hj hl hw hcj
      rw [Nat.sub_self, Nat.add_zero] at K
      rw [Nat.sub_self, Nat.add_zero]
      rw [Nat.sub_self] at ht2 B2
      go_enter Try.func55, Try.ntmps55
      go_wp2_with (first
        | (at_make; refine wpList_makeZ rfl _ _ 22 rfl 44 inf (.agg #[.string ⟨#[]⟩, .string ⟨#[]⟩]) 2 32 (by kernel_rfl) hi0' hz0 hz1 hz2 _ _ _ _ i (j + m) rfl rfl rfl (by omega) (by omega) (by omega) (by unfold maxLen; omega) hD ?_; intro w5 zs hz hD; rw [List.nil_append] at hD)
        | ((with_reducible refine wpList_at 21 ?_); refine wpList_copyAll rfl (.tmp 17) (.tmp 20) 22 22 rfl 44 2 (by kernel_rfl) infoPairS hD 0 _ i _ _ rfl rfl (some ⟨g, o, sp⟩) _ X1 rfl ht1.out (fun h => by cases h) (fun ad k u h hu => (HA.out.up hD.up).takes i h k u (by simpa only [HX1.out] using hu)) u1.out ?_; intro w6 hD)
        | ((with_reducible refine wpList_at 24 ?_); refine wpList_appendIn rfl (.tmp 22) (.tmp 23) 22 rfl 44 inf (.agg #[.string ⟨#[]⟩, .string ⟨#[]⟩]) 2 32 (by kernel_rfl) hi0' hz0 hz1 hz2 rfl (by decide) hD 0 i _ X1 rfl rfl qw m cw X2 rfl ht3.out (fun h => by have := HN2.out h; have := HW.out.2.1; have := hmi.out; omega) (fun ad i u h hu => (HW.out.up hD.up).cells h i u (by simpa only [HX2.out] using hu)) u2.out (by have := B1.out; unfold maxLen; omega) (by have := B1.out; omega) ?_; intro q7 c7 w7 h7 h8 hD; try rw [Nat.zero_add] at hD)
        | ((with_reducible refine wpList_at 29 ?_); refine wpList_appendIn rfl (.tmp 25) (.tmp 28) 22 rfl 44 inf (.agg #[.string ⟨#[]⟩, .string ⟨#[]⟩]) 2 32 (by kernel_rfl) hi0' hz0 hz1 hz2 rfl (by decide) hD 0 (i + m) _ (X1 ++ X2) rfl rfl (some ⟨g, o, sp⟩) (0) _ X3 rfl ht2.out (fun h => by cases h) (fun ad k u h hu => (HA.out.up hD.up).drops j ad (fun hh => absurd hni.out (by omega)) k u (by simpa only [HX3.out] using hu)) u3.out (by have := B2.out; unfold maxLen; omega) (by have := B2.out; omega) ?_; intro q9 c9 w9 h9 h10 hD))
      go_ret
      obtain ⟨y1, y2, y3⟩ := K.out _ _ _ _ rfl h9 h10 hD
      exact ⟨_, _, rfl, y1, y2, y3⟩
    · clear hn1 hc1 hij hj hl hw
      go_enter Try.func55, Try.ntmps55
      go_wp2_with (first
        | (at_make; refine wpList_makeZ rfl _ _ 22 rfl 44 inf (.agg #[.string ⟨#[]⟩, .string ⟨#[]⟩]) 2 32 (by kernel_rfl) hi0' hz0 hz1 hz2 _ _ _ _ i (n + m) rfl rfl rfl (by omega) (by omega) (by omega) (by unfold maxLen; omega) hD ?_; intro w5 zs hz hD; rw [List.nil_append] at hD)
        | ((with_reducible refine wpList_at 21 ?_); refine wpList_copyAll rfl (.tmp 17) (.tmp 20) 22 22 rfl 44 2 (by kernel_rfl) infoPairS hD 0 _ i _ _ rfl rfl (some ⟨g, o, sp⟩) _ X1 rfl ht1.out (fun h => by cases h) (fun ad k u h hu => (HA.out.up hD.up).takes i h k u (by simpa only [HX1.out] using hu)) u1.out ?_; intro w6 hD)
        | ((with_reducible refine wpList_at 24 ?_); refine wpList_appendIn rfl (.tmp 22) (.tmp 23) 22 rfl 44 inf (.agg #[.string ⟨#[]⟩, .string ⟨#[]⟩]) 2 32 (by kernel_rfl) hi0' hz0 hz1 hz2 rfl (by decide) hD 0 i _ X1 rfl rfl qw m cw X2 rfl ht3.out (fun h => by have := HN2.out h; have := HW.out.2.1; have := hmi.out; omega) (fun ad i u h hu => (HW.out.up hD.up).cells h i u (by simpa only [HX2.out] using hu)) u2.out (by have := B1.out; unfold maxLen; omega) (by have := B1.out; omega) ?_; intro q7 c7 w7 h7 h8 hD; try rw [Nat.zero_add] at hD)
        | ((with_reducible refine wpList_at 29 ?_); refine wpList_appendIn rfl (.tmp 25) (.tmp 28) 22 rfl 44 inf (.agg #[.string ⟨#[]⟩, .string ⟨#[]⟩]) 2 32 (by kernel_rfl) hi0' hz0 hz1 hz2 rfl (by decide) hD 0 (i + m) _ (X1 ++ X2) rfl rfl (some ((⟨g, o, sp⟩ : Addr).add (j * 2))) (n - j) _ X3 rfl ht2.out (fun h => by cases h) (fun ad k u h hu => (HA.out.up hD.up).drops j ad (fun hh => (Option.some.inj h).symm) k u (by simpa only [HX3.out] using hu)) u3.out (by have := B2.out; unfold maxLen; omega) (by have := B2.out; omega) ?_; intro q9 c9 w9 h9 h10 hD))
      go_ret
      obtain ⟨y1, y2, y3⟩ := K.out _ _ _ _ rfl h9 h10 hD
      exact ⟨_, _, rfl, y1, y2, y3⟩
end Go.Proofs.Ytdlcmbnbfghdmaa
