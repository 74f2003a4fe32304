/- Layer 24: the reader's act. -/
import Derived.Test.YtkkgcmnipdkeeaaDoorScWalk9
import Derived.Test.YtkkgcmnipdkeeaaDoorScAct
import Derived.Test.YtkkgcmnipdkeeaaDoorScLaw2
import Derived.Test.YtkkgcmnipdkeeaaDoorScWalk2
namespace Bw
theorem onesR_snoc (s : ByteArray) : ∀ (n : Nat) (st : RSt), onesR s (n + 1) st = ((onesR s n st).1 ++ [(oneR s (onesR s n st).2).1], (oneR s (onesR s n st).2).2)
  | 0, st => rfl
  | n + 1, st => by
    rw [onesR, onesR_snoc s n (oneR s st).2]
    rfl
theorem onesR_i (s : ByteArray) : ∀ (n : Nat) (st : RSt), (onesR s n st).2.i = st.i + n
  | 0, st => rfl
  | n + 1, st => by
    rw [onesR_snoc]
    show (onesR s n st).2.i + 1 = _
    rw [onesR_i s n st]; omega
theorem onesR_len (s : ByteArray) : ∀ (n : Nat) (st : RSt), (onesR s n st).1.length = n
  | 0, st => rfl
  | n + 1, st => by
    rw [onesR_snoc]
    simp [onesR_len s n st]
theorem textR_i (s : ByteArray) (st : RSt) : (textR s st).2.i ≤ max st.i s.size := by
  show max st.i (textTo s st.i).toNat ≤ _
  have : (textTo s st.i).toNat ≤ s.size := by
    by_cases h : textE s st.i = 0
    · by_cases hi : st.i ≤ s.size
      · exact (textTo_le s st.i hi h).2
      · exfalso
        unfold textE at h
        rw [if_neg (by omega), if_pos (by omega)] at h
        omega
    · rw [textTo, if_neg h]; omega
  omega
end Bw
namespace Go.RowKit
open Bw
section
variable {W w : World} {l : List Res} {P : Program} {ops : Array Oper} {rest : List Oper} {o : Oper} {a : Act} {Q : Exit → Act → World → Prop}
/-- append of one element to a slice of the law's own; all other blocks stay, and where the slice lies is the old place or a new one. -/
theorem wpList_appendB (hgd : o.guard = none) (s x : Operand) (t : TypeId) (ho : o.op = .call { callee := .builtin .append, args := #[s, x], argTypes := #[t, t] })
    (e : TypeId) (i : TypeInfo) (z : Value) (size bytes : Nat) (ht : P.underlying t = some (.slice e)) (hi : P.info? e = some i) (hz : i.zero = some z) (hsize : i.size = size) (hby : i.bytes = bytes) (hzs : z.cells.size = size) (hsz : 0 < size)
    (hH : Hold W w l) (j : Nat) (v : Value) (L : List Value) (n : Nat) (hj : l[j]? = some (ownZ e size v n L)) (hs : a.eval s = v) (ad : Addr) (c : Nat) (news : List Value) (hx : a.eval x = .slice (some ad) 1 c) (hl : news.length = 1 * size)
    (hnews : ∀ j v, news[j]? = some v → w.cell? (ad.add j) = some v) (hu : ∀ u ∈ news, u.oneCell' = true) (h63 : n + 1 ≤ maxLen) (hbytes : (n + 1) * bytes ≤ 140737488355328)
    (h : ∀ b cap w', AllS (ownZ e size v n L).has w w' → (v.ownBlock = some b ∨ w.heap.size ≤ b) → Hold W w' (l.set j (ownZ e size (.slice (some ⟨b, 0, none⟩) (n + 1) cap) (n + 1) (L ++ news))) → wpList P ops Q rest (a.put o.dst (.slice (some ⟨b, 0, none⟩) (n + 1) cap)) w') :
    wpList P ops Q (o :: rest) a w := by
  refine wpList_append_own_at w hgd s x t ho 0 e i z size bytes ht hi hz hsize hby hzs hsz v n L hs (hH.get j hj) ad 1 c news hx hl hnews hu h63 hbytes (Nat.zero_le _) ?_
  intro v' w' how hgrow _ hloc
  obtain ⟨b, cap, rfl⟩ : ∃ b cap, v' = .slice (some ⟨b, 0, none⟩) (n + 1) cap := by
    rcases how.2 with ⟨_, h0⟩ | ⟨g, cap, cur, rfl, _⟩
    · omega
    · exact ⟨g, cap, rfl⟩
  have hA : AllS (ownZ e size v n L).has w w' := (AllS.refl _ w).grown hgrow (fun k hk => .inl hk)
  have hb : (Value.slice (some ⟨b, 0, none⟩) (n + 1) cap).ownBlock = some b := rfl
  have hloc' : v.ownBlock = some b ∨ w.heap.size ≤ b := by
    rcases hloc with e1 | e1
    · exact .inl (e1.symm.trans hb)
    · rw [hb] at e1
      injection e1 with e1
      exact .inr (by omega)
  refine h b cap w' hA hloc' (hH.step j hj (ownZ e size _ _ _) how ?_ hA)
  intro k hk
  have hk' : (Value.slice (some ⟨b, 0, none⟩) (n + 1) cap).ownBlock = some k := hk
  rw [hb] at hk'
  injection hk' with hk'
  subst hk'
  exact hloc'
end
end Go.RowKit
namespace Go.Proofs.YtkkgcmnipdkeeaaDoor
open Go.RowKit Bw
set_option linter.unusedVariables false
theorem hold_ints0 {W w : World} {R : Res} {l : List Res} (h : Hold W w (R :: l)) : Hold W w [R, intsR none []] :=
  (h.sub (List.sublist_append_left [R] l)).add (Below.refl _ w) (intsR none []) ⟨IntsAt.nil _ _, fun x hx => (by cases hx)⟩ (fun k hk => by obtain ⟨x, hx, -⟩ := hk; cases hx)
theorem hold_ints4 {W w : World} {R A B C : Res} {e : TypeId} {q : Option Addr} {c : Nat} {fs : List Int} (h : Hold W w [R, A, B, C, ownZ e 1 (.slice q fs.length c) fs.length (intC fs)]) : Hold W w [R, intsR q fs] := by
  obtain ⟨o1, -, -, o4⟩ := own_ints (h.get 4 rfl) rfl
  have h2 := h.step 4 rfl (intsR q fs) ⟨o1, o4⟩ (fun k hk => .inl (by obtain ⟨x, hx, rfl⟩ := hk; subst hx; rfl)) (AllS.refl _ w)
  exact Hold.sub (l' := [R, intsR q fs]) h2 (.cons_cons _ (.cons _ (.cons _ (.cons _ (.cons_cons _ .slnil)))))
theorem hold_one2 {W w : World} {l : List Res} (h : Hold W w l) (j : Nat) {g : Nat} {s : ByteArray} {st st' : RSt} {v : Int} (hj : l[j]? = some (rdR g s st)) (ho : oneR s st = (v, st')) (hs : s.size ≤ 1000000000) (hi : st.i ≤ 2000000000) :
    Calls Tryd.prog 44 #[.pointer (some ⟨g, 0, none⟩)] w fun e w' => e = .returned (.int .i64 v) ∧ Hold W w' (l.set j (rdR g s st')) ∧ AllS (OneS g) w w' := by
  have := hold_one h j hj (by omega) (by omega)
  rw [ho] at this
  exact this
theorem hold_text2 {W w : World} {l : List Res} (h : Hold W w l) (j : Nat) {g : Nat} {s : ByteArray} {st st' : RSt} {v : ByteArray} (hj : l[j]? = some (rdR g s st)) (ho : textR s st = (v, st')) (hs : s.size ≤ 1000000000) (hi : st.i ≤ 2000000000) :
    Calls Tryd.prog 45 #[.pointer (some ⟨g, 0, none⟩)] w fun e w' => e = .returned (.string v) ∧ Hold W w' (l.set j (rdR g s st')) ∧ AllS (OneS g) w w' := by
  have := hold_text h j hj (by omega) (by omega)
  rw [ho] at this
  exact this
set_option maxHeartbeats 4000000 in
set_option maxRecDepth 100000 in
/-- Up to the kind's flags. -/
theorem act_core (s : ByteArray) (hs : s.size ≤ 1000000000) (i : Nat) (hi : i < s.size) {W w : World} {g : Nat} (hD : Hold W w [rdR g s ⟨i, true⟩]) :
    Calls Tryd.prog 40 #[.pointer (some ⟨g, 0, none⟩)] w fun e w' => ∃ q c, e = .returned (actV (actZ s i).1 q c) ∧ Hold W w' [rdR g s (actZ s i).2, intsR q (actZ s i).1.f] ∧ AllS (OneS g) w w' ∧ ∀ x, q = some x → w.heap.size ≤ x.block := by
  have ho1 : oneR s ⟨i, true⟩ = (getV s i 1, ⟨i + 1, true⟩) := by
    have := (roomE1 s i).2 hi
    simp [oneR, this]
  obtain ⟨vv0, vv1⟩ := getV1_le s i
  have HZ := Lib.hid (actZ_eq s i)
  generalize actZ s i = Z at *
  generalize getV s i 1 = k at *
  have hS := AllS.refl (OneS g) w
  have hg0 : W.heap.size ≤ g := hD.new 0 rfl g rfl
  have hgl : g < w.heap.size := (hD.get 0 rfl).lt
  go_enter Tryd.func40, Tryd.ntmps40
  go_upto_region 1 with fail
  replace hS := hS.trans (AllS.of_up ((Up.refl w).alloc (.cells #[.int .i64 0, .int .i64 0, .string ⟨#[]⟩, .string ⟨#[]⟩, .int .i64 0, .slice none 0 0] 24)))
  replace hD := hD.madeRow (.int .i64 0) [.int .i64 0, .string ⟨#[]⟩, .string ⟨#[]⟩, .int .i64 0, .slice none 0 0] 24
  simp only [List.cons_append, List.nil_append] at hD
  have hgr : w.heap.size ≤ w.heap.size := Nat.le_refl _
  generalize hgrr : w.heap.size = gr at hD hgr hgl ⊢
  go_upto_region 2 with ((with_reducible refine (hold_one2 hD 0 rfl ho1 hs (by simp only; omega)).mono ?_); rintro e wn ⟨rfl, hw, hA⟩; replace hD := hw; clear hw; replace hS := hS.trans hA; clear hA)
  have hga : gr < wn.heap.size := (hD.get 1 rfl).lt
  replace hS := hS.trans (AllS.of_up ((Up.refl wn).alloc (.cells #[.int .i64 k, .int .i64 0, .string ⟨#[]⟩, .string ⟨#[]⟩, .int .i64 0, .slice none 0 0] 24)))
  replace hD := hD.madeRow (.int .i64 k) [.int .i64 0, .string ⟨#[]⟩, .string ⟨#[]⟩, .int .i64 0, .slice none 0 0] 24
  generalize wn.heap.size = ga at *
  generalize wn.alloc _ = w1 at *
  replace hD : Hold W w1 [rdR g s ⟨i + 1, true⟩, rowR gr (.int .i64 0) [.int .i64 0, .string ⟨#[]⟩, .string ⟨#[]⟩, .int .i64 0, .slice none 0 0], rowR ga (.int .i64 k) [.int .i64 0, .string ⟨#[]⟩, .string ⟨#[]⟩, .int .i64 0, .slice none 0 0]] := hD
  obtain ⟨r0, r1, r2, f0, f1, f2⟩ := RowAt.c3 (hD.get 0 rfl)
  obtain ⟨⟨a0, a1, a2, a3, a4, a5⟩, -⟩ := RowAt.c6 (hD.get 2 rfl)
  obtain ⟨⟨b0, b1, b2, b3, b4, b5⟩, y0, y1, y2, y3, y4, y5⟩ := RowAt.c6 (hD.get 1 rfl)
  have n1 : ¬ g = gr := by omega
  have n2 : ¬ g = ga := by omega
  have n3 : ¬ gr = ga := by omega
  by_cases hk : k ≤ 11
  · rw [if_pos hk] at HZ
    have hki : (1 : Int) ≤ 1 := by omega
    have k1 : ¬ k ≥ 12 := by omega
    have CK := Lib.hid script_kinds
    have HI := Lib.hid (kind_at k vv0 hk)
    have HF := Lib.hid (flags_of k vv0 hk)
    obtain ⟨st1, hst1⟩ : ∃ st1 : RSt, (⟨i + 1, true⟩ : RSt) = st1 := ⟨_, rfl⟩
    obtain ⟨t, st2, h2⟩ : ∃ t st2, ifR (bT k) 0 (oneR s) st1 = (t, st2) := ⟨_, _, rfl⟩
    obtain ⟨key, st3, h3⟩ : ∃ key st3, ifR (bK k) ByteArray.empty (textR s) st2 = (key, st3) := ⟨_, _, rfl⟩
    obtain ⟨val, st4, h4⟩ : ∃ val st4, ifR (bV k) ByteArray.empty (textR s) st3 = (val, st4) := ⟨_, _, rfl⟩
    obtain ⟨n, st5, h5⟩ : ∃ n st5, ifR (bN k) 0 (oneR s) st4 = (n, st5) := ⟨_, _, rfl⟩
    obtain ⟨fs, st6, h6⟩ : ∃ fs st6, ifR (bF k) [] (fatesR s) st5 = (fs, st6) := ⟨_, _, rfl⟩
    have hZ := HZ.out
    rw [hst1] at hZ
    simp only [actR, h2, h3, h4, h5, h6] at hZ
    clear HZ
    have hi1 : st1.i = i + 1 := by rw [← hst1]
    replace hD : Hold W w1 [rdR g s st1, rowR gr (.int .i64 0) [.int .i64 0, .string ⟨#[]⟩, .string ⟨#[]⟩, .int .i64 0, .slice none 0 0], rowR ga (.int .i64 k) [.int .i64 0, .string ⟨#[]⟩, .string ⟨#[]⟩, .int .i64 0, .slice none 0 0]] := by rw [← hst1]; exact hD
    have HH := Lib.hid (And.intro h2 (And.intro h3 (And.intro h4 (And.intro h5 h6))))
    clear h2 h3 h4 h5 h6
    simp only [hasC] at HI
    generalize nameS k = NM at *
    generalize bT k = T at *
    generalize bK k = K at *
    generalize bV k = V at *
    generalize bN k = N at *
    generalize bF k = F at *
    go_upto_region 5 with fail
    clear r0 r1 r2 f0 f1 f2 a0 a1 a2 a3 a4 a5 b0 b1 b2 b3 b4 b5 y0 y1 y2 y3 y4 y5 hst1 ho1
    have hix := HI.out
    refine wp_region_two Up (RQ w1.drew.heap.size) (up_rq _) (by kernel_rfl) (by kernel_rfl) (by kernel_rfl) ?_
    have hg4 : ga < w1.heap.size := (hD.get 2 rfl).lt
    replace hD := hD.next ((Below.refl _ w1).drew)
    replace hS := hS.drew
    have hdr : w1.drew.heap.size = w1.heap.size := rfl
    rw [← hdr] at hg4
    clear hdr
    generalize w1.drew = wa at *
    obtain ⟨⟨a0, a1, a2, a3, a4, a5⟩, -⟩ := RowAt.c6 (hD.get 2 rfl)
    refine wpAnyTS_quiet 0 4 2 72 (by rfl) (by kernel_rfl) (fun _ _ _ _ _ h => h) (by kernel_rfl) (by kernel_rfl) ?_
    apply Exists.intro
    refine ⟨fun w2 hw2 => ?_, ?_⟩
    · have hne := laterR_ne rok_upQ w2
      have l0 := laterQ a0 hg4 (Nat.le_refl _) hw2
      simp only [List.drop_zero, List.take_succ_cons, List.take_zero]
      repeat (go_big_quiet_step ((go_at_call 22; with_reducible exact Calls.laterQ (CK.out _))))
      exact wpQuiet_nil rfl
    clear a0 a1 a2 a3 a4 a5 hix
    have hU := Up.refl wa
    refine wpAnyTS_some 4 [] 1 (by rfl) (by kernel_rfl) (by kernel_rfl) ?_
    intro w3 h3
    replace hD := hD.next h3
    replace hU := Up.trans hU h3
    clear h3
    refine ⟨?_, trivial⟩
    simp only [List.drop_succ_cons, List.drop_zero, List.take_succ_cons, List.take_zero]
    go_wp2_with fail
    refine ⟨.inr ((up_rq _).sub ((Up.refl _).alloc _)), ?_⟩
    have hg3 : wa.heap.size ≤ w3.heap.size := Below.size hU
    replace hD := hD.madeRow (.string ⟨#[]⟩) [.bool false, .bool false, .bool false, .bool false, .bool false] 49
    simp only [List.nil_append, List.cons_append] at hD
    replace hU := Up.trans hU ((Up.refl w3).alloc (.cells #[.string ⟨#[]⟩, .bool false, .bool false, .bool false, .bool false, .bool false] 49))
    generalize w3.heap.size = g3 at *
    generalize w3.alloc _ = w4 at *
    refine wpAnyTS_some 5 [] 0 (by rfl) (by kernel_rfl) (by kernel_rfl) ?_
    intro w5 h3
    replace hD := hD.next h3
    replace hU := Up.trans hU h3
    clear h3
    refine ⟨?_, trivial⟩
    obtain ⟨⟨x0, x1, x2, x3, x4, x5⟩, y0, y1, y2, y3, y4, y5⟩ := RowAt.c6 (hD.get 3 rfl)
    simp only [List.drop_succ_cons, List.drop_zero, List.take_succ_cons, List.take_zero]
    go_wp2_with fail
    refine ⟨.inr (fun _ => ((((((Below.refl _ w5).setCell (p := ⟨g3, 0, none⟩) hg3 _).setCell (p := ⟨g3, 1, none⟩) hg3 _).setCell (p := ⟨g3, 2, none⟩) hg3 _).setCell (p := ⟨g3, 3, none⟩) hg3 _).setCell (p := ⟨g3, 4, none⟩) hg3 _).setCell (p := ⟨g3, 5, none⟩) hg3 _), ?_⟩
    clear x0 x1 x2 x3 x4 x5 y0 y1 y2 y3 y4 y5
    replace hD := hD.put6 3 (g := g3) rfl (.string NM) (.bool T) (.bool K) (.bool V) (.bool N) (.bool F)
    replace hU := Up.setCell (Up.setCell (Up.setCell (Up.setCell (Up.setCell (Up.setCell hU g3 0 (.string NM) hg3) g3 1 (.bool T) hg3) g3 2 (.bool K) hg3) g3 3 (.bool V) hg3) g3 4 (.bool N) hg3) g3 5 (.bool F) hg3
    generalize ((((((w5.setCell ⟨g3, 0, none⟩ (.string NM)).setCell ⟨g3, 1, none⟩ (.bool T)).setCell ⟨g3, 2, none⟩ (.bool K)).setCell ⟨g3, 3, none⟩ (.bool V)).setCell ⟨g3, 4, none⟩ (.bool N)).setCell ⟨g3, 5, none⟩ (.bool F)) = w6 at *
    refine wpAnyTS_done (by kernel_rfl) ?_
    intro w7 h7
    replace hD := hD.next h7
    replace hU := Up.trans hU h7
    replace hS := hS.trans (AllS.of_up hU)
    replace hD : Hold W w7 [rdR g s st1, rowR gr (.int .i64 0) [.int .i64 0, .string ⟨#[]⟩, .string ⟨#[]⟩, .int .i64 0, .slice none 0 0], rowR ga (.int .i64 k) [.int .i64 0, .string ⟨#[]⟩, .string ⟨#[]⟩, .int .i64 0, .slice none 0 0], rowR g3 (.string NM) [.bool T, .bool K, .bool V, .bool N, .bool F]] := hD
    have hgx : gr < g3 := by omega
    clear h7 hU CK HI hg4
    obtain ⟨⟨a0, a1, a2, a3, a4, a5⟩, y0, y1, y2, y3, y4, y5⟩ := RowAt.c6 (hD.get 2 rfl); obtain ⟨⟨b0, b1, b2, b3, b4, b5⟩, -⟩ := RowAt.c6 (hD.get 3 rfl)
    rcases HF.out with ⟨rfl, rfl, rfl, rfl, rfl⟩ | ⟨rfl, rfl, rfl, rfl, rfl⟩ | ⟨rfl, rfl, rfl, rfl, rfl⟩ | ⟨rfl, rfl, rfl, rfl, rfl⟩ | ⟨rfl, rfl, rfl, rfl, rfl⟩ | ⟨rfl, rfl, rfl, rfl, rfl⟩
-- CASES
    · obtain ⟨h2, h3, h4, h5, h6⟩ := HH.out
      clear HH HF
      replace h2 : oneR s st1 = (t, st2) := h2
      have e2 : st2.i = st1.i + 1 := by have := congrArg (fun x => x.2.i) h2; exact this.symm
      obtain ⟨x1, x2⟩ : key = ⟨#[]⟩ ∧ st2 = st3 := by injection h3 with x1 x2; exact ⟨x1.symm, x2⟩
      subst x1 x2
      obtain ⟨x1, x2⟩ : val = ⟨#[]⟩ ∧ st2 = st4 := by injection h4 with x1 x2; exact ⟨x1.symm, x2⟩
      subst x1 x2
      obtain ⟨x1, x2⟩ : n = 0 ∧ st2 = st5 := by injection h5 with x1 x2; exact ⟨x1.symm, x2⟩
      subst x1 x2
      obtain ⟨x1, x2⟩ : fs = [] ∧ st2 = st6 := by injection h6 with x1 x2; exact ⟨x1.symm, x2⟩
      subst x1 x2
      go_upto_region 8 with ((with_reducible refine (hold_one2 hD 0 rfl h2 hs (by omega)).mono ?_); rintro e u0 ⟨rfl, hw, hA⟩; replace hD := hw; clear hw; replace hS := hS.trans hA; clear hA; clear a0 a1 a2 a3 a4 a5 y0 y1 y2 y3 y4 y5 b0 b1 b2 b3 b4 b5; obtain ⟨⟨a0, a1, a2, a3, a4, a5⟩, y0, y1, y2, y3, y4, y5⟩ := RowAt.c6 (hD.get 2 rfl); obtain ⟨⟨b0, b1, b2, b3, b4, b5⟩, -⟩ := RowAt.c6 (hD.get 3 rfl))
      replace hD := hD.putRow 2 (g := ga) rfl 1 (.int .i64 t) (.int .i64 k) [.int .i64 t, .string ⟨#[]⟩, .string ⟨#[]⟩, .int .i64 0, .slice none 0 0] (by simp) rfl
      replace hS := hS.setCell ga 1 (.int .i64 t) (.inr (by omega))
      clear a0 a1 a2 a3 a4 a5 y0 y1 y2 y3 y4 y5 b0 b1 b2 b3 b4 b5
      generalize u0.setCell _ _ = v0 at *
      replace hD : Hold W v0 [rdR g s st2, rowR gr (.int .i64 0) [.int .i64 0, .string ⟨#[]⟩, .string ⟨#[]⟩, .int .i64 0, .slice none 0 0], rowR ga (.int .i64 k) [.int .i64 t, .string ⟨#[]⟩, .string ⟨#[]⟩, .int .i64 0, .slice none 0 0], rowR g3 (.string NM) [.bool true, .bool false, .bool false, .bool false, .bool false]] := hD
      obtain ⟨⟨a0, a1, a2, a3, a4, a5⟩, y0, y1, y2, y3, y4, y5⟩ := RowAt.c6 (hD.get 2 rfl); obtain ⟨⟨b0, b1, b2, b3, b4, b5⟩, -⟩ := RowAt.c6 (hD.get 3 rfl)
      clear hi1 e2
      have CR := Lib.hid (fun w h => script_Right ⟨k, t, ⟨#[]⟩, ⟨#[]⟩, 0, []⟩ (by simp) (none) (0) w h)
      simp only [actV, List.length_nil] at CR
      generalize hRg : ActD.right ⟨k, t, ⟨#[]⟩, ⟨#[]⟩, 0, []⟩ = RG at *
      obtain ⟨nx, okx⟩ := st2
      simp only at hZ
      obtain ⟨r0, r1, r2, f0, f1, f2⟩ := RowAt.c3 (hD.get 0 rfl); obtain ⟨⟨c0, c1, c2, c3, c4, c5⟩, z0, z1, z2, z3, z4, z5⟩ := RowAt.c6 (hD.get 1 rfl)
      cases okx
      · simp only [Bool.false_and] at hZ
        subst hZ
        go_upto_region 20 with fail
        replace hS := hS.setCell g 2 (.bool false) (.inl rfl)
        replace hD := hD.putRow 0 (g := g) rfl 2 (.bool false) (.string s) [.int .i64 (nx : Int), .bool false] (by simp) rfl
        clear a0 a1 a2 a3 a4 a5 y0 y1 y2 y3 y4 y5 b0 b1 b2 b3 b4 b5
        clear r0 r1 r2 f0 f1 f2 c0 c1 c2 c3 c4 c5 z0 z1 z2 z3 z4 z5
        generalize v0.setCell _ _ = w8 at *
        obtain ⟨⟨a0, a1, a2, a3, a4, a5⟩, y0, y1, y2, y3, y4, y5⟩ := RowAt.c6 (hD.get 2 rfl); obtain ⟨⟨b0, b1, b2, b3, b4, b5⟩, -⟩ := RowAt.c6 (hD.get 3 rfl)
        obtain ⟨r0, r1, r2, f0, f1, f2⟩ := RowAt.c3 (hD.get 0 rfl); obtain ⟨⟨c0, c1, c2, c3, c4, c5⟩, z0, z1, z2, z3, z4, z5⟩ := RowAt.c6 (hD.get 1 rfl)
        go_wp2_with fail
        replace hS := (((((hS.setCell gr 0 (.int .i64 k) (.inr (by omega))).setCell gr 1 (.int .i64 t) (.inr (by omega))).setCell gr 2 (.string (⟨#[]⟩)) (.inr (by omega))).setCell gr 3 (.string (⟨#[]⟩)) (.inr (by omega))).setCell gr 4 (.int .i64 0) (.inr (by omega))).setCell gr 5 (.slice none 0 0) (.inr (by omega))
        replace hD := hD.put6 1 (g := gr) rfl (.int .i64 k) (.int .i64 t) (.string (⟨#[]⟩)) (.string (⟨#[]⟩)) (.int .i64 0) (.slice none 0 0)
        clear a0 a1 a2 a3 a4 a5 y0 y1 y2 y3 y4 y5 b0 b1 b2 b3 b4 b5
        clear r0 r1 r2 f0 f1 f2 c0 c1 c2 c3 c4 c5 z0 z1 z2 z3 z4 z5
        generalize (((((w8.setCell _ _).setCell _ _).setCell _ _).setCell _ _).setCell _ _).setCell _ _ = w9 at *
        replace hD : Hold W w9 [rdR g s ⟨nx, false⟩, rowR gr (.int .i64 k) [.int .i64 t, .string (⟨#[]⟩), .string (⟨#[]⟩), .int .i64 0, .slice none 0 0], rowR ga (.int .i64 k) [.int .i64 t, .string ⟨#[]⟩, .string ⟨#[]⟩, .int .i64 0, .slice none 0 0], rowR g3 (.string NM) [.bool true, .bool false, .bool false, .bool false, .bool false]] := hD
        obtain ⟨⟨b0, b1, b2, b3, b4, b5⟩, -⟩ := RowAt.c6 (hD.get 1 rfl)
        have hzz := (hold_ints0 hD)
        have hnn : ∀ x : Addr, none = some x → gr ≤ x.block := fun x hx => (by cases hx)
        refine bodyPost_ret (v := .agg #[.int .i64 k, .int .i64 t, .string (⟨#[]⟩), .string (⟨#[]⟩), .int .i64 0, .slice none 0 0]) ?_ rfl ⟨none, ⟨0, ?_⟩, ?_, ?_, ?_⟩
        · simp [results, Tryd.results40, go_sem, b0, b1, b2, b3, b4, b5]
        · rfl
        · exact hzz
        · exact hS
        · exact hnn
      · simp only [Bool.true_and] at hZ
        subst hZ
        go_upto_region 20 with ((with_reducible refine (CR.out _ (IntsAt.nil _ _)).mono ?_); rintro e wy ⟨rfl, hw⟩; replace hD := hD.next hw; replace hS := hS.next hw; clear hw; clear a0 a1 a2 a3 a4 a5 y0 y1 y2 y3 y4 y5 b0 b1 b2 b3 b4 b5; clear r0 r1 r2 f0 f1 f2 c0 c1 c2 c3 c4 c5 z0 z1 z2 z3 z4 z5; obtain ⟨⟨a0, a1, a2, a3, a4, a5⟩, y0, y1, y2, y3, y4, y5⟩ := RowAt.c6 (hD.get 2 rfl); obtain ⟨⟨b0, b1, b2, b3, b4, b5⟩, -⟩ := RowAt.c6 (hD.get 3 rfl); obtain ⟨r0, r1, r2, f0, f1, f2⟩ := RowAt.c3 (hD.get 0 rfl); obtain ⟨⟨c0, c1, c2, c3, c4, c5⟩, z0, z1, z2, z3, z4, z5⟩ := RowAt.c6 (hD.get 1 rfl))
        replace hS := hS.setCell g 2 (.bool RG) (.inl rfl)
        replace hD := hD.putRow 0 (g := g) rfl 2 (.bool RG) (.string s) [.int .i64 (nx : Int), .bool RG] (by simp) rfl
        clear a0 a1 a2 a3 a4 a5 y0 y1 y2 y3 y4 y5 b0 b1 b2 b3 b4 b5
        clear r0 r1 r2 f0 f1 f2 c0 c1 c2 c3 c4 c5 z0 z1 z2 z3 z4 z5
        generalize wy.setCell _ _ = w8 at *
        obtain ⟨⟨a0, a1, a2, a3, a4, a5⟩, y0, y1, y2, y3, y4, y5⟩ := RowAt.c6 (hD.get 2 rfl); obtain ⟨⟨b0, b1, b2, b3, b4, b5⟩, -⟩ := RowAt.c6 (hD.get 3 rfl)
        obtain ⟨r0, r1, r2, f0, f1, f2⟩ := RowAt.c3 (hD.get 0 rfl); obtain ⟨⟨c0, c1, c2, c3, c4, c5⟩, z0, z1, z2, z3, z4, z5⟩ := RowAt.c6 (hD.get 1 rfl)
        go_wp2_with fail
        replace hS := (((((hS.setCell gr 0 (.int .i64 k) (.inr (by omega))).setCell gr 1 (.int .i64 t) (.inr (by omega))).setCell gr 2 (.string (⟨#[]⟩)) (.inr (by omega))).setCell gr 3 (.string (⟨#[]⟩)) (.inr (by omega))).setCell gr 4 (.int .i64 0) (.inr (by omega))).setCell gr 5 (.slice none 0 0) (.inr (by omega))
        replace hD := hD.put6 1 (g := gr) rfl (.int .i64 k) (.int .i64 t) (.string (⟨#[]⟩)) (.string (⟨#[]⟩)) (.int .i64 0) (.slice none 0 0)
        clear a0 a1 a2 a3 a4 a5 y0 y1 y2 y3 y4 y5 b0 b1 b2 b3 b4 b5
        clear r0 r1 r2 f0 f1 f2 c0 c1 c2 c3 c4 c5 z0 z1 z2 z3 z4 z5
        generalize (((((w8.setCell _ _).setCell _ _).setCell _ _).setCell _ _).setCell _ _).setCell _ _ = w9 at *
        replace hD : Hold W w9 [rdR g s ⟨nx, RG⟩, rowR gr (.int .i64 k) [.int .i64 t, .string (⟨#[]⟩), .string (⟨#[]⟩), .int .i64 0, .slice none 0 0], rowR ga (.int .i64 k) [.int .i64 t, .string ⟨#[]⟩, .string ⟨#[]⟩, .int .i64 0, .slice none 0 0], rowR g3 (.string NM) [.bool true, .bool false, .bool false, .bool false, .bool false]] := hD
        obtain ⟨⟨b0, b1, b2, b3, b4, b5⟩, -⟩ := RowAt.c6 (hD.get 1 rfl)
        have hzz := (hold_ints0 hD)
        have hnn : ∀ x : Addr, none = some x → gr ≤ x.block := fun x hx => (by cases hx)
        refine bodyPost_ret (v := .agg #[.int .i64 k, .int .i64 t, .string (⟨#[]⟩), .string (⟨#[]⟩), .int .i64 0, .slice none 0 0]) ?_ rfl ⟨none, ⟨0, ?_⟩, ?_, ?_, ?_⟩
        · simp [results, Tryd.results40, go_sem, b0, b1, b2, b3, b4, b5]
        · rfl
        · exact hzz
        · exact hS
        · exact hnn
    · obtain ⟨h2, h3, h4, h5, h6⟩ := HH.out
      clear HH HF
      replace h2 : oneR s st1 = (t, st2) := h2
      have e2 : st2.i = st1.i + 1 := by have := congrArg (fun x => x.2.i) h2; exact this.symm
      replace h3 : textR s st2 = (key, st3) := h3
      have e3 : st3.i ≤ max st2.i s.size := by have := textR_i s st2; rw [h3] at this; exact this
      obtain ⟨x1, x2⟩ : val = ⟨#[]⟩ ∧ st3 = st4 := by injection h4 with x1 x2; exact ⟨x1.symm, x2⟩
      subst x1 x2
      obtain ⟨x1, x2⟩ : n = 0 ∧ st3 = st5 := by injection h5 with x1 x2; exact ⟨x1.symm, x2⟩
      subst x1 x2
      obtain ⟨x1, x2⟩ : fs = [] ∧ st3 = st6 := by injection h6 with x1 x2; exact ⟨x1.symm, x2⟩
      subst x1 x2
      go_upto_region 8 with ((with_reducible refine (hold_one2 hD 0 rfl h2 hs (by omega)).mono ?_); rintro e u0 ⟨rfl, hw, hA⟩; replace hD := hw; clear hw; replace hS := hS.trans hA; clear hA; clear a0 a1 a2 a3 a4 a5 y0 y1 y2 y3 y4 y5 b0 b1 b2 b3 b4 b5; obtain ⟨⟨a0, a1, a2, a3, a4, a5⟩, y0, y1, y2, y3, y4, y5⟩ := RowAt.c6 (hD.get 2 rfl); obtain ⟨⟨b0, b1, b2, b3, b4, b5⟩, -⟩ := RowAt.c6 (hD.get 3 rfl))
      replace hD := hD.putRow 2 (g := ga) rfl 1 (.int .i64 t) (.int .i64 k) [.int .i64 t, .string ⟨#[]⟩, .string ⟨#[]⟩, .int .i64 0, .slice none 0 0] (by simp) rfl
      replace hS := hS.setCell ga 1 (.int .i64 t) (.inr (by omega))
      clear a0 a1 a2 a3 a4 a5 y0 y1 y2 y3 y4 y5 b0 b1 b2 b3 b4 b5
      generalize u0.setCell _ _ = v0 at *
      replace hD : Hold W v0 [rdR g s st2, rowR gr (.int .i64 0) [.int .i64 0, .string ⟨#[]⟩, .string ⟨#[]⟩, .int .i64 0, .slice none 0 0], rowR ga (.int .i64 k) [.int .i64 t, .string ⟨#[]⟩, .string ⟨#[]⟩, .int .i64 0, .slice none 0 0], rowR g3 (.string NM) [.bool true, .bool true, .bool false, .bool false, .bool false]] := hD
      obtain ⟨⟨a0, a1, a2, a3, a4, a5⟩, y0, y1, y2, y3, y4, y5⟩ := RowAt.c6 (hD.get 2 rfl); obtain ⟨⟨b0, b1, b2, b3, b4, b5⟩, -⟩ := RowAt.c6 (hD.get 3 rfl)
      go_upto_region 10 with ((with_reducible refine (hold_text2 hD 0 rfl h3 hs (by omega)).mono ?_); rintro e u1 ⟨rfl, hw, hA⟩; replace hD := hw; clear hw; replace hS := hS.trans hA; clear hA; clear a0 a1 a2 a3 a4 a5 y0 y1 y2 y3 y4 y5 b0 b1 b2 b3 b4 b5; obtain ⟨⟨a0, a1, a2, a3, a4, a5⟩, y0, y1, y2, y3, y4, y5⟩ := RowAt.c6 (hD.get 2 rfl); obtain ⟨⟨b0, b1, b2, b3, b4, b5⟩, -⟩ := RowAt.c6 (hD.get 3 rfl))
      replace hD := hD.putRow 2 (g := ga) rfl 2 (.string key) (.int .i64 k) [.int .i64 t, .string key, .string ⟨#[]⟩, .int .i64 0, .slice none 0 0] (by simp) rfl
      replace hS := hS.setCell ga 2 (.string key) (.inr (by omega))
      clear a0 a1 a2 a3 a4 a5 y0 y1 y2 y3 y4 y5 b0 b1 b2 b3 b4 b5
      generalize u1.setCell _ _ = v1 at *
      replace hD : Hold W v1 [rdR g s st3, rowR gr (.int .i64 0) [.int .i64 0, .string ⟨#[]⟩, .string ⟨#[]⟩, .int .i64 0, .slice none 0 0], rowR ga (.int .i64 k) [.int .i64 t, .string key, .string ⟨#[]⟩, .int .i64 0, .slice none 0 0], rowR g3 (.string NM) [.bool true, .bool true, .bool false, .bool false, .bool false]] := hD
      obtain ⟨⟨a0, a1, a2, a3, a4, a5⟩, y0, y1, y2, y3, y4, y5⟩ := RowAt.c6 (hD.get 2 rfl); obtain ⟨⟨b0, b1, b2, b3, b4, b5⟩, -⟩ := RowAt.c6 (hD.get 3 rfl)
      clear hi1 e2 e3
      have CR := Lib.hid (fun w h => script_Right ⟨k, t, key, ⟨#[]⟩, 0, []⟩ (by simp) (none) (0) w h)
      simp only [actV, List.length_nil] at CR
      generalize hRg : ActD.right ⟨k, t, key, ⟨#[]⟩, 0, []⟩ = RG at *
      obtain ⟨nx, okx⟩ := st3
      simp only at hZ
      obtain ⟨r0, r1, r2, f0, f1, f2⟩ := RowAt.c3 (hD.get 0 rfl); obtain ⟨⟨c0, c1, c2, c3, c4, c5⟩, z0, z1, z2, z3, z4, z5⟩ := RowAt.c6 (hD.get 1 rfl)
      cases okx
      · simp only [Bool.false_and] at hZ
        subst hZ
        go_upto_region 20 with fail
        replace hS := hS.setCell g 2 (.bool false) (.inl rfl)
        replace hD := hD.putRow 0 (g := g) rfl 2 (.bool false) (.string s) [.int .i64 (nx : Int), .bool false] (by simp) rfl
        clear a0 a1 a2 a3 a4 a5 y0 y1 y2 y3 y4 y5 b0 b1 b2 b3 b4 b5
        clear r0 r1 r2 f0 f1 f2 c0 c1 c2 c3 c4 c5 z0 z1 z2 z3 z4 z5
        generalize v1.setCell _ _ = w8 at *
        obtain ⟨⟨a0, a1, a2, a3, a4, a5⟩, y0, y1, y2, y3, y4, y5⟩ := RowAt.c6 (hD.get 2 rfl); obtain ⟨⟨b0, b1, b2, b3, b4, b5⟩, -⟩ := RowAt.c6 (hD.get 3 rfl)
        obtain ⟨r0, r1, r2, f0, f1, f2⟩ := RowAt.c3 (hD.get 0 rfl); obtain ⟨⟨c0, c1, c2, c3, c4, c5⟩, z0, z1, z2, z3, z4, z5⟩ := RowAt.c6 (hD.get 1 rfl)
        go_wp2_with fail
        replace hS := (((((hS.setCell gr 0 (.int .i64 k) (.inr (by omega))).setCell gr 1 (.int .i64 t) (.inr (by omega))).setCell gr 2 (.string (key)) (.inr (by omega))).setCell gr 3 (.string (⟨#[]⟩)) (.inr (by omega))).setCell gr 4 (.int .i64 0) (.inr (by omega))).setCell gr 5 (.slice none 0 0) (.inr (by omega))
        replace hD := hD.put6 1 (g := gr) rfl (.int .i64 k) (.int .i64 t) (.string (key)) (.string (⟨#[]⟩)) (.int .i64 0) (.slice none 0 0)
        clear a0 a1 a2 a3 a4 a5 y0 y1 y2 y3 y4 y5 b0 b1 b2 b3 b4 b5
        clear r0 r1 r2 f0 f1 f2 c0 c1 c2 c3 c4 c5 z0 z1 z2 z3 z4 z5
        generalize (((((w8.setCell _ _).setCell _ _).setCell _ _).setCell _ _).setCell _ _).setCell _ _ = w9 at *
        replace hD : Hold W w9 [rdR g s ⟨nx, false⟩, rowR gr (.int .i64 k) [.int .i64 t, .string (key), .string (⟨#[]⟩), .int .i64 0, .slice none 0 0], rowR ga (.int .i64 k) [.int .i64 t, .string key, .string ⟨#[]⟩, .int .i64 0, .slice none 0 0], rowR g3 (.string NM) [.bool true, .bool true, .bool false, .bool false, .bool false]] := hD
        obtain ⟨⟨b0, b1, b2, b3, b4, b5⟩, -⟩ := RowAt.c6 (hD.get 1 rfl)
        have hzz := (hold_ints0 hD)
        have hnn : ∀ x : Addr, none = some x → gr ≤ x.block := fun x hx => (by cases hx)
        refine bodyPost_ret (v := .agg #[.int .i64 k, .int .i64 t, .string (key), .string (⟨#[]⟩), .int .i64 0, .slice none 0 0]) ?_ rfl ⟨none, ⟨0, ?_⟩, ?_, ?_, ?_⟩
        · simp [results, Tryd.results40, go_sem, b0, b1, b2, b3, b4, b5]
        · rfl
        · exact hzz
        · exact hS
        · exact hnn
      · simp only [Bool.true_and] at hZ
        subst hZ
        go_upto_region 20 with ((with_reducible refine (CR.out _ (IntsAt.nil _ _)).mono ?_); rintro e wy ⟨rfl, hw⟩; replace hD := hD.next hw; replace hS := hS.next hw; clear hw; clear a0 a1 a2 a3 a4 a5 y0 y1 y2 y3 y4 y5 b0 b1 b2 b3 b4 b5; clear r0 r1 r2 f0 f1 f2 c0 c1 c2 c3 c4 c5 z0 z1 z2 z3 z4 z5; obtain ⟨⟨a0, a1, a2, a3, a4, a5⟩, y0, y1, y2, y3, y4, y5⟩ := RowAt.c6 (hD.get 2 rfl); obtain ⟨⟨b0, b1, b2, b3, b4, b5⟩, -⟩ := RowAt.c6 (hD.get 3 rfl); obtain ⟨r0, r1, r2, f0, f1, f2⟩ := RowAt.c3 (hD.get 0 rfl); obtain ⟨⟨c0, c1, c2, c3, c4, c5⟩, z0, z1, z2, z3, z4, z5⟩ := RowAt.c6 (hD.get 1 rfl))
        replace hS := hS.setCell g 2 (.bool RG) (.inl rfl)
        replace hD := hD.putRow 0 (g := g) rfl 2 (.bool RG) (.string s) [.int .i64 (nx : Int), .bool RG] (by simp) rfl
        clear a0 a1 a2 a3 a4 a5 y0 y1 y2 y3 y4 y5 b0 b1 b2 b3 b4 b5
        clear r0 r1 r2 f0 f1 f2 c0 c1 c2 c3 c4 c5 z0 z1 z2 z3 z4 z5
        generalize wy.setCell _ _ = w8 at *
        obtain ⟨⟨a0, a1, a2, a3, a4, a5⟩, y0, y1, y2, y3, y4, y5⟩ := RowAt.c6 (hD.get 2 rfl); obtain ⟨⟨b0, b1, b2, b3, b4, b5⟩, -⟩ := RowAt.c6 (hD.get 3 rfl)
        obtain ⟨r0, r1, r2, f0, f1, f2⟩ := RowAt.c3 (hD.get 0 rfl); obtain ⟨⟨c0, c1, c2, c3, c4, c5⟩, z0, z1, z2, z3, z4, z5⟩ := RowAt.c6 (hD.get 1 rfl)
        go_wp2_with fail
        replace hS := (((((hS.setCell gr 0 (.int .i64 k) (.inr (by omega))).setCell gr 1 (.int .i64 t) (.inr (by omega))).setCell gr 2 (.string (key)) (.inr (by omega))).setCell gr 3 (.string (⟨#[]⟩)) (.inr (by omega))).setCell gr 4 (.int .i64 0) (.inr (by omega))).setCell gr 5 (.slice none 0 0) (.inr (by omega))
        replace hD := hD.put6 1 (g := gr) rfl (.int .i64 k) (.int .i64 t) (.string (key)) (.string (⟨#[]⟩)) (.int .i64 0) (.slice none 0 0)
        clear a0 a1 a2 a3 a4 a5 y0 y1 y2 y3 y4 y5 b0 b1 b2 b3 b4 b5
        clear r0 r1 r2 f0 f1 f2 c0 c1 c2 c3 c4 c5 z0 z1 z2 z3 z4 z5
        generalize (((((w8.setCell _ _).setCell _ _).setCell _ _).setCell _ _).setCell _ _).setCell _ _ = w9 at *
        replace hD : Hold W w9 [rdR g s ⟨nx, RG⟩, rowR gr (.int .i64 k) [.int .i64 t, .string (key), .string (⟨#[]⟩), .int .i64 0, .slice none 0 0], rowR ga (.int .i64 k) [.int .i64 t, .string key, .string ⟨#[]⟩, .int .i64 0, .slice none 0 0], rowR g3 (.string NM) [.bool true, .bool true, .bool false, .bool false, .bool false]] := hD
        obtain ⟨⟨b0, b1, b2, b3, b4, b5⟩, -⟩ := RowAt.c6 (hD.get 1 rfl)
        have hzz := (hold_ints0 hD)
        have hnn : ∀ x : Addr, none = some x → gr ≤ x.block := fun x hx => (by cases hx)
        refine bodyPost_ret (v := .agg #[.int .i64 k, .int .i64 t, .string (key), .string (⟨#[]⟩), .int .i64 0, .slice none 0 0]) ?_ rfl ⟨none, ⟨0, ?_⟩, ?_, ?_, ?_⟩
        · simp [results, Tryd.results40, go_sem, b0, b1, b2, b3, b4, b5]
        · rfl
        · exact hzz
        · exact hS
        · exact hnn
    · obtain ⟨h2, h3, h4, h5, h6⟩ := HH.out
      clear HH HF
      replace h2 : oneR s st1 = (t, st2) := h2
      have e2 : st2.i = st1.i + 1 := by have := congrArg (fun x => x.2.i) h2; exact this.symm
      replace h3 : textR s st2 = (key, st3) := h3
      have e3 : st3.i ≤ max st2.i s.size := by have := textR_i s st2; rw [h3] at this; exact this
      replace h4 : textR s st3 = (val, st4) := h4
      have e4 : st4.i ≤ max st3.i s.size := by have := textR_i s st3; rw [h4] at this; exact this
      obtain ⟨x1, x2⟩ : n = 0 ∧ st4 = st5 := by injection h5 with x1 x2; exact ⟨x1.symm, x2⟩
      subst x1 x2
      obtain ⟨x1, x2⟩ : fs = [] ∧ st4 = st6 := by injection h6 with x1 x2; exact ⟨x1.symm, x2⟩
      subst x1 x2
      go_upto_region 8 with ((with_reducible refine (hold_one2 hD 0 rfl h2 hs (by omega)).mono ?_); rintro e u0 ⟨rfl, hw, hA⟩; replace hD := hw; clear hw; replace hS := hS.trans hA; clear hA; clear a0 a1 a2 a3 a4 a5 y0 y1 y2 y3 y4 y5 b0 b1 b2 b3 b4 b5; obtain ⟨⟨a0, a1, a2, a3, a4, a5⟩, y0, y1, y2, y3, y4, y5⟩ := RowAt.c6 (hD.get 2 rfl); obtain ⟨⟨b0, b1, b2, b3, b4, b5⟩, -⟩ := RowAt.c6 (hD.get 3 rfl))
      replace hD := hD.putRow 2 (g := ga) rfl 1 (.int .i64 t) (.int .i64 k) [.int .i64 t, .string ⟨#[]⟩, .string ⟨#[]⟩, .int .i64 0, .slice none 0 0] (by simp) rfl
      replace hS := hS.setCell ga 1 (.int .i64 t) (.inr (by omega))
      clear a0 a1 a2 a3 a4 a5 y0 y1 y2 y3 y4 y5 b0 b1 b2 b3 b4 b5
      generalize u0.setCell _ _ = v0 at *
      replace hD : Hold W v0 [rdR g s st2, rowR gr (.int .i64 0) [.int .i64 0, .string ⟨#[]⟩, .string ⟨#[]⟩, .int .i64 0, .slice none 0 0], rowR ga (.int .i64 k) [.int .i64 t, .string ⟨#[]⟩, .string ⟨#[]⟩, .int .i64 0, .slice none 0 0], rowR g3 (.string NM) [.bool true, .bool true, .bool true, .bool false, .bool false]] := hD
      obtain ⟨⟨a0, a1, a2, a3, a4, a5⟩, y0, y1, y2, y3, y4, y5⟩ := RowAt.c6 (hD.get 2 rfl); obtain ⟨⟨b0, b1, b2, b3, b4, b5⟩, -⟩ := RowAt.c6 (hD.get 3 rfl)
      go_upto_region 10 with ((with_reducible refine (hold_text2 hD 0 rfl h3 hs (by omega)).mono ?_); rintro e u1 ⟨rfl, hw, hA⟩; replace hD := hw; clear hw; replace hS := hS.trans hA; clear hA; clear a0 a1 a2 a3 a4 a5 y0 y1 y2 y3 y4 y5 b0 b1 b2 b3 b4 b5; obtain ⟨⟨a0, a1, a2, a3, a4, a5⟩, y0, y1, y2, y3, y4, y5⟩ := RowAt.c6 (hD.get 2 rfl); obtain ⟨⟨b0, b1, b2, b3, b4, b5⟩, -⟩ := RowAt.c6 (hD.get 3 rfl))
      replace hD := hD.putRow 2 (g := ga) rfl 2 (.string key) (.int .i64 k) [.int .i64 t, .string key, .string ⟨#[]⟩, .int .i64 0, .slice none 0 0] (by simp) rfl
      replace hS := hS.setCell ga 2 (.string key) (.inr (by omega))
      clear a0 a1 a2 a3 a4 a5 y0 y1 y2 y3 y4 y5 b0 b1 b2 b3 b4 b5
      generalize u1.setCell _ _ = v1 at *
      replace hD : Hold W v1 [rdR g s st3, rowR gr (.int .i64 0) [.int .i64 0, .string ⟨#[]⟩, .string ⟨#[]⟩, .int .i64 0, .slice none 0 0], rowR ga (.int .i64 k) [.int .i64 t, .string key, .string ⟨#[]⟩, .int .i64 0, .slice none 0 0], rowR g3 (.string NM) [.bool true, .bool true, .bool true, .bool false, .bool false]] := hD
      obtain ⟨⟨a0, a1, a2, a3, a4, a5⟩, y0, y1, y2, y3, y4, y5⟩ := RowAt.c6 (hD.get 2 rfl); obtain ⟨⟨b0, b1, b2, b3, b4, b5⟩, -⟩ := RowAt.c6 (hD.get 3 rfl)
      go_upto_region 12 with ((with_reducible refine (hold_text2 hD 0 rfl h4 hs (by omega)).mono ?_); rintro e u2 ⟨rfl, hw, hA⟩; replace hD := hw; clear hw; replace hS := hS.trans hA; clear hA; clear a0 a1 a2 a3 a4 a5 y0 y1 y2 y3 y4 y5 b0 b1 b2 b3 b4 b5; obtain ⟨⟨a0, a1, a2, a3, a4, a5⟩, y0, y1, y2, y3, y4, y5⟩ := RowAt.c6 (hD.get 2 rfl); obtain ⟨⟨b0, b1, b2, b3, b4, b5⟩, -⟩ := RowAt.c6 (hD.get 3 rfl))
      replace hD := hD.putRow 2 (g := ga) rfl 3 (.string val) (.int .i64 k) [.int .i64 t, .string key, .string val, .int .i64 0, .slice none 0 0] (by simp) rfl
      replace hS := hS.setCell ga 3 (.string val) (.inr (by omega))
      clear a0 a1 a2 a3 a4 a5 y0 y1 y2 y3 y4 y5 b0 b1 b2 b3 b4 b5
      generalize u2.setCell _ _ = v2 at *
      replace hD : Hold W v2 [rdR g s st4, rowR gr (.int .i64 0) [.int .i64 0, .string ⟨#[]⟩, .string ⟨#[]⟩, .int .i64 0, .slice none 0 0], rowR ga (.int .i64 k) [.int .i64 t, .string key, .string val, .int .i64 0, .slice none 0 0], rowR g3 (.string NM) [.bool true, .bool true, .bool true, .bool false, .bool false]] := hD
      obtain ⟨⟨a0, a1, a2, a3, a4, a5⟩, y0, y1, y2, y3, y4, y5⟩ := RowAt.c6 (hD.get 2 rfl); obtain ⟨⟨b0, b1, b2, b3, b4, b5⟩, -⟩ := RowAt.c6 (hD.get 3 rfl)
      clear hi1 e2 e3 e4
      have CR := Lib.hid (fun w h => script_Right ⟨k, t, key, val, 0, []⟩ (by simp) (none) (0) w h)
      simp only [actV, List.length_nil] at CR
      generalize hRg : ActD.right ⟨k, t, key, val, 0, []⟩ = RG at *
      obtain ⟨nx, okx⟩ := st4
      simp only at hZ
      obtain ⟨r0, r1, r2, f0, f1, f2⟩ := RowAt.c3 (hD.get 0 rfl); obtain ⟨⟨c0, c1, c2, c3, c4, c5⟩, z0, z1, z2, z3, z4, z5⟩ := RowAt.c6 (hD.get 1 rfl)
      cases okx
      · simp only [Bool.false_and] at hZ
        subst hZ
        go_upto_region 20 with fail
        replace hS := hS.setCell g 2 (.bool false) (.inl rfl)
        replace hD := hD.putRow 0 (g := g) rfl 2 (.bool false) (.string s) [.int .i64 (nx : Int), .bool false] (by simp) rfl
        clear a0 a1 a2 a3 a4 a5 y0 y1 y2 y3 y4 y5 b0 b1 b2 b3 b4 b5
        clear r0 r1 r2 f0 f1 f2 c0 c1 c2 c3 c4 c5 z0 z1 z2 z3 z4 z5
        generalize v2.setCell _ _ = w8 at *
        obtain ⟨⟨a0, a1, a2, a3, a4, a5⟩, y0, y1, y2, y3, y4, y5⟩ := RowAt.c6 (hD.get 2 rfl); obtain ⟨⟨b0, b1, b2, b3, b4, b5⟩, -⟩ := RowAt.c6 (hD.get 3 rfl)
        obtain ⟨r0, r1, r2, f0, f1, f2⟩ := RowAt.c3 (hD.get 0 rfl); obtain ⟨⟨c0, c1, c2, c3, c4, c5⟩, z0, z1, z2, z3, z4, z5⟩ := RowAt.c6 (hD.get 1 rfl)
        go_wp2_with fail
        replace hS := (((((hS.setCell gr 0 (.int .i64 k) (.inr (by omega))).setCell gr 1 (.int .i64 t) (.inr (by omega))).setCell gr 2 (.string (key)) (.inr (by omega))).setCell gr 3 (.string (val)) (.inr (by omega))).setCell gr 4 (.int .i64 0) (.inr (by omega))).setCell gr 5 (.slice none 0 0) (.inr (by omega))
        replace hD := hD.put6 1 (g := gr) rfl (.int .i64 k) (.int .i64 t) (.string (key)) (.string (val)) (.int .i64 0) (.slice none 0 0)
        clear a0 a1 a2 a3 a4 a5 y0 y1 y2 y3 y4 y5 b0 b1 b2 b3 b4 b5
        clear r0 r1 r2 f0 f1 f2 c0 c1 c2 c3 c4 c5 z0 z1 z2 z3 z4 z5
        generalize (((((w8.setCell _ _).setCell _ _).setCell _ _).setCell _ _).setCell _ _).setCell _ _ = w9 at *
        replace hD : Hold W w9 [rdR g s ⟨nx, false⟩, rowR gr (.int .i64 k) [.int .i64 t, .string (key), .string (val), .int .i64 0, .slice none 0 0], rowR ga (.int .i64 k) [.int .i64 t, .string key, .string val, .int .i64 0, .slice none 0 0], rowR g3 (.string NM) [.bool true, .bool true, .bool true, .bool false, .bool false]] := hD
        obtain ⟨⟨b0, b1, b2, b3, b4, b5⟩, -⟩ := RowAt.c6 (hD.get 1 rfl)
        have hzz := (hold_ints0 hD)
        have hnn : ∀ x : Addr, none = some x → gr ≤ x.block := fun x hx => (by cases hx)
        refine bodyPost_ret (v := .agg #[.int .i64 k, .int .i64 t, .string (key), .string (val), .int .i64 0, .slice none 0 0]) ?_ rfl ⟨none, ⟨0, ?_⟩, ?_, ?_, ?_⟩
        · simp [results, Tryd.results40, go_sem, b0, b1, b2, b3, b4, b5]
        · rfl
        · exact hzz
        · exact hS
        · exact hnn
      · simp only [Bool.true_and] at hZ
        subst hZ
        go_upto_region 20 with ((with_reducible refine (CR.out _ (IntsAt.nil _ _)).mono ?_); rintro e wy ⟨rfl, hw⟩; replace hD := hD.next hw; replace hS := hS.next hw; clear hw; clear a0 a1 a2 a3 a4 a5 y0 y1 y2 y3 y4 y5 b0 b1 b2 b3 b4 b5; clear r0 r1 r2 f0 f1 f2 c0 c1 c2 c3 c4 c5 z0 z1 z2 z3 z4 z5; obtain ⟨⟨a0, a1, a2, a3, a4, a5⟩, y0, y1, y2, y3, y4, y5⟩ := RowAt.c6 (hD.get 2 rfl); obtain ⟨⟨b0, b1, b2, b3, b4, b5⟩, -⟩ := RowAt.c6 (hD.get 3 rfl); obtain ⟨r0, r1, r2, f0, f1, f2⟩ := RowAt.c3 (hD.get 0 rfl); obtain ⟨⟨c0, c1, c2, c3, c4, c5⟩, z0, z1, z2, z3, z4, z5⟩ := RowAt.c6 (hD.get 1 rfl))
        replace hS := hS.setCell g 2 (.bool RG) (.inl rfl)
        replace hD := hD.putRow 0 (g := g) rfl 2 (.bool RG) (.string s) [.int .i64 (nx : Int), .bool RG] (by simp) rfl
        clear a0 a1 a2 a3 a4 a5 y0 y1 y2 y3 y4 y5 b0 b1 b2 b3 b4 b5
        clear r0 r1 r2 f0 f1 f2 c0 c1 c2 c3 c4 c5 z0 z1 z2 z3 z4 z5
        generalize wy.setCell _ _ = w8 at *
        obtain ⟨⟨a0, a1, a2, a3, a4, a5⟩, y0, y1, y2, y3, y4, y5⟩ := RowAt.c6 (hD.get 2 rfl); obtain ⟨⟨b0, b1, b2, b3, b4, b5⟩, -⟩ := RowAt.c6 (hD.get 3 rfl)
        obtain ⟨r0, r1, r2, f0, f1, f2⟩ := RowAt.c3 (hD.get 0 rfl); obtain ⟨⟨c0, c1, c2, c3, c4, c5⟩, z0, z1, z2, z3, z4, z5⟩ := RowAt.c6 (hD.get 1 rfl)
        go_wp2_with fail
        replace hS := (((((hS.setCell gr 0 (.int .i64 k) (.inr (by omega))).setCell gr 1 (.int .i64 t) (.inr (by omega))).setCell gr 2 (.string (key)) (.inr (by omega))).setCell gr 3 (.string (val)) (.inr (by omega))).setCell gr 4 (.int .i64 0) (.inr (by omega))).setCell gr 5 (.slice none 0 0) (.inr (by omega))
        replace hD := hD.put6 1 (g := gr) rfl (.int .i64 k) (.int .i64 t) (.string (key)) (.string (val)) (.int .i64 0) (.slice none 0 0)
        clear a0 a1 a2 a3 a4 a5 y0 y1 y2 y3 y4 y5 b0 b1 b2 b3 b4 b5
        clear r0 r1 r2 f0 f1 f2 c0 c1 c2 c3 c4 c5 z0 z1 z2 z3 z4 z5
        generalize (((((w8.setCell _ _).setCell _ _).setCell _ _).setCell _ _).setCell _ _).setCell _ _ = w9 at *
        replace hD : Hold W w9 [rdR g s ⟨nx, RG⟩, rowR gr (.int .i64 k) [.int .i64 t, .string (key), .string (val), .int .i64 0, .slice none 0 0], rowR ga (.int .i64 k) [.int .i64 t, .string key, .string val, .int .i64 0, .slice none 0 0], rowR g3 (.string NM) [.bool true, .bool true, .bool true, .bool false, .bool false]] := hD
        obtain ⟨⟨b0, b1, b2, b3, b4, b5⟩, -⟩ := RowAt.c6 (hD.get 1 rfl)
        have hzz := (hold_ints0 hD)
        have hnn : ∀ x : Addr, none = some x → gr ≤ x.block := fun x hx => (by cases hx)
        refine bodyPost_ret (v := .agg #[.int .i64 k, .int .i64 t, .string (key), .string (val), .int .i64 0, .slice none 0 0]) ?_ rfl ⟨none, ⟨0, ?_⟩, ?_, ?_, ?_⟩
        · simp [results, Tryd.results40, go_sem, b0, b1, b2, b3, b4, b5]
        · rfl
        · exact hzz
        · exact hS
        · exact hnn
    · obtain ⟨h2, h3, h4, h5, h6⟩ := HH.out
      clear HH HF
      replace h2 : oneR s st1 = (t, st2) := h2
      have e2 : st2.i = st1.i + 1 := by have := congrArg (fun x => x.2.i) h2; exact this.symm
      replace h3 : textR s st2 = (key, st3) := h3
      have e3 : st3.i ≤ max st2.i s.size := by have := textR_i s st2; rw [h3] at this; exact this
      obtain ⟨x1, x2⟩ : val = ⟨#[]⟩ ∧ st3 = st4 := by injection h4 with x1 x2; exact ⟨x1.symm, x2⟩
      subst x1 x2
      replace h5 : oneR s st3 = (n, st5) := h5
      have e5 : st5.i = st3.i + 1 := by have := congrArg (fun x => x.2.i) h5; exact this.symm
      obtain ⟨x1, x2⟩ : fs = [] ∧ st5 = st6 := by injection h6 with x1 x2; exact ⟨x1.symm, x2⟩
      subst x1 x2
      go_upto_region 8 with ((with_reducible refine (hold_one2 hD 0 rfl h2 hs (by omega)).mono ?_); rintro e u0 ⟨rfl, hw, hA⟩; replace hD := hw; clear hw; replace hS := hS.trans hA; clear hA; clear a0 a1 a2 a3 a4 a5 y0 y1 y2 y3 y4 y5 b0 b1 b2 b3 b4 b5; obtain ⟨⟨a0, a1, a2, a3, a4, a5⟩, y0, y1, y2, y3, y4, y5⟩ := RowAt.c6 (hD.get 2 rfl); obtain ⟨⟨b0, b1, b2, b3, b4, b5⟩, -⟩ := RowAt.c6 (hD.get 3 rfl))
      replace hD := hD.putRow 2 (g := ga) rfl 1 (.int .i64 t) (.int .i64 k) [.int .i64 t, .string ⟨#[]⟩, .string ⟨#[]⟩, .int .i64 0, .slice none 0 0] (by simp) rfl
      replace hS := hS.setCell ga 1 (.int .i64 t) (.inr (by omega))
      clear a0 a1 a2 a3 a4 a5 y0 y1 y2 y3 y4 y5 b0 b1 b2 b3 b4 b5
      generalize u0.setCell _ _ = v0 at *
      replace hD : Hold W v0 [rdR g s st2, rowR gr (.int .i64 0) [.int .i64 0, .string ⟨#[]⟩, .string ⟨#[]⟩, .int .i64 0, .slice none 0 0], rowR ga (.int .i64 k) [.int .i64 t, .string ⟨#[]⟩, .string ⟨#[]⟩, .int .i64 0, .slice none 0 0], rowR g3 (.string NM) [.bool true, .bool true, .bool false, .bool true, .bool false]] := hD
      obtain ⟨⟨a0, a1, a2, a3, a4, a5⟩, y0, y1, y2, y3, y4, y5⟩ := RowAt.c6 (hD.get 2 rfl); obtain ⟨⟨b0, b1, b2, b3, b4, b5⟩, -⟩ := RowAt.c6 (hD.get 3 rfl)
      go_upto_region 10 with ((with_reducible refine (hold_text2 hD 0 rfl h3 hs (by omega)).mono ?_); rintro e u1 ⟨rfl, hw, hA⟩; replace hD := hw; clear hw; replace hS := hS.trans hA; clear hA; clear a0 a1 a2 a3 a4 a5 y0 y1 y2 y3 y4 y5 b0 b1 b2 b3 b4 b5; obtain ⟨⟨a0, a1, a2, a3, a4, a5⟩, y0, y1, y2, y3, y4, y5⟩ := RowAt.c6 (hD.get 2 rfl); obtain ⟨⟨b0, b1, b2, b3, b4, b5⟩, -⟩ := RowAt.c6 (hD.get 3 rfl))
      replace hD := hD.putRow 2 (g := ga) rfl 2 (.string key) (.int .i64 k) [.int .i64 t, .string key, .string ⟨#[]⟩, .int .i64 0, .slice none 0 0] (by simp) rfl
      replace hS := hS.setCell ga 2 (.string key) (.inr (by omega))
      clear a0 a1 a2 a3 a4 a5 y0 y1 y2 y3 y4 y5 b0 b1 b2 b3 b4 b5
      generalize u1.setCell _ _ = v1 at *
      replace hD : Hold W v1 [rdR g s st3, rowR gr (.int .i64 0) [.int .i64 0, .string ⟨#[]⟩, .string ⟨#[]⟩, .int .i64 0, .slice none 0 0], rowR ga (.int .i64 k) [.int .i64 t, .string key, .string ⟨#[]⟩, .int .i64 0, .slice none 0 0], rowR g3 (.string NM) [.bool true, .bool true, .bool false, .bool true, .bool false]] := hD
      obtain ⟨⟨a0, a1, a2, a3, a4, a5⟩, y0, y1, y2, y3, y4, y5⟩ := RowAt.c6 (hD.get 2 rfl); obtain ⟨⟨b0, b1, b2, b3, b4, b5⟩, -⟩ := RowAt.c6 (hD.get 3 rfl)
      go_upto_region 14 with ((with_reducible refine (hold_one2 hD 0 rfl h5 hs (by omega)).mono ?_); rintro e u2 ⟨rfl, hw, hA⟩; replace hD := hw; clear hw; replace hS := hS.trans hA; clear hA; clear a0 a1 a2 a3 a4 a5 y0 y1 y2 y3 y4 y5 b0 b1 b2 b3 b4 b5; obtain ⟨⟨a0, a1, a2, a3, a4, a5⟩, y0, y1, y2, y3, y4, y5⟩ := RowAt.c6 (hD.get 2 rfl); obtain ⟨⟨b0, b1, b2, b3, b4, b5⟩, -⟩ := RowAt.c6 (hD.get 3 rfl))
      replace hD := hD.putRow 2 (g := ga) rfl 4 (.int .i64 n) (.int .i64 k) [.int .i64 t, .string key, .string ⟨#[]⟩, .int .i64 n, .slice none 0 0] (by simp) rfl
      replace hS := hS.setCell ga 4 (.int .i64 n) (.inr (by omega))
      clear a0 a1 a2 a3 a4 a5 y0 y1 y2 y3 y4 y5 b0 b1 b2 b3 b4 b5
      generalize u2.setCell _ _ = v2 at *
      replace hD : Hold W v2 [rdR g s st5, rowR gr (.int .i64 0) [.int .i64 0, .string ⟨#[]⟩, .string ⟨#[]⟩, .int .i64 0, .slice none 0 0], rowR ga (.int .i64 k) [.int .i64 t, .string key, .string ⟨#[]⟩, .int .i64 n, .slice none 0 0], rowR g3 (.string NM) [.bool true, .bool true, .bool false, .bool true, .bool false]] := hD
      obtain ⟨⟨a0, a1, a2, a3, a4, a5⟩, y0, y1, y2, y3, y4, y5⟩ := RowAt.c6 (hD.get 2 rfl); obtain ⟨⟨b0, b1, b2, b3, b4, b5⟩, -⟩ := RowAt.c6 (hD.get 3 rfl)
      clear hi1 e2 e3 e5
      have CR := Lib.hid (fun w h => script_Right ⟨k, t, key, ⟨#[]⟩, n, []⟩ (by simp) (none) (0) w h)
      simp only [actV, List.length_nil] at CR
      generalize hRg : ActD.right ⟨k, t, key, ⟨#[]⟩, n, []⟩ = RG at *
      obtain ⟨nx, okx⟩ := st5
      simp only at hZ
      obtain ⟨r0, r1, r2, f0, f1, f2⟩ := RowAt.c3 (hD.get 0 rfl); obtain ⟨⟨c0, c1, c2, c3, c4, c5⟩, z0, z1, z2, z3, z4, z5⟩ := RowAt.c6 (hD.get 1 rfl)
      cases okx
      · simp only [Bool.false_and] at hZ
        subst hZ
        go_upto_region 20 with fail
        replace hS := hS.setCell g 2 (.bool false) (.inl rfl)
        replace hD := hD.putRow 0 (g := g) rfl 2 (.bool false) (.string s) [.int .i64 (nx : Int), .bool false] (by simp) rfl
        clear a0 a1 a2 a3 a4 a5 y0 y1 y2 y3 y4 y5 b0 b1 b2 b3 b4 b5
        clear r0 r1 r2 f0 f1 f2 c0 c1 c2 c3 c4 c5 z0 z1 z2 z3 z4 z5
        generalize v2.setCell _ _ = w8 at *
        obtain ⟨⟨a0, a1, a2, a3, a4, a5⟩, y0, y1, y2, y3, y4, y5⟩ := RowAt.c6 (hD.get 2 rfl); obtain ⟨⟨b0, b1, b2, b3, b4, b5⟩, -⟩ := RowAt.c6 (hD.get 3 rfl)
        obtain ⟨r0, r1, r2, f0, f1, f2⟩ := RowAt.c3 (hD.get 0 rfl); obtain ⟨⟨c0, c1, c2, c3, c4, c5⟩, z0, z1, z2, z3, z4, z5⟩ := RowAt.c6 (hD.get 1 rfl)
        go_wp2_with fail
        replace hS := (((((hS.setCell gr 0 (.int .i64 k) (.inr (by omega))).setCell gr 1 (.int .i64 t) (.inr (by omega))).setCell gr 2 (.string (key)) (.inr (by omega))).setCell gr 3 (.string (⟨#[]⟩)) (.inr (by omega))).setCell gr 4 (.int .i64 n) (.inr (by omega))).setCell gr 5 (.slice none 0 0) (.inr (by omega))
        replace hD := hD.put6 1 (g := gr) rfl (.int .i64 k) (.int .i64 t) (.string (key)) (.string (⟨#[]⟩)) (.int .i64 n) (.slice none 0 0)
        clear a0 a1 a2 a3 a4 a5 y0 y1 y2 y3 y4 y5 b0 b1 b2 b3 b4 b5
        clear r0 r1 r2 f0 f1 f2 c0 c1 c2 c3 c4 c5 z0 z1 z2 z3 z4 z5
        generalize (((((w8.setCell _ _).setCell _ _).setCell _ _).setCell _ _).setCell _ _).setCell _ _ = w9 at *
        replace hD : Hold W w9 [rdR g s ⟨nx, false⟩, rowR gr (.int .i64 k) [.int .i64 t, .string (key), .string (⟨#[]⟩), .int .i64 n, .slice none 0 0], rowR ga (.int .i64 k) [.int .i64 t, .string key, .string ⟨#[]⟩, .int .i64 n, .slice none 0 0], rowR g3 (.string NM) [.bool true, .bool true, .bool false, .bool true, .bool false]] := hD
        obtain ⟨⟨b0, b1, b2, b3, b4, b5⟩, -⟩ := RowAt.c6 (hD.get 1 rfl)
        have hzz := (hold_ints0 hD)
        have hnn : ∀ x : Addr, none = some x → gr ≤ x.block := fun x hx => (by cases hx)
        refine bodyPost_ret (v := .agg #[.int .i64 k, .int .i64 t, .string (key), .string (⟨#[]⟩), .int .i64 n, .slice none 0 0]) ?_ rfl ⟨none, ⟨0, ?_⟩, ?_, ?_, ?_⟩
        · simp [results, Tryd.results40, go_sem, b0, b1, b2, b3, b4, b5]
        · rfl
        · exact hzz
        · exact hS
        · exact hnn
      · simp only [Bool.true_and] at hZ
        subst hZ
        go_upto_region 20 with ((with_reducible refine (CR.out _ (IntsAt.nil _ _)).mono ?_); rintro e wy ⟨rfl, hw⟩; replace hD := hD.next hw; replace hS := hS.next hw; clear hw; clear a0 a1 a2 a3 a4 a5 y0 y1 y2 y3 y4 y5 b0 b1 b2 b3 b4 b5; clear r0 r1 r2 f0 f1 f2 c0 c1 c2 c3 c4 c5 z0 z1 z2 z3 z4 z5; obtain ⟨⟨a0, a1, a2, a3, a4, a5⟩, y0, y1, y2, y3, y4, y5⟩ := RowAt.c6 (hD.get 2 rfl); obtain ⟨⟨b0, b1, b2, b3, b4, b5⟩, -⟩ := RowAt.c6 (hD.get 3 rfl); obtain ⟨r0, r1, r2, f0, f1, f2⟩ := RowAt.c3 (hD.get 0 rfl); obtain ⟨⟨c0, c1, c2, c3, c4, c5⟩, z0, z1, z2, z3, z4, z5⟩ := RowAt.c6 (hD.get 1 rfl))
        replace hS := hS.setCell g 2 (.bool RG) (.inl rfl)
        replace hD := hD.putRow 0 (g := g) rfl 2 (.bool RG) (.string s) [.int .i64 (nx : Int), .bool RG] (by simp) rfl
        clear a0 a1 a2 a3 a4 a5 y0 y1 y2 y3 y4 y5 b0 b1 b2 b3 b4 b5
        clear r0 r1 r2 f0 f1 f2 c0 c1 c2 c3 c4 c5 z0 z1 z2 z3 z4 z5
        generalize wy.setCell _ _ = w8 at *
        obtain ⟨⟨a0, a1, a2, a3, a4, a5⟩, y0, y1, y2, y3, y4, y5⟩ := RowAt.c6 (hD.get 2 rfl); obtain ⟨⟨b0, b1, b2, b3, b4, b5⟩, -⟩ := RowAt.c6 (hD.get 3 rfl)
        obtain ⟨r0, r1, r2, f0, f1, f2⟩ := RowAt.c3 (hD.get 0 rfl); obtain ⟨⟨c0, c1, c2, c3, c4, c5⟩, z0, z1, z2, z3, z4, z5⟩ := RowAt.c6 (hD.get 1 rfl)
        go_wp2_with fail
        replace hS := (((((hS.setCell gr 0 (.int .i64 k) (.inr (by omega))).setCell gr 1 (.int .i64 t) (.inr (by omega))).setCell gr 2 (.string (key)) (.inr (by omega))).setCell gr 3 (.string (⟨#[]⟩)) (.inr (by omega))).setCell gr 4 (.int .i64 n) (.inr (by omega))).setCell gr 5 (.slice none 0 0) (.inr (by omega))
        replace hD := hD.put6 1 (g := gr) rfl (.int .i64 k) (.int .i64 t) (.string (key)) (.string (⟨#[]⟩)) (.int .i64 n) (.slice none 0 0)
        clear a0 a1 a2 a3 a4 a5 y0 y1 y2 y3 y4 y5 b0 b1 b2 b3 b4 b5
        clear r0 r1 r2 f0 f1 f2 c0 c1 c2 c3 c4 c5 z0 z1 z2 z3 z4 z5
        generalize (((((w8.setCell _ _).setCell _ _).setCell _ _).setCell _ _).setCell _ _).setCell _ _ = w9 at *
        replace hD : Hold W w9 [rdR g s ⟨nx, RG⟩, rowR gr (.int .i64 k) [.int .i64 t, .string (key), .string (⟨#[]⟩), .int .i64 n, .slice none 0 0], rowR ga (.int .i64 k) [.int .i64 t, .string key, .string ⟨#[]⟩, .int .i64 n, .slice none 0 0], rowR g3 (.string NM) [.bool true, .bool true, .bool false, .bool true, .bool false]] := hD
        obtain ⟨⟨b0, b1, b2, b3, b4, b5⟩, -⟩ := RowAt.c6 (hD.get 1 rfl)
        have hzz := (hold_ints0 hD)
        have hnn : ∀ x : Addr, none = some x → gr ≤ x.block := fun x hx => (by cases hx)
        refine bodyPost_ret (v := .agg #[.int .i64 k, .int .i64 t, .string (key), .string (⟨#[]⟩), .int .i64 n, .slice none 0 0]) ?_ rfl ⟨none, ⟨0, ?_⟩, ?_, ?_, ?_⟩
        · simp [results, Tryd.results40, go_sem, b0, b1, b2, b3, b4, b5]
        · rfl
        · exact hzz
        · exact hS
        · exact hnn
    · obtain ⟨h2, h3, h4, h5, h6⟩ := HH.out
      clear HH HF
      obtain ⟨x1, x2⟩ : t = 0 ∧ st1 = st2 := by injection h2 with x1 x2; exact ⟨x1.symm, x2⟩
      subst x1 x2
      obtain ⟨x1, x2⟩ : key = ⟨#[]⟩ ∧ st1 = st3 := by injection h3 with x1 x2; exact ⟨x1.symm, x2⟩
      subst x1 x2
      obtain ⟨x1, x2⟩ : val = ⟨#[]⟩ ∧ st1 = st4 := by injection h4 with x1 x2; exact ⟨x1.symm, x2⟩
      subst x1 x2
      obtain ⟨x1, x2⟩ : n = 0 ∧ st1 = st5 := by injection h5 with x1 x2; exact ⟨x1.symm, x2⟩
      subst x1 x2
      obtain ⟨x1, x2⟩ : fs = [] ∧ st1 = st6 := by injection h6 with x1 x2; exact ⟨x1.symm, x2⟩
      subst x1 x2
      clear hi1
      have CR := Lib.hid (fun w h => script_Right ⟨k, 0, ⟨#[]⟩, ⟨#[]⟩, 0, []⟩ (by simp) (none) (0) w h)
      simp only [actV, List.length_nil] at CR
      generalize hRg : ActD.right ⟨k, 0, ⟨#[]⟩, ⟨#[]⟩, 0, []⟩ = RG at *
      obtain ⟨nx, okx⟩ := st1
      simp only at hZ
      obtain ⟨r0, r1, r2, f0, f1, f2⟩ := RowAt.c3 (hD.get 0 rfl); obtain ⟨⟨c0, c1, c2, c3, c4, c5⟩, z0, z1, z2, z3, z4, z5⟩ := RowAt.c6 (hD.get 1 rfl)
      cases okx
      · simp only [Bool.false_and] at hZ
        subst hZ
        go_upto_region 20 with fail
        replace hS := hS.setCell g 2 (.bool false) (.inl rfl)
        replace hD := hD.putRow 0 (g := g) rfl 2 (.bool false) (.string s) [.int .i64 (nx : Int), .bool false] (by simp) rfl
        clear a0 a1 a2 a3 a4 a5 y0 y1 y2 y3 y4 y5 b0 b1 b2 b3 b4 b5
        clear r0 r1 r2 f0 f1 f2 c0 c1 c2 c3 c4 c5 z0 z1 z2 z3 z4 z5
        generalize w7.setCell _ _ = w8 at *
        obtain ⟨⟨a0, a1, a2, a3, a4, a5⟩, y0, y1, y2, y3, y4, y5⟩ := RowAt.c6 (hD.get 2 rfl); obtain ⟨⟨b0, b1, b2, b3, b4, b5⟩, -⟩ := RowAt.c6 (hD.get 3 rfl)
        obtain ⟨r0, r1, r2, f0, f1, f2⟩ := RowAt.c3 (hD.get 0 rfl); obtain ⟨⟨c0, c1, c2, c3, c4, c5⟩, z0, z1, z2, z3, z4, z5⟩ := RowAt.c6 (hD.get 1 rfl)
        go_wp2_with fail
        replace hS := (((((hS.setCell gr 0 (.int .i64 k) (.inr (by omega))).setCell gr 1 (.int .i64 0) (.inr (by omega))).setCell gr 2 (.string (⟨#[]⟩)) (.inr (by omega))).setCell gr 3 (.string (⟨#[]⟩)) (.inr (by omega))).setCell gr 4 (.int .i64 0) (.inr (by omega))).setCell gr 5 (.slice none 0 0) (.inr (by omega))
        replace hD := hD.put6 1 (g := gr) rfl (.int .i64 k) (.int .i64 0) (.string (⟨#[]⟩)) (.string (⟨#[]⟩)) (.int .i64 0) (.slice none 0 0)
        clear a0 a1 a2 a3 a4 a5 y0 y1 y2 y3 y4 y5 b0 b1 b2 b3 b4 b5
        clear r0 r1 r2 f0 f1 f2 c0 c1 c2 c3 c4 c5 z0 z1 z2 z3 z4 z5
        generalize (((((w8.setCell _ _).setCell _ _).setCell _ _).setCell _ _).setCell _ _).setCell _ _ = w9 at *
        replace hD : Hold W w9 [rdR g s ⟨nx, false⟩, rowR gr (.int .i64 k) [.int .i64 0, .string (⟨#[]⟩), .string (⟨#[]⟩), .int .i64 0, .slice none 0 0], rowR ga (.int .i64 k) [.int .i64 0, .string ⟨#[]⟩, .string ⟨#[]⟩, .int .i64 0, .slice none 0 0], rowR g3 (.string NM) [.bool false, .bool false, .bool false, .bool false, .bool false]] := hD
        obtain ⟨⟨b0, b1, b2, b3, b4, b5⟩, -⟩ := RowAt.c6 (hD.get 1 rfl)
        have hzz := (hold_ints0 hD)
        have hnn : ∀ x : Addr, none = some x → gr ≤ x.block := fun x hx => (by cases hx)
        refine bodyPost_ret (v := .agg #[.int .i64 k, .int .i64 0, .string (⟨#[]⟩), .string (⟨#[]⟩), .int .i64 0, .slice none 0 0]) ?_ rfl ⟨none, ⟨0, ?_⟩, ?_, ?_, ?_⟩
        · simp [results, Tryd.results40, go_sem, b0, b1, b2, b3, b4, b5]
        · rfl
        · exact hzz
        · exact hS
        · exact hnn
      · simp only [Bool.true_and] at hZ
        subst hZ
        go_upto_region 20 with ((with_reducible refine (CR.out _ (IntsAt.nil _ _)).mono ?_); rintro e wy ⟨rfl, hw⟩; replace hD := hD.next hw; replace hS := hS.next hw; clear hw; clear a0 a1 a2 a3 a4 a5 y0 y1 y2 y3 y4 y5 b0 b1 b2 b3 b4 b5; clear r0 r1 r2 f0 f1 f2 c0 c1 c2 c3 c4 c5 z0 z1 z2 z3 z4 z5; obtain ⟨⟨a0, a1, a2, a3, a4, a5⟩, y0, y1, y2, y3, y4, y5⟩ := RowAt.c6 (hD.get 2 rfl); obtain ⟨⟨b0, b1, b2, b3, b4, b5⟩, -⟩ := RowAt.c6 (hD.get 3 rfl); obtain ⟨r0, r1, r2, f0, f1, f2⟩ := RowAt.c3 (hD.get 0 rfl); obtain ⟨⟨c0, c1, c2, c3, c4, c5⟩, z0, z1, z2, z3, z4, z5⟩ := RowAt.c6 (hD.get 1 rfl))
        replace hS := hS.setCell g 2 (.bool RG) (.inl rfl)
        replace hD := hD.putRow 0 (g := g) rfl 2 (.bool RG) (.string s) [.int .i64 (nx : Int), .bool RG] (by simp) rfl
        clear a0 a1 a2 a3 a4 a5 y0 y1 y2 y3 y4 y5 b0 b1 b2 b3 b4 b5
        clear r0 r1 r2 f0 f1 f2 c0 c1 c2 c3 c4 c5 z0 z1 z2 z3 z4 z5
        generalize wy.setCell _ _ = w8 at *
        obtain ⟨⟨a0, a1, a2, a3, a4, a5⟩, y0, y1, y2, y3, y4, y5⟩ := RowAt.c6 (hD.get 2 rfl); obtain ⟨⟨b0, b1, b2, b3, b4, b5⟩, -⟩ := RowAt.c6 (hD.get 3 rfl)
        obtain ⟨r0, r1, r2, f0, f1, f2⟩ := RowAt.c3 (hD.get 0 rfl); obtain ⟨⟨c0, c1, c2, c3, c4, c5⟩, z0, z1, z2, z3, z4, z5⟩ := RowAt.c6 (hD.get 1 rfl)
        go_wp2_with fail
        replace hS := (((((hS.setCell gr 0 (.int .i64 k) (.inr (by omega))).setCell gr 1 (.int .i64 0) (.inr (by omega))).setCell gr 2 (.string (⟨#[]⟩)) (.inr (by omega))).setCell gr 3 (.string (⟨#[]⟩)) (.inr (by omega))).setCell gr 4 (.int .i64 0) (.inr (by omega))).setCell gr 5 (.slice none 0 0) (.inr (by omega))
        replace hD := hD.put6 1 (g := gr) rfl (.int .i64 k) (.int .i64 0) (.string (⟨#[]⟩)) (.string (⟨#[]⟩)) (.int .i64 0) (.slice none 0 0)
        clear a0 a1 a2 a3 a4 a5 y0 y1 y2 y3 y4 y5 b0 b1 b2 b3 b4 b5
        clear r0 r1 r2 f0 f1 f2 c0 c1 c2 c3 c4 c5 z0 z1 z2 z3 z4 z5
        generalize (((((w8.setCell _ _).setCell _ _).setCell _ _).setCell _ _).setCell _ _).setCell _ _ = w9 at *
        replace hD : Hold W w9 [rdR g s ⟨nx, RG⟩, rowR gr (.int .i64 k) [.int .i64 0, .string (⟨#[]⟩), .string (⟨#[]⟩), .int .i64 0, .slice none 0 0], rowR ga (.int .i64 k) [.int .i64 0, .string ⟨#[]⟩, .string ⟨#[]⟩, .int .i64 0, .slice none 0 0], rowR g3 (.string NM) [.bool false, .bool false, .bool false, .bool false, .bool false]] := hD
        obtain ⟨⟨b0, b1, b2, b3, b4, b5⟩, -⟩ := RowAt.c6 (hD.get 1 rfl)
        have hzz := (hold_ints0 hD)
        have hnn : ∀ x : Addr, none = some x → gr ≤ x.block := fun x hx => (by cases hx)
        refine bodyPost_ret (v := .agg #[.int .i64 k, .int .i64 0, .string (⟨#[]⟩), .string (⟨#[]⟩), .int .i64 0, .slice none 0 0]) ?_ rfl ⟨none, ⟨0, ?_⟩, ?_, ?_, ?_⟩
        · simp [results, Tryd.results40, go_sem, b0, b1, b2, b3, b4, b5]
        · rfl
        · exact hzz
        · exact hS
        · exact hnn
    · obtain ⟨h2, h3, h4, h5, h6⟩ := HH.out
      clear HH HF
      obtain ⟨x1, x2⟩ : t = 0 ∧ st1 = st2 := by injection h2 with x1 x2; exact ⟨x1.symm, x2⟩
      subst x1 x2
      obtain ⟨x1, x2⟩ : key = ⟨#[]⟩ ∧ st1 = st3 := by injection h3 with x1 x2; exact ⟨x1.symm, x2⟩
      subst x1 x2
      obtain ⟨x1, x2⟩ : val = ⟨#[]⟩ ∧ st1 = st4 := by injection h4 with x1 x2; exact ⟨x1.symm, x2⟩
      subst x1 x2
      obtain ⟨x1, x2⟩ : n = 0 ∧ st1 = st5 := by injection h5 with x1 x2; exact ⟨x1.symm, x2⟩
      subst x1 x2
      replace h6 : fatesR s st1 = (fs, st6) := h6
      obtain ⟨m, stm, h7⟩ : ∃ m stm, oneR s st1 = (m, stm) := ⟨_, _, rfl⟩
      have e7 : stm.i = st1.i + 1 := by have := congrArg (fun x => x.2.i) h7; exact this.symm
      have hm : 0 ≤ m ∧ m ≤ 255 := by have h := getV1_le s st1.i; have e : getV s st1.i 1 = m := congrArg Prod.fst h7; rw [e] at h; exact h
      obtain ⟨M, rfl⟩ : ∃ M : Nat, m = (M : Int) := ⟨m.toNat, by omega⟩
      have h8 : onesR s M stm = (fs, st6) := by rw [fatesR, h7] at h6; exact h6
      have hM : M = fs.length := by have := onesR_len s M stm; rw [h8] at this; exact this.symm
      subst hM
      have hM2 : fs.length ≤ 255 := by omega
      have hM2' : fs.length ≤ 255 := hM2
      have H8 := Lib.hid h8
      clear h8 h6
      replace hD : Hold W w7 [rdR g s st1, rowR gr (.int .i64 0) [.int .i64 0, .string ⟨#[]⟩, .string ⟨#[]⟩, .int .i64 0, .slice none 0 0], rowR ga (.int .i64 k) [.int .i64 0, .string ⟨#[]⟩, .string ⟨#[]⟩, .int .i64 0, .slice none 0 0], rowR g3 (.string NM) [.bool false, .bool false, .bool false, .bool false, .bool true], ownZ 3 1 (.slice none 0 0) 0 (intC [])] := hD.nilZ 3 1
      obtain ⟨inf, hi0', hz0, hz1, hz2⟩ := infoInt
      go_wp2_with ((with_reducible refine (hold_one2 hD 0 rfl h7 hs (by omega)).mono ?_); rintro e u0 ⟨rfl, hw, hA⟩; replace hD := hw; clear hw; replace hS := hS.trans hA; clear hA; clear a0 a1 a2 a3 a4 a5 y0 y1 y2 y3 y4 y5 b0 b1 b2 b3 b4 b5)
      replace hD : Hold W u0 [rdR g s stm, rowR gr (.int .i64 0) [.int .i64 0, .string ⟨#[]⟩, .string ⟨#[]⟩, .int .i64 0, .slice none 0 0], rowR ga (.int .i64 k) [.int .i64 0, .string ⟨#[]⟩, .string ⟨#[]⟩, .int .i64 0, .slice none 0 0], rowR g3 (.string NM) [.bool false, .bool false, .bool false, .bool false, .bool true], ownZ 3 1 (.slice none 0 0) 0 (intC [])] := hD
      go_loopw [50] (fun v50 wr => ∃ (n : Nat) (q : Option Addr) (c : Nat), n ≤ fs.length ∧ v50 = .int .i64 n ∧ Hold W wr [rdR g s (onesR s n stm).2, rowR gr (.int .i64 0) [.int .i64 0, .string ⟨#[]⟩, .string ⟨#[]⟩, .int .i64 0, .slice none 0 0], rowR ga (.int .i64 k) [.int .i64 0, .string ⟨#[]⟩, .string ⟨#[]⟩, .int .i64 0, .slice q n c], rowR g3 (.string NM) [.bool false, .bool false, .bool false, .bool false, .bool true], ownZ 3 1 (.slice q n c) n (intC (onesR s n stm).1)] ∧ AllS (OneS g) w wr ∧ ∀ x, q = some x → gr ≤ x.block) (fun v _ => fs.length - (intOf v).toNat)
      case atStart => exact ⟨0, none, 0, by omega, rfl, hD, hS, fun x hx => (by cases hx)⟩
      case round =>
      clear hD hS
      obtain ⟨n, q, c, hn, rfl, hD, hS, hq⟩ := hrel
      obtain ⟨⟨a0, a1, a2, a3, a4, a5⟩, y0, y1, y2, y3, y4, y5⟩ := RowAt.c6 (hD.get 2 rfl); obtain ⟨⟨b0, b1, b2, b3, b4, b5⟩, -⟩ := RowAt.c6 (hD.get 3 rfl)
      by_cases hlt : n < fs.length
      · have b1' : (n : Int) < (fs.length : Int) := by omega
        obtain ⟨v, st', hO⟩ : ∃ v st', oneR s (onesR s n stm).2 = (v, st') := ⟨_, _, rfl⟩
        have hsn : onesR s (n + 1) stm = ((onesR s n stm).1 ++ [v], st') := by rw [onesR_snoc, hO]
        have hei := onesR_i s n stm
        have HSN := Lib.hid hsn
        clear hsn
        generalize onesR s n stm = Y at *
        obtain ⟨L, sn⟩ := Y
        simp only at hD hO hei
        have hx : sn.i ≤ 2000000000 := by omega
        have HC := Lib.hid (fun w (h : Hold W w [rdR g s sn, rowR gr (.int .i64 0) [.int .i64 0, .string ⟨#[]⟩, .string ⟨#[]⟩, .int .i64 0, .slice none 0 0], rowR ga (.int .i64 k) [.int .i64 0, .string ⟨#[]⟩, .string ⟨#[]⟩, .int .i64 0, .slice q n c], rowR g3 (.string NM) [.bool false, .bool false, .bool false, .bool false, .bool true], ownZ 3 1 (.slice q n c) n (intC L)]) => hold_one2 h 0 rfl hO hs hx)
        clear hei hO hx hi1 e7 h7
        go_upto_region 17 with fail
        refine wp_region_two Eq (AllS (fun k => k = g ∨ (ownZ 3 1 (.slice q n c) n (intC L)).has k)) (allS_ok _) (by kernel_rfl) (by kernel_rfl) (by kernel_rfl) ?_
        clear a0 a1 a2 a3 a4 a5 y0 y1 y2 y3 y4 y5 b0 b1 b2 b3 b4 b5
        replace hD := hD.next ((Below.refl _ wr).drew)
        replace hS := hS.drew
        generalize wr.drew = wa9 at *
        have hga17 : ¬ (ga = g ∨ (ownZ 3 1 (.slice q n c) n (intC L)).has ga) := fun h => h.elim (fun h => n2 h.symm) (hD.apart' 2 4 rfl rfl (by decide) ga rfl)
        obtain ⟨⟨a0, a1, a2, a3, a4, a5⟩, -⟩ := RowAt.c6 (hD.get 2 rfl)
        refine wpAnyTS_quiet 0 3 5 72 (by rfl) (by kernel_rfl) (fun _ _ _ _ _ h => h) (by kernel_rfl) (by kernel_rfl) ?_
        apply Exists.intro
        refine ⟨fun w2 hw2 => ?_, ?_⟩
        · have hne := laterR_ne (R := Eq) eqOK w2
          have l5 := laterS a5 hga17 hw2
          simp only [List.drop_zero, List.take_succ_cons, List.take_zero]
          repeat (go_big_quiet_step (fail))
          exact wpQuiet_nil rfl
        clear a0 a1 a2 a3 a4 a5 hga17
        refine wpAnyTS_some 3 [] 4 (by rfl) (by kernel_rfl) (by kernel_rfl) ?_
        rintro w2 rfl
        refine ⟨?_, trivial⟩
        simp only [List.drop_succ_cons, List.drop_zero, List.take_succ_cons, List.take_zero]
        go_wp2_with ((with_reducible refine (HC.out _ hD).mono ?_); rintro e wx ⟨rfl, hw, hA⟩; replace hD := hw; clear hw)
        refine ⟨.inr (hA.mono (fun k hk => .inl hk)), ?_⟩
        replace hS := hS.trans hA
        clear hA HC
        refine wpAnyTS_some 4 [] 3 (by rfl) (by kernel_rfl) (by kernel_rfl) ?_
        rintro w2 rfl
        refine ⟨?_, trivial⟩
        simp only [List.drop_succ_cons, List.drop_zero, List.take_succ_cons, List.take_zero]
        go_wp2_with fail
        refine ⟨.inr (AllS.of_up ((Up.refl _).alloc _)), ?_⟩
        have hF : Hold W (wx.alloc (.cells #[.int .i64 v] 3)) [rdR g s st', rowR gr (.int .i64 0) [.int .i64 0, .string ⟨#[]⟩, .string ⟨#[]⟩, .int .i64 0, .slice none 0 0], rowR ga (.int .i64 k) [.int .i64 0, .string ⟨#[]⟩, .string ⟨#[]⟩, .int .i64 0, .slice q n c], rowR g3 (.string NM) [.bool false, .bool false, .bool false, .bool false, .bool true], ownZ 3 1 (.slice q n c) n (intC L), rowR wx.heap.size (.int .i64 v) []] := hD.madeRow (.int .i64 v) [] 3
        clear hD
        replace hS := hS.trans (AllS.of_up ((Up.refl wx).alloc (.cells #[.int .i64 v] 3)))
        have hsz : gr ≤ wx.heap.size := by have := (hF.get 1 rfl).lt; have h0 := hS.size; simp only [World.size_alloc] at *; omega
        generalize wx.heap.size = gx at *
        generalize wx.alloc _ = wy at *
        have r7 : RowAt wy gx [.int .i64 v] := hF.get 5 rfl
        refine wpAnyTS_some 5 [] 2 (by rfl) (by kernel_rfl) (by kernel_rfl) ?_
        rintro w2 rfl
        refine ⟨?_, trivial⟩
        simp only [List.drop_succ_cons, List.drop_zero, List.take_succ_cons, List.take_zero]
        go_wp2_with ((with_reducible refine wpList_at 57 ?_); refine wpList_appendB rfl _ _ 22 rfl 3 inf (.int .i64 0) 1 8 (by kernel_rfl) hi0' hz0 hz1 hz2 rfl (by decide) hF 4 _ (intC L) n rfl rfl ⟨gx, 0, none⟩ 1 [.int .i64 v] rfl rfl r7.addsAt (fun x hx => by simp at hx; subst hx; rfl) (by unfold maxLen; omega) (by omega) ?_; intro b9 c9 w6 hA6 hl6 hw)
        refine ⟨.inr (hA6.mono (fun k hk => .inr hk)), ?_⟩
        have hown : ∀ k, (ownZ 3 1 (.slice q n c) n (intC L)).has k → gr ≤ k := fun k hk => by
          have hk' : (Value.slice q n c).ownBlock = some k := hk
          cases q with
          | none => cases hk'
          | some x => have := hq x rfl; injection hk' with hk'; omega
        have hb9 : gr ≤ b9 := by
          rcases hl6 with h | h
          · exact hown b9 h
          · have := hS.size; omega
        replace hS := hS.trans' hA6 (fun k hk hk2 => by have := hown k hk2; omega)
        clear hA6 hl6 hown hq r7 hF
        have hD : Hold W w6 [rdR g s st', rowR gr (.int .i64 0) [.int .i64 0, .string ⟨#[]⟩, .string ⟨#[]⟩, .int .i64 0, .slice none 0 0], rowR ga (.int .i64 k) [.int .i64 0, .string ⟨#[]⟩, .string ⟨#[]⟩, .int .i64 0, .slice q n c], rowR g3 (.string NM) [.bool false, .bool false, .bool false, .bool false, .bool true], ownZ 3 1 (.slice (some ⟨b9, 0, none⟩) (n + 1) c9) (n + 1) (intC (L ++ [v]))] := by
          have h2 := hw.sub (l' := [rdR g s st', rowR gr (.int .i64 0) [.int .i64 0, .string ⟨#[]⟩, .string ⟨#[]⟩, .int .i64 0, .slice none 0 0], rowR ga (.int .i64 k) [.int .i64 0, .string ⟨#[]⟩, .string ⟨#[]⟩, .int .i64 0, .slice q n c], rowR g3 (.string NM) [.bool false, .bool false, .bool false, .bool false, .bool true], ownZ 3 1 (.slice (some ⟨b9, 0, none⟩) (n + 1) c9) (n + 1) (intC L ++ [.int .i64 v])]) (List.sublist_append_left [_, _, _, _, _] [_])
          rw [intC_append]
          exact h2
        clear hw
        refine wpAnyTS_quiet 6 1 1 72 (by rfl) (by kernel_rfl) (fun _ _ _ _ _ h => h) (by kernel_rfl) (by kernel_rfl) ?_
        apply Exists.intro
        refine ⟨fun w2 hw2 => ?_, ?_⟩
        · have hne := laterR_ne (R := Eq) eqOK w2
          skip
          simp only [List.drop_succ_cons, List.drop_zero, List.take_succ_cons, List.take_zero]
          repeat (go_big_quiet_step (fail))
          exact wpQuiet_nil rfl
        refine wpAnyTS_some 7 [] 0 (by rfl) (by kernel_rfl) (by kernel_rfl) ?_
        rintro w2 rfl
        refine ⟨?_, trivial⟩
        obtain ⟨⟨a0, a1, a2, a3, a4, a5⟩, y0, y1, y2, y3, y4, y5⟩ := RowAt.c6 (hD.get 2 rfl)
        simp only [List.drop_succ_cons, List.drop_zero, List.take_succ_cons, List.take_zero]
        go_wp2_with fail
        refine ⟨.inl (by kernel_rfl), ?_⟩
        replace hD := hD.putRow 2 (g := ga) rfl 5 (.slice (some ⟨b9, 0, none⟩) (n + 1) c9) (.int .i64 k) [.int .i64 0, .string ⟨#[]⟩, .string ⟨#[]⟩, .int .i64 0, .slice (some ⟨b9, 0, none⟩) (n + 1) c9] (by simp) rfl
        replace hS := hS.setCell ga 5 (.slice (some ⟨b9, 0, none⟩) (n + 1) c9) (.inr (by omega))
        clear a0 a1 a2 a3 a4 a5 y0 y1 y2 y3 y4 y5
        refine wpAnyTS_done (by kernel_rfl) ?_
        rintro w2 rfl
        go_wp2_with fail
        refine ⟨⟨n + 1, some ⟨b9, 0, none⟩, c9, by omega, by go_num, ?_, hS, fun x hx => by injection hx with hx; subst hx; exact hb9⟩, by simp [intOf]; omega⟩
        rw [HSN.out]
        exact hD
      · have hnM : n = fs.length := by omega
        subst hnM
        rw [H8.out] at hD
        clear H8 hn hlt hm hM2' e7 h7 hi1
        have CR := Lib.hid (fun w h => script_Right ⟨k, 0, ⟨#[]⟩, ⟨#[]⟩, 0, fs⟩ (Nat.le_trans hM2 (by decide)) (q) (c) w h)
        simp only [actV] at CR
        generalize hRg : ActD.right ⟨k, 0, ⟨#[]⟩, ⟨#[]⟩, 0, fs⟩ = RG at *
        obtain ⟨nx, okx⟩ := st6
        simp only at hZ
        obtain ⟨r0, r1, r2, f0, f1, f2⟩ := RowAt.c3 (hD.get 0 rfl); obtain ⟨⟨c0, c1, c2, c3, c4, c5⟩, z0, z1, z2, z3, z4, z5⟩ := RowAt.c6 (hD.get 1 rfl)
        cases okx
        · simp only [Bool.false_and] at hZ
          subst hZ
          go_upto_region 20 with fail
          replace hS := hS.setCell g 2 (.bool false) (.inl rfl)
          replace hD := hD.putRow 0 (g := g) rfl 2 (.bool false) (.string s) [.int .i64 (nx : Int), .bool false] (by simp) rfl
          clear a0 a1 a2 a3 a4 a5 y0 y1 y2 y3 y4 y5 b0 b1 b2 b3 b4 b5
          clear r0 r1 r2 f0 f1 f2 c0 c1 c2 c3 c4 c5 z0 z1 z2 z3 z4 z5
          generalize wr.setCell _ _ = w8 at *
          obtain ⟨⟨a0, a1, a2, a3, a4, a5⟩, y0, y1, y2, y3, y4, y5⟩ := RowAt.c6 (hD.get 2 rfl); obtain ⟨⟨b0, b1, b2, b3, b4, b5⟩, -⟩ := RowAt.c6 (hD.get 3 rfl)
          obtain ⟨r0, r1, r2, f0, f1, f2⟩ := RowAt.c3 (hD.get 0 rfl); obtain ⟨⟨c0, c1, c2, c3, c4, c5⟩, z0, z1, z2, z3, z4, z5⟩ := RowAt.c6 (hD.get 1 rfl)
          go_wp2_with fail
          replace hS := (((((hS.setCell gr 0 (.int .i64 k) (.inr (by omega))).setCell gr 1 (.int .i64 0) (.inr (by omega))).setCell gr 2 (.string (⟨#[]⟩)) (.inr (by omega))).setCell gr 3 (.string (⟨#[]⟩)) (.inr (by omega))).setCell gr 4 (.int .i64 0) (.inr (by omega))).setCell gr 5 (.slice q fs.length c) (.inr (by omega))
          replace hD := hD.put6 1 (g := gr) rfl (.int .i64 k) (.int .i64 0) (.string (⟨#[]⟩)) (.string (⟨#[]⟩)) (.int .i64 0) (.slice q fs.length c)
          clear a0 a1 a2 a3 a4 a5 y0 y1 y2 y3 y4 y5 b0 b1 b2 b3 b4 b5
          clear r0 r1 r2 f0 f1 f2 c0 c1 c2 c3 c4 c5 z0 z1 z2 z3 z4 z5
          generalize (((((w8.setCell _ _).setCell _ _).setCell _ _).setCell _ _).setCell _ _).setCell _ _ = w9 at *
          replace hD : Hold W w9 [rdR g s ⟨nx, false⟩, rowR gr (.int .i64 k) [.int .i64 0, .string (⟨#[]⟩), .string (⟨#[]⟩), .int .i64 0, .slice q fs.length c], rowR ga (.int .i64 k) [.int .i64 0, .string ⟨#[]⟩, .string ⟨#[]⟩, .int .i64 0, .slice q fs.length c], rowR g3 (.string NM) [.bool false, .bool false, .bool false, .bool false, .bool true], ownZ 3 1 (.slice q fs.length c) fs.length (intC fs)] := hD
          obtain ⟨⟨b0, b1, b2, b3, b4, b5⟩, -⟩ := RowAt.c6 (hD.get 1 rfl)
          have hzz := (hold_ints4 hD)
          have hnn : ∀ x : Addr, q = some x → gr ≤ x.block := hq
          refine bodyPost_ret (v := .agg #[.int .i64 k, .int .i64 0, .string (⟨#[]⟩), .string (⟨#[]⟩), .int .i64 0, .slice q fs.length c]) ?_ rfl ⟨q, ⟨c, ?_⟩, ?_, ?_, ?_⟩
          · simp [results, Tryd.results40, go_sem, b0, b1, b2, b3, b4, b5]
          · rfl
          · exact hzz
          · exact hS
          · exact hnn
        · simp only [Bool.true_and] at hZ
          subst hZ
          go_upto_region 20 with ((with_reducible refine (CR.out _ (own_ints (hD.get 4 rfl) rfl).1).mono ?_); rintro e wy ⟨rfl, hw⟩; replace hD := hD.next hw; replace hS := hS.next hw; clear hw; clear a0 a1 a2 a3 a4 a5 y0 y1 y2 y3 y4 y5 b0 b1 b2 b3 b4 b5; clear r0 r1 r2 f0 f1 f2 c0 c1 c2 c3 c4 c5 z0 z1 z2 z3 z4 z5; obtain ⟨⟨a0, a1, a2, a3, a4, a5⟩, y0, y1, y2, y3, y4, y5⟩ := RowAt.c6 (hD.get 2 rfl); obtain ⟨⟨b0, b1, b2, b3, b4, b5⟩, -⟩ := RowAt.c6 (hD.get 3 rfl); obtain ⟨r0, r1, r2, f0, f1, f2⟩ := RowAt.c3 (hD.get 0 rfl); obtain ⟨⟨c0, c1, c2, c3, c4, c5⟩, z0, z1, z2, z3, z4, z5⟩ := RowAt.c6 (hD.get 1 rfl))
          replace hS := hS.setCell g 2 (.bool RG) (.inl rfl)
          replace hD := hD.putRow 0 (g := g) rfl 2 (.bool RG) (.string s) [.int .i64 (nx : Int), .bool RG] (by simp) rfl
          clear a0 a1 a2 a3 a4 a5 y0 y1 y2 y3 y4 y5 b0 b1 b2 b3 b4 b5
          clear r0 r1 r2 f0 f1 f2 c0 c1 c2 c3 c4 c5 z0 z1 z2 z3 z4 z5
          generalize wy.setCell _ _ = w8 at *
          obtain ⟨⟨a0, a1, a2, a3, a4, a5⟩, y0, y1, y2, y3, y4, y5⟩ := RowAt.c6 (hD.get 2 rfl); obtain ⟨⟨b0, b1, b2, b3, b4, b5⟩, -⟩ := RowAt.c6 (hD.get 3 rfl)
          obtain ⟨r0, r1, r2, f0, f1, f2⟩ := RowAt.c3 (hD.get 0 rfl); obtain ⟨⟨c0, c1, c2, c3, c4, c5⟩, z0, z1, z2, z3, z4, z5⟩ := RowAt.c6 (hD.get 1 rfl)
          go_wp2_with fail
          replace hS := (((((hS.setCell gr 0 (.int .i64 k) (.inr (by omega))).setCell gr 1 (.int .i64 0) (.inr (by omega))).setCell gr 2 (.string (⟨#[]⟩)) (.inr (by omega))).setCell gr 3 (.string (⟨#[]⟩)) (.inr (by omega))).setCell gr 4 (.int .i64 0) (.inr (by omega))).setCell gr 5 (.slice q fs.length c) (.inr (by omega))
          replace hD := hD.put6 1 (g := gr) rfl (.int .i64 k) (.int .i64 0) (.string (⟨#[]⟩)) (.string (⟨#[]⟩)) (.int .i64 0) (.slice q fs.length c)
          clear a0 a1 a2 a3 a4 a5 y0 y1 y2 y3 y4 y5 b0 b1 b2 b3 b4 b5
          clear r0 r1 r2 f0 f1 f2 c0 c1 c2 c3 c4 c5 z0 z1 z2 z3 z4 z5
          generalize (((((w8.setCell _ _).setCell _ _).setCell _ _).setCell _ _).setCell _ _).setCell _ _ = w9 at *
          replace hD : Hold W w9 [rdR g s ⟨nx, RG⟩, rowR gr (.int .i64 k) [.int .i64 0, .string (⟨#[]⟩), .string (⟨#[]⟩), .int .i64 0, .slice q fs.length c], rowR ga (.int .i64 k) [.int .i64 0, .string ⟨#[]⟩, .string ⟨#[]⟩, .int .i64 0, .slice q fs.length c], rowR g3 (.string NM) [.bool false, .bool false, .bool false, .bool false, .bool true], ownZ 3 1 (.slice q fs.length c) fs.length (intC fs)] := hD
          obtain ⟨⟨b0, b1, b2, b3, b4, b5⟩, -⟩ := RowAt.c6 (hD.get 1 rfl)
          have hzz := (hold_ints4 hD)
          have hnn : ∀ x : Addr, q = some x → gr ≤ x.block := hq
          refine bodyPost_ret (v := .agg #[.int .i64 k, .int .i64 0, .string (⟨#[]⟩), .string (⟨#[]⟩), .int .i64 0, .slice q fs.length c]) ?_ rfl ⟨q, ⟨c, ?_⟩, ?_, ?_, ?_⟩
          · simp [results, Tryd.results40, go_sem, b0, b1, b2, b3, b4, b5]
          · rfl
          · exact hzz
          · exact hS
          · exact hnn
-- END
  · rw [if_neg hk] at HZ
    have k1 : k ≥ 12 := by omega
    have hZ := HZ.out
    clear HZ
    subst hZ
    go_wp2_with fail
    replace hS := ((((((hS.setCell g 2 (.bool false) (.inl rfl)).setCell gr 0 (.int .i64 0) (.inr (by omega))).setCell gr 1 (.int .i64 0) (.inr (by omega))).setCell gr 2 (.string ⟨#[]⟩) (.inr (by omega))).setCell gr 3 (.string ⟨#[]⟩) (.inr (by omega))).setCell gr 4 (.int .i64 0) (.inr (by omega))).setCell gr 5 (.slice none 0 0) (.inr (by omega))
    replace hD := (hD.putRow 0 (g := g) rfl 2 (.bool false) (.string s) [.int .i64 ((i + 1 : Nat) : Int), .bool false] (by simp) rfl).put6 1 (g := gr) rfl (.int .i64 0) (.int .i64 0) (.string ⟨#[]⟩) (.string ⟨#[]⟩) (.int .i64 0) (.slice none 0 0)
    replace hD : Hold W _ [rdR g s ⟨i + 1, false⟩, rowR gr (.int .i64 0) [.int .i64 0, .string ⟨#[]⟩, .string ⟨#[]⟩, .int .i64 0, .slice none 0 0], rowR ga (.int .i64 k) [.int .i64 0, .string ⟨#[]⟩, .string ⟨#[]⟩, .int .i64 0, .slice none 0 0]] := hD
    clear r0 r1 r2 f0 f1 f2 a0 a1 a2 a3 a4 a5 b0 b1 b2 b3 b4 b5 y0 y1 y2 y3 y4 y5
    generalize ((((((w1.setCell _ _).setCell _ _).setCell _ _).setCell _ _).setCell _ _).setCell _ _).setCell _ _ = w2 at *
    obtain ⟨⟨b0, b1, b2, b3, b4, b5⟩, -⟩ := RowAt.c6 (hD.get 1 rfl)
    have hI : Hold W w2 [rdR g s ⟨i + 1, false⟩, intsR none []] := (hD.sub (List.sublist_append_left [_] [_, _])).add (Below.refl _ w2) (intsR none []) ⟨IntsAt.nil _ _, fun x hx => (by cases hx)⟩ (fun k hk => by obtain ⟨x, hx, -⟩ := hk; cases hx)
    refine bodyPost_ret (v := .agg #[.int .i64 0, .int .i64 0, .string ⟨#[]⟩, .string ⟨#[]⟩, .int .i64 0, .slice none 0 0]) (by simp [results, Tryd.results40, go_sem, *]) rfl ⟨none, ⟨0, rfl⟩, hI, hS, fun x hx => (by cases hx)⟩
/-- What is new beside what was held, turned at one place. -/
theorem hold_stepAdd {W w w' : World} {l : List Res} {R : Res} (h : Hold W w l) (i : Nat) (hi : l[i]? = some R) (R' : Res) (hR : R'.holds w') (hT : ∀ k, R'.has k → R.has k ∨ w.heap.size ≤ k) (hA : AllS R.has w w')
    (N : Res) (hN : N.holds w') (hn : ∀ k, N.has k → w.heap.size ≤ k) (hap : ∀ k, R'.has k → ¬ N.has k) : Hold W w' (l.set i R' ++ [N]) := by
  have h1 := h.step i hi R' hR hT hA
  refine ⟨h1.up, fun T hT' => ?_, ?_⟩
  · rcases List.mem_append.1 hT' with hm | hm
    · exact h1.all T hm
    · obtain rfl := List.mem_singleton.1 hm
      exact ⟨hN, fun k hk => Nat.le_trans (Below.size h.up) (hn k hk)⟩
  · refine List.pairwise_append.2 ⟨h1.apart, List.pairwise_singleton _ _, fun T hT' S hS k hk hk' => ?_⟩
    obtain rfl := List.mem_singleton.1 hS
    rcases List.mem_or_eq_of_mem_set hT' with hm | rfl
    · have h3 := T.lt (h.all T hm).1 hk
      have h4 := hn k hk'
      omega
    · exact hap k hk hk'
theorem hold_act {W w : World} {l : List Res} (h : Hold W w l) (j : Nat) {g : Nat} {s : ByteArray} {i : Nat} (hj : l[j]? = some (rdR g s ⟨i, true⟩)) (hs : s.size ≤ 1000000000) (hi : i < s.size) :
    Calls Tryd.prog 40 #[.pointer (some ⟨g, 0, none⟩)] w fun e w' => ∃ q c, e = .returned (actV (actZ s i).1 q c) ∧ Hold W w' (l.set j (rdR g s (actZ s i).2) ++ [intsR q (actZ s i).1.f]) ∧ AllS (OneS g) w w' := by
  have h0 : Hold W w [rdR g s ⟨i, true⟩] := by
    refine h.sub (List.singleton_sublist.2 (List.mem_of_getElem? hj))
  refine (act_core s hs i hi h0).mono fun e w' ⟨q, c, he, hw, hA, hq⟩ => ⟨q, c, he, ?_, hA⟩
  exact hold_stepAdd h j hj _ (hw.get 0 rfl) (fun k hk => .inl hk) hA _ (hw.get 1 rfl) (fun k hk => by obtain ⟨x, hx, rfl⟩ := hk; exact hq x hx) (hw.apart' 0 1 rfl rfl (by decide))
end Go.Proofs.YtkkgcmnipdkeeaaDoor
