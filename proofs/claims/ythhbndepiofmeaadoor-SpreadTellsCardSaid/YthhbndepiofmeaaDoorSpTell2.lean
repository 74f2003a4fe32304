/- Layer 18: the document's Of; leaves for the document; at most 60 of them. -/
import Derived.Test.YthhbndepiofmeaaDoorSpTell1
import Derived.Test.YthhbndepiofmeaaDoorSpSum
namespace Bw
open Go Ieee Go.RowKit
section
variable {W w : World} {l : List Res} {P : Program} {ops : Array Oper} {rest : List Oper} {o : Oper} {a : Act} {Q : Exit → Act → World → Prop}
/-- append of all of a slice that lies anywhere to an empty one of the law's own. -/
theorem wpList_copyIn (hgd : o.guard = none) (s x : Operand) (t : TypeId) (ho : o.op = .call { callee := .builtin .append, args := #[s, x], argTypes := #[t, t] })
    (e : TypeId) (i : TypeInfo) (z : Value) (size bytes : Nat) (ht : P.underlying t = some (.slice e)) (hi : P.info? e = some i) (hz : i.zero = some z) (hsize : i.size = size) (hby : i.bytes = bytes) (hzs : z.cells.size = size) (hsz : 0 < size)
    (hH : Hold W w l) (j : Nat) (v : Value) (hj : l[j]? = some (ownZ e size v 0 [])) (hs : a.eval s = v) (qx : Option Addr) (m c : Nat) (xs : List Value) (hx : a.eval x = .slice qx m c) (hxl : xs.length = m * size)
    (hn : qx = none → m = 0 ∧ c = 0) (hc : ∀ ad i u, qx = some ad → xs[i]? = some u → w.cell? (ad.add i) = some u) (hu : ∀ u ∈ xs, u.oneCell' = true) (h63 : m ≤ maxLen) (hbytes : m * bytes ≤ 140737488355328)
    (h : ∀ q cap w', Hold W w' (l.set j (ownZ e size (.slice q m cap) m xs)) → wpList P ops Q rest (a.put o.dst (.slice q m cap)) w') : wpList P ops Q (o :: rest) a w := by
  replace h : ∀ v' w', Hold W w' (l.set j (ownZ e size v' m xs)) → wpList P ops Q rest (a.put o.dst v') w' := fun v' w' hw => by
    obtain ⟨q, cap, rfl, -, -⟩ := ownZ_form (hw.get j (R := ownZ e size v' m xs) (by rw [List.getElem?_set_self (List.getElem?_eq_some_iff.1 hj).1]))
    exact h q cap w' hw
  have hV : w.ownsRow 0 e size v 0 [] := hH.get j hj
  cases qx with
  | none =>
    obtain ⟨rfl, rfl⟩ := hn rfl
    have hxs : xs = [] := by rw [Nat.zero_mul] at hxl; exact List.length_eq_zero_iff.1 hxl
    subst hxs
    refine wpList_plain hgd fun K hK => ?_
    have hr := run_append_owned_none (P := P) (w := w) 0 t o.type e i size ht hi v 0 [] hV
    unfold Oper.wp execOp
    simp only [ho, resolve, invoke, builtin, Sem.run_bind, Sem.run_pure, Result.andThen_ok, List.map_toArray, List.map_cons, List.map_nil, hs, hx, hr]
    refine hK _ _ (h v w ?_)
    have e1 : l.set j (ownZ e size v 0 []) = l := by
      obtain ⟨hl, hv⟩ := List.getElem?_eq_some_iff.1 hj
      rw [← hv]; exact List.set_getElem_self hl
    rw [e1]; exact hH
  | some ad =>
    refine wpList_append_own_at w hgd s x t ho 0 e i z size bytes ht hi hz hsize hby hzs hsz v 0 [] hs hV ad m c xs hx hxl (fun j u hju => hc ad j u rfl hju) hu (by rw [Nat.zero_add]; exact h63) (by rw [Nat.zero_add]; exact hbytes) (Nat.zero_le _) ?_
    intro v' w' how hgrow _ hloc
    rw [Nat.zero_add, List.nil_append] at how
    refine h v' w' (hH.step j hj (ownZ e size _ _ _) how ?_ ((AllS.refl _ w).grown hgrow (fun k hk => .inl hk)))
    intro k hk
    have hk' : v'.ownBlock = some k := hk
    rcases hloc with e1 | e1
    · exact .inl (e1.symm.trans hk')
    · rw [hk'] at e1
      injection e1 with e1
      exact .inr (by omega)
end
theorem cellsL_at {w : World} {q : Option Addr} {l : List LeafZ} (hl : LeavesAt w q l) {ad : Addr} (i : Nat) (u : Value) (hq : q = some ad) (h : (cellsL l)[i]? = some u) : w.cell? (ad.add i) = some u := by
  have hi : i < l.length * 2 := by have := (List.getElem?_eq_some_iff.1 h).1; rw [cellsL_length] at this; exact this
  obtain ⟨g, o, e, c1, c2⟩ := hl (i / 2) (by omega)
  rw [e] at hq
  injection hq with hq
  subst hq
  obtain ⟨d1, d2⟩ := cellsL_get l (i / 2) (by omega)
  have hadd : (⟨g, o, none⟩ : Addr).add i = ⟨g, o + i, none⟩ := by unfold Addr.add; split <;> simp_all
  rw [hadd]
  rcases Nat.mod_two_eq_zero_or_one i with h2 | h2
  · rw [show i / 2 * 2 = i by omega] at c1 d1
    rw [c1, ← h, d1]
  · rw [show o + i / 2 * 2 + 1 = o + i by omega] at c2
    rw [show i / 2 * 2 + 1 = i by omega] at d2
    rw [c2, ← h, d2]
theorem cellsL_one (l : List LeafZ) : ∀ u ∈ cellsL l, u.oneCell' = true := by
  intro u hu
  unfold cellsL at hu
  rw [List.mem_flatMap] at hu
  obtain ⟨x, -, hu⟩ := hu
  simp at hu
  rcases hu with rfl | rfl <;> rfl
theorem leavesAt_take {w : World} {q : Option Addr} {l : List LeafZ} (hl : LeavesAt w q l) (n : Nat) : LeavesAt w q (l.take n) := fun k hk => by
  have hk' : k < l.length := by rw [List.length_take] at hk; omega
  obtain ⟨g, o, e, c1, c2⟩ := hl k hk'
  refine ⟨g, o, e, ?_, ?_⟩ <;> rw [List.getElem_take] <;> assumption
end Bw
namespace Go.Proofs.YthhbndepiofmeaaDoor
open Go.RowKit Bw
set_option linter.unusedVariables false
theorem law_Cut (l : List LeafZ) (q : Option Addr) (cap : Nat) (w : World) (hl : LeavesAt w q l) (hc : l.length ≤ cap) (hn : q = none → cap = 0) (hm : l.length ≤ maxLen) :
    Calls Tryd.prog 9 #[.slice q l.length cap] w fun e w' => ∃ q' cap', e = .returned (.slice q' (l.take 60).length cap') ∧ LeavesAt w' q' (l.take 60) ∧ Below w.heap.size w w' := by
  cases q with
  | none =>
    obtain rfl := hn rfl
    obtain rfl : l = [] := List.length_eq_zero_iff.1 (by omega)
    have hu := (Up.refl w).alloc (.cells #[] 56)
    clear hl hn hm hc
    rw [List.take_nil]
    show Calls _ _ #[.slice none 0 0] _ _
    go_enter Tryd.func9, Tryd.ntmps9
    go_wp2_with fail
    go_ret
    exact ⟨_, _, rfl, fun k hk => absurd hk (by simp), hu⟩
  | some ad =>
    have hD := (Hold.start w).madeZ 56 2
    rw [List.nil_append] at hD
    have hl2 := leavesAt_take (hl.up ((Up.refl w).alloc (.cells #[] 56))) 60
    obtain ⟨inf, hi0', hz0, hz1, hz2⟩ := infoLeaf
    have i0 : (0 : Int) ≤ (l.length : Int) := by omega
    have key : ∀ q' cap' w', Hold w w' [ownZ 56 2 (.slice q' (l.take 60).length cap') (l.take 60).length (cellsL (l.take 60))] → LeavesAt w' q' (l.take 60) ∧ Below w.heap.size w w' := by
      intro q' cap' w' h
      obtain ⟨q2, c2, e, h2⟩ := leaves_at (e := 56) (l := l.take 60) (h.get 0 rfl)
      injection e with e1 e2 e3
      subst e1
      exact ⟨h2, h.up⟩
    have hlen : (l.take 60).length = min 60 l.length := List.length_take
    generalize l.take 60 = L at *
    obtain ⟨m, hm1, hm2, i2, i3⟩ : ∃ m : Nat, min (l.length : Int) 60 = (m : Int) ∧ L.length = m ∧ m ≤ l.length ∧ m ≤ 60 := ⟨min l.length 60, by omega, by omega, by omega, by omega⟩
    have i4 : (m : Int) ≤ (cap : Int) := by omega
    have i5 : (0 : Int) ≤ (m : Int) := by omega
    have HX := Lib.hid (show (cellsL L).length = m * 2 by rw [cellsL_length, hm2])
    rw [hm2] at key ⊢
    have K := Lib.hid key
    have HL := Lib.hid hl2
    clear key hl2 hl hn hlen hm2
    go_enter Tryd.func9, Tryd.ntmps9
    go_wp2_with (at_builtin; refine wpList_copyIn rfl _ _ 22 rfl 56 inf (.agg #[.int .i64 0, .int .i64 0]) 2 16 (by kernel_rfl) hi0' hz0 hz1 hz2 rfl (by decide) hD 0 _ rfl rfl (some ad) m cap (cellsL L) rfl HX.out (fun h => by cases h) (fun ad i u h hu => cellsL_at HL.out i u h hu) (cellsL_one _) (by unfold maxLen; omega) (by omega) ?_; intro q5 c5 w5 hw5)
    obtain ⟨y1, y2⟩ := K.out _ _ _ hw5
    go_ret
    exact ⟨_, _, rfl, y1, y2⟩
theorem infoLeaf2 : ∃ i, Tryd.prog.info? 62 = some i ∧ i.zero = some (.agg #[.int .i64 0, .int .i64 0]) ∧ i.size = 2 ∧ i.bytes = 16 := by
  refine ⟨_, rfl, ?_, ?_, ?_⟩ <;> kernel_rfl
set_option maxHeartbeats 2000000 in
theorem law_leaves (l : List LeafZ) (q : Option Addr) (cap : Nat) (w : World) (hl : LeavesAt w q l) (hn : l.length ≤ 1024) :
    Calls Tryd.prog 12 #[.slice q l.length cap] w fun e w' => ∃ q' cap', e = .returned (.slice q' l.length cap') ∧ LeavesAt w' q' l ∧ Below w.heap.size w w' := by
  have hD := Hold.start w
  have HL := Lib.hid hl
  clear hl
  go_enter Tryd.func12, Tryd.ntmps12
  go_upto_region 2 with fail
  have hm : Hold w (w.alloc (.cells #[] 62)) [rLv 62 (.slice (some ⟨w.heap.size, 0, none⟩) 0 0) []] := hD.madeZ 62 2
  clear hD
  have hD := hm
  clear hm
  generalize w.heap.size = g at *
  generalize w.alloc _ = w0 at *
  go_wp2_with fail
  go_loopw [3, 4] (fun v3 v4 wr => ∃ (k : Nat) (q2 : Option Addr) (cap2 : Nat), k ≤ l.length ∧ v3 = .slice q2 k cap2 ∧ v4 = .int .i64 k ∧ Hold w wr [ownZ 62 2 (.slice q2 k cap2) k (cellsL (l.take k))]) (fun _ v _ => l.length - (intOf v).toNat)
  case atStart => exact ⟨0, _, _, by omega, rfl, rfl, hD⟩
  case round =>
  clear hD
  obtain ⟨k, q2, cap2, hk, rfl, rfl, hD⟩ := hrel
  obtain ⟨inf, hi0', hz0, hz1, hz2⟩ := infoLeaf2
  by_cases hlt : k < l.length
  · have i0 : (k : Int) < (l.length : Int) := by omega
    have i3 : (0 : Int) ≤ (k : Int) := by omega
    obtain ⟨g0, o0, rfl, e0, e1⟩ := (HL.out.up hD.up) k hlt
    have HC := Lib.hid (show cellsL (l.take k) ++ [.int .i64 l[k].1, .int .i64 l[k].2] = cellsL (l.take (k + 1)) by rw [List.take_succ_eq_append_getElem hlt, cellsL_append]; rfl)
    generalize l[k].1 = P at *
    generalize l[k].2 = Q at *
    go_upto_region 5 with fail
    refine wp_region_tail 13 (by kernel_rfl) (by kernel_rfl) (by kernel_rfl) (by kernel_rfl) ?_
    refine wpHeadS_quiet 0 12 1 27 (by rfl) (by kernel_rfl) (fun _ _ _ _ _ h => h) (by kernel_rfl) (by kernel_rfl) ?_
    apply Exists.intro
    refine ⟨fun w1 hw1 => ?_, ?_⟩
    · have l_q0 := Later.of_base e0 hw1
      have l_q1 := Later.of_base e1 hw1
      have hne := later_ne w1
      simp only [List.drop_zero, List.take_succ_cons, List.take_zero]
      repeat (go_big_quiet_step (fail))
      exact wpQuiet_nil rfl
    clear e0 e1
    refine wpHeadS_one 12 0 (by rfl) (by kernel_rfl) (by kernel_rfl) ?_
    intro w1 hw1
    simp only [List.drop_succ_cons, List.drop_zero, List.take_succ_cons, List.take_zero]
    go_wp2_with fail
    refine ⟨(Up.refl w1).alloc _, ?_⟩
    have hm : Hold w (w1.alloc (.cells #[.int .i64 P, .int .i64 Q] 62)) [ownZ 62 2 (.slice q2 k cap2) k (cellsL (l.take k)), rowR w1.heap.size (.int .i64 P) [.int .i64 Q]] := (hD.next hw1).madeRow (.int .i64 P) [.int .i64 Q] 62
    clear hD
    have hD := hm
    clear hm
    generalize w1.heap.size = g6 at *
    generalize w1.alloc (.cells #[.int .i64 P, .int .i64 Q] 62) = w2 at *
    refine wpHeadS_tail (by rfl) (by kernel_rfl) ?_
    intro w4' hw4
    replace hD := hD.next hw4
    have r7 : RowAt w4' g6 [.int .i64 P, .int .i64 Q] := hD.get 1 rfl
    simp only [List.drop_succ_cons, List.drop_zero]
    have kb : k + 1 ≤ 1024 := by omega
    go_wp2_with (at_builtin; refine wpList_appendZ rfl _ _ 33 rfl 62 inf (.agg #[.int .i64 0, .int .i64 0]) 2 16 (by kernel_rfl) hi0' hz0 hz1 hz2 rfl (by decide) hD 0 _ (cellsL (l.take k)) k rfl rfl ⟨g6, 0, none⟩ 1 [.int .i64 P, .int .i64 Q] rfl rfl r7.addsAt (fun x hx => by simp at hx; rcases hx with rfl | rfl <;> rfl) (by unfold maxLen; omega) (by omega) ?_; intro b5 c5 w6 hw)
    rw [HC.out] at hw
    exact ⟨⟨k + 1, _, _, by omega, rfl, by go_num, hw.sub (List.sublist_append_left [_] [_])⟩, by simp [intOf]; omega⟩
  · obtain rfl : k = l.length := by omega
    have i0 : ¬ ((l.length : Int) < (l.length : Int)) := by omega
    rw [List.take_length] at hD
    have HR := Lib.hid (show LeavesAt wr q2 l ∧ Up w wr from ⟨by
      obtain ⟨q', cap', e, hl⟩ := leaves_at (e := 62) (l := l) (hD.get 0 rfl)
      obtain ⟨rfl, -, -⟩ : q2 = q' ∧ l.length = l.length ∧ cap2 = cap' := by injection e with e1 e2 e3; exact ⟨e1, e2, e3⟩
      exact hl, hD.up⟩)
    clear hD hlt
    go_wp2_with fail
    go_ret
    exact ⟨_, ⟨_, rfl⟩, HR.out.1, HR.out.2⟩
end Go.Proofs.YthhbndepiofmeaaDoor
