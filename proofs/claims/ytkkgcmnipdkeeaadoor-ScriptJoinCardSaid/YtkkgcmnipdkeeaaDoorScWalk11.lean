/- Layer 24: Decode. -/
import Derived.Test.YtkkgcmnipdkeeaaDoorScWalk10
import Derived.Test.YtkkgcmnipdkeeaaDoorScItems
namespace Go.Proofs.YtkkgcmnipdkeeaaDoor
open Go.RowKit Bw
set_option linter.unusedVariables false
theorem infoAct : ∃ i, Tryd.prog.info? 24 = some i ∧ i.zero = some (.agg #[.int .i64 0, .int .i64 0, .string ⟨#[]⟩, .string ⟨#[]⟩, .int .i64 0, .slice none 0 0]) ∧ i.size = 6 ∧ i.bytes = 80 := by
  refine ⟨_, rfl, ?_, ?_, ?_⟩ <;> kernel_rfl
theorem hold_none {W w : World} {l : List Res} {e : TypeId} (h : Hold W w l) : Hold W w [ownZ e 6 (.slice none ([] : List ActI).length 0) ([] : List ActI).length (actsC []), fatesM []] :=
  ((h.sub (List.nil_sublist l)).nilZ e 6).fates0
set_option maxHeartbeats 4000000 in
set_option maxRecDepth 100000 in
theorem script_Decode (s : ByteArray) (hs : s.size ≤ 1000000) (w : World) :
    Calls Tryd.prog 19 #[.string s] w fun e w' => ∃ (q : Option Addr) (c : Nat) (I : List ActI), I.map (·.1) = actsD s ∧ e = .returned (.tuple #[.slice q I.length c, .int .i64 (actsE s)]) ∧ Hold w w' [ownZ 24 6 (.slice q I.length c) I.length (actsC I), fatesM I] := by
  go_enter Tryd.func19, Tryd.ntmps19
  obtain ⟨inf, hi0', hz0, hz1, hz2⟩ := infoAct
  have hi3 : (s.size : Int) ≤ 1000000 := by omega
  go_upto_region 2 with fail
  have hD := (((Hold.start w).madeRow (.string s) [.int .i64 0, .bool true] 61).nilZ 24 6).fates0
  generalize w.heap.size = g at hD ⊢
  simp only [List.cons_append, List.nil_append] at hD
  generalize w.alloc _ = w0 at *
  replace hD : Hold w w0 [rdR g s ⟨0, true⟩, ownZ 24 6 (.slice none (([] : List ActI)).length 0) (([] : List ActI)).length (actsC (([] : List ActI))), fatesM (([] : List ActI))] := hD
  go_wp2_with fail
  go_loopw [5] (fun v5 wr => ∃ (q : Option Addr) (c : Nat) (I : List ActI) (i : Nat) (ok : Bool), v5 = .slice q I.length c ∧ Hold w wr [rdR g s ⟨i, ok⟩, ownZ 24 6 (.slice q (I).length c) (I).length (actsC (I)), fatesM (I)] ∧ ((ok = true ∧ Sofar s (I.map (·.1)) i) ∨ (ok = false ∧ actsO s = none))) (fun v _ => s.size + 1 - lenOf v)
  case atStart => exact ⟨none, 0, [], 0, true, rfl, hD, .inl ⟨rfl, Sofar.start s⟩⟩
  case round =>
  clear hD
  obtain ⟨q, c, I, i, ok, rfl, hD, hx⟩ := hrel
  rcases hx with ⟨rfl, hsf⟩ | ⟨rfl, hno⟩
  · have hlen := hsf.len
    rw [List.length_map] at hlen
    have hle := hsf.le
    have HSF := Lib.hid hsf
    clear hsf
    by_cases hlt : i < s.size
    · have b1 : (i : Int) < (s.size : Int) := by omega
      have hs9 : s.size ≤ 1000000000 := by omega
      have HC := Lib.hid (fun w1 (h : Hold w w1 [rdR g s ⟨i, true⟩, ownZ 24 6 (.slice q (I).length c) (I).length (actsC (I)), fatesM (I)]) => hold_act h 0 rfl hs9 hlt)
      have HZ := Lib.hid (show (∃ a t, rAct1 ((lst s).drop i) = some (a, t) ∧ actZ s i = (a, ⟨i + a.encL.length, true⟩)) ∨ (rAct1 ((lst s).drop i) = none ∧ (actZ s i).2.ok = false) by
        cases h : rAct1 ((lst s).drop i) with
        | none => exact .inr ⟨rfl, actZ_none hlt h⟩
        | some x => exact .inl ⟨x.1, x.2, rfl, (actZ_some (a := x.1) (t := x.2) hlt h).1⟩)
      generalize actZ s i = Z at *
      obtain ⟨⟨ak, att, akey, aval, an, af⟩, ⟨zi, zok⟩⟩ := Z
      simp only [actV] at HC
      obtain ⟨r0, r1, r2, -⟩ := RowAt.c3 (hD.get 0 rfl)
      go_wp2_with (first
        | ((with_reducible refine (HC.out _ hD).mono ?_); rintro e wn ⟨q1, c1, rfl, hw, hA⟩; clear r0 r1 r2 hA hD; replace hw : Hold w wn [rdR g s ⟨zi, zok⟩, ownZ 24 6 (.slice q I.length c) I.length (actsC I), fatesM I, intsR q1 (ActD.mk ak att akey aval an af).f] := hw; have hD := Hold.fates1 (c := c1) hw; clear hw)
        | ((with_reducible refine wpList_at 26 ?_); have hF := hD.madeRow (.int .i64 ak) [.int .i64 att, .string akey, .string aval, .int .i64 an, .slice q1 af.length c1] 24; have r7 := RowAt.addsAt (hF.get 3 rfl); refine wpList_appendZ rfl _ _ 35 rfl 24 inf _ 6 80 (by kernel_rfl) hi0' hz0 hz1 hz2 rfl (by decide) hF 1 _ (actsC I) I.length rfl rfl ⟨wn.heap.size, 0, none⟩ 1 _ rfl rfl r7 (actsC_one [((ActD.mk ak att akey aval an af), q1, c1)]) (by unfold maxLen; omega) (by omega) ?_; clear r7 hF hD; intro b9 c9 w6 hD))
      have hlq : (I ++ [((ActD.mk ak att akey aval an af), q1, c1)]).length = I.length + 1 := by simp
      refine ⟨⟨some ⟨b9, 0, none⟩, c9, I ++ [((ActD.mk ak att akey aval an af), q1, c1)], zi, zok, ?_, ?_, ?_⟩, ?_⟩
      · rw [hlq]
      · rw [hlq, actsC_append]
        exact hD.sub (l' := [rdR g s ⟨zi, zok⟩, ownZ 24 6 (.slice (some ⟨b9, 0, none⟩) (I.length + 1) c9) (I.length + 1) (actsC I ++ actsC [((ActD.mk ak att akey aval an af), q1, c1)]), fatesM (I ++ [((ActD.mk ak att akey aval an af), q1, c1)])]) (List.sublist_append_left [_, _, _] [_])
      · rcases HZ.out with ⟨a, t, h1, h2⟩ | ⟨h1, h2⟩
        · injection h2 with h2 h3
          injection h3 with h3 h4
          subst h2 h3 h4
          refine .inl ⟨rfl, ?_⟩
          rw [List.map_append]
          exact HSF.out.step hlt h1
        · exact .inr ⟨h2, HSF.out.bad hlt h1⟩
      · simp only [lenOf]; omega
    · have hei : i = s.size := by omega
      subst hei
      have hO := Sofar.done HSF.out
      have hED : (I.length ≤ 400 ∧ actsE s = 0 ∧ actsD s = I.map (·.1)) ∨ (400 < I.length ∧ actsE s = 12 ∧ actsD s = []) := by
        by_cases h : I.length ≤ 400
        · obtain ⟨h1, h2⟩ := acts_ok hO (by rw [List.length_map]; exact h)
          exact .inl ⟨h, h1, h2⟩
        · obtain ⟨h1, h2⟩ := acts_bad (s := s) (fun bs hb => by rw [hO] at hb; injection hb with hb; subst hb; rw [List.length_map]; omega)
          exact .inr ⟨by omega, h1, h2⟩
      have i0 : (I.length : Int) ≤ 1000000 := by omega
      obtain ⟨r0, r1, r2, -⟩ := RowAt.c3 (hD.get 0 rfl)
      have hlt' : ¬ ((s.size : Int) < (s.size : Int)) := by omega
      rcases hED with ⟨k1, k2, k3⟩ | ⟨k1, k2, k3⟩
      · have k4 : ¬ (I.length : Int) > 400 := by omega
        have HK := Lib.hid (And.intro k2 k3)
        clear HSF hlen hle hlt k1 k2 k3 hO
        go_wp2_with fail
        go_ret2
        refine ⟨q, c, I, HK.out.2.symm, by rw [HK.out.1]; rfl, hD.sub (.cons _ (List.Sublist.refl _))⟩
      · have k4 : (I.length : Int) > 400 := by omega
        have HK := Lib.hid (And.intro k2 k3)
        clear HSF hlen hle hlt k1 k2 k3 hO
        go_wp2_with fail
        go_ret2
        refine ⟨none, 0, [], HK.out.2.symm, by rw [HK.out.1]; rfl, hold_none hD⟩
  · have hED := acts_bad (s := s) (fun bs hb => by rw [hno] at hb; cases hb)
    have HK := Lib.hid hED
    obtain ⟨r0, r1, r2, -⟩ := RowAt.c3 (hD.get 0 rfl)
    clear hED hno
    go_wp2_with fail
    go_ret2
    refine ⟨none, 0, [], HK.out.2.symm, by rw [HK.out.1]; rfl, hold_none hD⟩
end Go.Proofs.YtkkgcmnipdkeeaaDoor
