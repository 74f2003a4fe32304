/- Layer 24, the document's side: Decode. -/
import Derived.Test.YtkkgcmnipdkeeaaDoorScRef8
import Derived.Test.YtkkgcmnipdkeeaaDoorScRef5
import Derived.Test.YtkkgcmnipdkeeaaDoorScItems
namespace Bw
theorem guessA_len (s : ByteArray) (i : Nat) : (guessA s i).f.length ≤ 255 := by
  have key : ∀ (b : Bool) (p : Nat), (ifR b [] (gFates s) p).1.length ≤ 255 := by
    intro b p
    cases b
    · show ([] : List Int).length ≤ 255; simp
    · show (gOnes s (getV s p 1).toNat (p + 1)).1.length ≤ 255
      rw [gOnes_len]
      have := getV1_le s p
      omega
  exact key _ _
theorem enc_size {a : ActD} (h : a.right = true) : a.enc.size = a.encL.length := by rw [ActD.enc, if_pos h, size_str]
/-- What the document asks of its guess: just that an act is read there. -/
theorem guess_fits {s : ByteArray} {i : Nat} (hi : i < s.size) :
    (∃ t, rAct1 ((lst s).drop i) = some (guessA s i, t) ∧ (guessA s i).right = true ∧ (guessA s i).enc.size = (guessA s i).encL.length ∧ 1 ≤ (guessA s i).enc.size ∧ i + (guessA s i).enc.size ≤ s.size ∧ s.extract i (i + (guessA s i).enc.size) = (guessA s i).enc) ∨
    (rAct1 ((lst s).drop i) = none ∧ ((guessA s i).enc.size = 0 ∨ (1 ≤ (guessA s i).enc.size ∧ s.size < i + (guessA s i).enc.size) ∨ (1 ≤ (guessA s i).enc.size ∧ i + (guessA s i).enc.size ≤ s.size ∧ s.extract i (i + (guessA s i).enc.size) ≠ (guessA s i).enc))) := by
  cases h : rAct1 ((lst s).drop i) with
  | some x =>
    obtain ⟨a, t⟩ := x
    left
    have hg := guess_some hi h
    rw [hg]
    obtain ⟨-, h5, h6, h7⟩ := actZ_some hi h
    have hz := enc_size h5
    have h1 := (rAct1_inv h).1
    refine ⟨t, rfl, h5, hz, by rw [hz]; exact encL_len a, by omega, ?_⟩
    rw [hz, ActD.enc, if_pos h5]
    have e : s.extract i (i + a.encL.length) = str (((lst s).drop i).take a.encL.length) := by
      rw [← str_lst (s.extract i (i + a.encL.length)), extract_lst]
      congr 2
      omega
    rw [e, h1, List.take_left']
    rfl
  | none =>
    right
    refine ⟨rfl, ?_⟩
    generalize guessA s i = a
    cases hr : a.right
    · left; rw [ActD.enc, hr]; rfl
    · have hz := enc_size hr
      have h1 := encL_len a
      right
      by_cases hf : i + a.enc.size ≤ s.size
      · refine .inr ⟨by omega, hf, fun he => ?_⟩
        rw [hz] at he
        have e : s.extract i (i + a.encL.length) = str (((lst s).drop i).take a.encL.length) := by
          rw [← str_lst (s.extract i (i + a.encL.length)), extract_lst]
          congr 2
          omega
        rw [e, ActD.enc, if_pos hr] at he
        have h2 := congrArg lst he
        rw [lst_str, lst_str] at h2
        refine none_at h hr (((lst s).drop i).drop a.encL.length) ?_
        conv => lhs; rw [← List.take_append_drop a.encL.length ((lst s).drop i), h2]
      · exact .inl ⟨by omega, by omega⟩
end Bw
namespace Go.Proofs.YtkkgcmnipdkeeaaDoor
open Go.RowKit Bw
set_option linter.unusedVariables false
theorem infoAct2 : ∃ i, Tryd.prog.info? 28 = some i ∧ i.zero = some (.agg #[.int .i64 0, .int .i64 0, .string ⟨#[]⟩, .string ⟨#[]⟩, .int .i64 0, .slice none 0 0]) ∧ i.size = 6 ∧ i.bytes = 80 := by
  refine ⟨_, rfl, ?_, ?_, ?_⟩ <;> kernel_rfl
theorem hold_none2 {W w : World} {l : List Res} {e : TypeId} (h : Hold W w l) : Hold W w [ownZ e 6 (.slice none ([] : List ActI).length 0) ([] : List ActI).length (actsC []), fatesM []] :=
  ((h.sub (List.nil_sublist l)).nilZ e 6).fates0
theorem str_none (B : ByteArray) : (B.toList == ByteArray.toList ⟨#[]⟩) = decide (B.size = 0) := by
  rw [show (B.toList == ByteArray.toList ⟨#[]⟩) = decide (B = ByteArray.empty) from str_eqB B ByteArray.empty]
  congr 1
  refine propext ⟨fun h => by rw [h]; rfl, fun h => ByteArray.size_eq_zero_iff.1 h⟩
theorem str_some {B : ByteArray} (h : 1 ≤ B.size) : B.toList.isEmpty = false ∧ ¬ B.toList = [] := by
  have h2 : ¬ B.toList = [] := fun e => by
    have h3 : (B.toList == ByteArray.toList ⟨#[]⟩) = true := by rw [e]; simp
    rw [str_none] at h3
    have := of_decide_eq_true h3
    omega
  refine ⟨?_, h2⟩
  cases h3 : B.toList with
  | nil => exact absurd h3 h2
  | cons a l => rfl
/-- What the document's guess is good for, at a place. -/
inductive Look (s : ByteArray) (I : List ActI) (i : Nat) (Z : ActD) (B : ByteArray) : Prop where
  | none (h : B.size = 0) (hb : ∀ bs, actsO s = some bs → 400 < bs.length)
  | long (h : 1 ≤ B.size) (h2 : s.size < i + B.size) (hb : ∀ bs, actsO s = some bs → 400 < bs.length)
  | other (h : 1 ≤ B.size) (h2 : i + B.size ≤ s.size) (h3 : (ByteArray.toList (s.extract i (i + B.size)) == B.toList) = false) (hb : ∀ bs, actsO s = some bs → 400 < bs.length)
  | many (h : 1 ≤ B.size) (h2 : i + B.size ≤ s.size) (h3 : (ByteArray.toList (s.extract i (i + B.size)) == B.toList) = true) (h4 : I.length = 400) (hb : ∀ bs, actsO s = some bs → 400 < bs.length)
  | good (h : 1 ≤ B.size) (h2 : i + B.size ≤ s.size) (h3 : (ByteArray.toList (s.extract i (i + B.size)) == B.toList) = true) (h4 : I.length < 400) (hs : Sofar s (I.map (·.1) ++ [Z]) (i + B.size))
theorem look {s : ByteArray} {I : List ActI} {i : Nat} (hi : i < s.size) (hs : Sofar s (I.map (·.1)) i) (hl : I.length ≤ 400) : Look s I i (guessA s i) (guessA s i).enc := by
  have hl' : (I.map (·.1)).length = I.length := List.length_map _
  rcases guess_fits hi with ⟨t, h1, h2, h3, h4, h5, h6⟩ | ⟨h1, h2⟩
  · have e : (ByteArray.toList (s.extract i (i + (guessA s i).enc.size)) == (guessA s i).enc.toList) = true := by rw [h6]; simp
    by_cases hm : I.length = 400
    · exact .many h4 h5 e hm (hs.many hi (by omega))
    · refine .good h4 h5 e (by omega) ?_
      rw [h3]
      exact hs.step hi h1
  · have hb : ∀ bs, actsO s = some bs → 400 < bs.length := fun bs ha => by rw [hs.bad hi h1] at ha; cases ha
    rcases h2 with h2 | ⟨h2, h3⟩ | ⟨h2, h3, h4⟩
    · exact .none h2 hb
    · exact .long h2 h3 hb
    · refine .other h2 h3 ?_ hb
      rw [show (ByteArray.toList (s.extract i (i + (guessA s i).enc.size)) == (guessA s i).enc.toList) = decide (s.extract i (i + (guessA s i).enc.size) = (guessA s i).enc) from str_eqB _ _]
      exact decide_eq_false h4
set_option maxHeartbeats 4000000 in
set_option maxRecDepth 100000 in
theorem ref24_Decode (s : ByteArray) (hs : s.size ≤ 1000000) (w : World) :
    Calls Tryd.prog 20 #[.string s] w fun e w' => ∃ (q : Option Addr) (c : Nat) (I : List ActI), I.map (·.1) = actsD s ∧ e = .returned (.tuple #[.slice q I.length c, .int .i64 (actsE s)]) ∧ Hold w w' [ownZ 28 6 (.slice q I.length c) I.length (actsC I), fatesM I] := by
  go_enter Tryd.func20, Tryd.ntmps20
  obtain ⟨inf, hi0', hz0, hz1, hz2⟩ := infoAct2
  have hi3 : (s.size : Int) ≤ 1000000 := by omega
  have hD : Hold w (w.alloc (.cells #[] 28)) [ownZ 28 6 (.slice (some ⟨w.heap.size, 0, none⟩) (([] : List ActI)).length 0) (([] : List ActI)).length (actsC (([] : List ActI))), fatesM (([] : List ActI))] := ((Hold.start w).madeZ 28 6).fates0
  go_wp2_with fail
  go_loopw [4, 5] (fun v4 v5 wr => ∃ (q : Option Addr) (c : Nat) (I : List ActI) (i : Nat), v4 = .slice q I.length c ∧ v5 = .int .i64 i ∧ Hold w wr [ownZ 28 6 (.slice (q) (I).length c) (I).length (actsC (I)), fatesM (I)] ∧ Sofar s (I.map (·.1)) i ∧ I.length ≤ 400) (fun _ v _ => s.size - (intOf v).toNat)
  case atStart => exact ⟨_, 0, [], 0, rfl, rfl, hD, Sofar.start s, by simp⟩
  case round =>
  clear hD
  obtain ⟨q, c, I, i, rfl, rfl, hD, hsf, hI4⟩ := hrel
  have hle := hsf.le
  have i0 : (0 : Int) ≤ (i : Int) := by omega
  have i4 : (I.length : Int) ≤ 400 := by omega
  by_cases hlt : i < s.size
  · have b1 : (i : Int) < (s.size : Int) := by omega
    have HL := Lib.hid (look hlt hsf hI4)
    have CG := Lib.hid (fun w => ref24_guess s hs i hle w)
    have hzl := guessA_len s i
    have CE := Lib.hid (fun w q c h => ref24_Encode (guessA s i) (by omega) q c w h)
    generalize guessA s i = Z at *
    clear hsf
    obtain ⟨B, hB⟩ : ∃ B, Z.enc = B := ⟨_, rfl⟩
    rw [hB] at HL CE
    clear hB
    obtain ⟨zk, zt, zkey, zval, zn, zf⟩ := Z
    simp only [actV] at CG CE
    simp only at hzl
    go_upto_region 4 with ((with_reducible refine (CG.out _).mono ?_); rintro e wn ⟨q1, c1, rfl, hw⟩; replace hD := Hold.fates2 (c := c1) (hD.add hw.up (intsR q1 (ActD.mk zk zt zkey zval zn zf).f) (hw.get 0 rfl) (hw.new 0 rfl)))
    clear hw
    replace hD := hD.madeRow (.int .i64 zk) [.int .i64 zt, .string zkey, .string zval, .int .i64 zn, .slice q1 zf.length c1] 28
    generalize wn.heap.size = ga at *
    generalize wn.alloc _ = w1 at *
    replace hD : Hold w w1 [ownZ 28 6 (.slice q I.length c) I.length (actsC I), fatesM (I ++ [((ActD.mk zk zt zkey zval zn zf), q1, c1)]), rowR ga (.int .i64 zk) [.int .i64 zt, .string zkey, .string zval, .int .i64 zn, .slice q1 zf.length c1]] := hD
    obtain ⟨⟨a0, a1, a2, a3, a4, a5⟩, -⟩ := RowAt.c6 (hD.get 2 rfl)
    have hIA : IntsAt w1 q1 zf := ((hD.get 1 rfl) ((ActD.mk zk zt zkey zval zn zf), q1, c1) (by simp)).1
    have HIA := Lib.hid hIA
    clear hIA
    go_upto_region 5 with ((with_reducible refine (CE.out _ q1 c1 HIA.out).mono ?_); rintro e wm ⟨rfl, hw⟩; replace hD := hD.next hw; clear hw HIA a0 a1 a2 a3 a4 a5)
    obtain ⟨⟨a0, a1, a2, a3, a4, a5⟩, -⟩ := RowAt.c6 (hD.get 2 rfl)
    clear CG CE
    have HQ := HL.out
    clear HL
    have hsub : IntKind.i64.wrap ((s.size : Int) - (i : Int)) = ((s.size - i : Nat) : Int) := by rw [IntKind.wrap_i64]; omega
    obtain ⟨r, hr⟩ : ∃ r, s.size - i = r := ⟨_, rfl⟩
    rw [hr] at hsub
    have HB : ∀ (hb : ∀ bs, actsO s = some bs → 400 < bs.length) (w9 : World) (h : Hold w w9 [ownZ 28 6 (.slice none ([] : List ActI).length 0) ([] : List ActI).length (actsC []), fatesM []]), ∃ (q : Option Addr) (c : Nat) (I : List ActI), I.map (·.1) = actsD s ∧ Ending.returned (Value.tuple #[.slice none 0 0, .int .i64 12]) = .returned (.tuple #[.slice q I.length c, .int .i64 (actsE s)]) ∧ Hold w w9 [ownZ 28 6 (.slice q I.length c) I.length (actsC I), fatesM I] := by
      intro hb w9 h
      obtain ⟨h1, h2⟩ := acts_bad hb
      exact ⟨none, 0, [], h2.symm, by rw [h1]; rfl, h⟩
    replace HB := Lib.hid HB
    have bb := str_none B
    rcases HQ with ⟨h, hb⟩ | ⟨h, h2, hb⟩ | ⟨h, h2, h3, hb⟩ | ⟨h, h2, h3, h4, hb⟩ | ⟨h, h2, h3, h4, hs2⟩
    · have hBe : B = ⟨#[]⟩ := ByteArray.size_eq_zero_iff.1 h
      subst hBe
      replace hb := Lib.hid hb
      clear bb h
      go_wp2_with fail
      go_ret2
      exact HB.out hb.out _ (hold_none2 hD)
    · obtain ⟨e1, e2⟩ := str_some h
      replace hb := Lib.hid hb
      have x1 : r < B.size := by omega
      clear bb h h2
      go_wp2_with fail
      go_ret2
      exact HB.out hb.out _ (hold_none2 hD)
    · obtain ⟨e1, e2⟩ := str_some h
      replace hb := Lib.hid hb
      have x1 : ¬ r < B.size := by omega
      have x2 : ¬ (s.extract i (i + B.size)).toList = B.toList := by simpa using h3
      clear bb h
      go_wp2_with fail
      go_ret2
      exact HB.out hb.out _ (hold_none2 hD)
    · obtain ⟨e1, e2⟩ := str_some h
      replace hb := Lib.hid hb
      have x1 : ¬ r < B.size := by omega
      have x2 : (s.extract i (i + B.size)).toList = B.toList := by simpa using h3
      have x4 : ((I.length : Int) == 400) = true := by simp; omega
      clear bb h h4
      go_wp2_with fail
      go_ret2
      exact HB.out hb.out _ (hold_none2 hD)
    · obtain ⟨e1, e2⟩ := str_some h
      replace hs2 := Lib.hid hs2
      have x1 : ¬ r < B.size := by omega
      have x2 : (s.extract i (i + B.size)).toList = B.toList := by simpa using h3
      have x4 : ((I.length : Int) == 400) = false := by simp; omega
      have x5 : 1 ≤ B.size := h
      clear bb
      go_wp2_with ((with_reducible refine wpList_at 48 ?_); have hF := hD.madeRow (.int .i64 zk) [.int .i64 zt, .string zkey, .string zval, .int .i64 zn, .slice q1 zf.length c1] 28; have r7 := RowAt.addsAt (hF.get 3 rfl); refine wpList_appendZ rfl _ _ 39 rfl 28 inf _ 6 80 (by kernel_rfl) hi0' hz0 hz1 hz2 rfl (by decide) hF 0 _ (actsC I) I.length rfl rfl ⟨wm.heap.size, 0, none⟩ 1 _ rfl rfl r7 (actsC_one [((ActD.mk zk zt zkey zval zn zf), q1, c1)]) (by unfold maxLen; omega) (by omega) ?_; clear r7 hF hD; intro b9 c9 w6 hD)
      have hlq : (I ++ [((ActD.mk zk zt zkey zval zn zf), q1, c1)]).length = I.length + 1 := by simp
      refine ⟨⟨some ⟨b9, 0, none⟩, c9, I ++ [((ActD.mk zk zt zkey zval zn zf), q1, c1)], i + B.size, ?_, ?_, ?_, ?_, ?_⟩, ?_⟩
      · rw [hlq]
      · go_num
      · rw [hlq, actsC_append]
        exact hD.sub (l' := [ownZ 28 6 (.slice (some ⟨b9, 0, none⟩) (I.length + 1) c9) (I.length + 1) (actsC I ++ actsC [((ActD.mk zk zt zkey zval zn zf), q1, c1)]), fatesM (I ++ [((ActD.mk zk zt zkey zval zn zf), q1, c1)])]) (List.sublist_append_left [_, _] [_, _])
      · rw [List.map_append]
        exact hs2.out
      · omega
      · simp only [intOf]; omega
  · have hei : i = s.size := by omega
    subst hei
    have hO := Sofar.done hsf
    obtain ⟨h1, h2⟩ := acts_ok hO (by rw [List.length_map]; exact hI4)
    have hlt' : ¬ ((s.size : Int) < (s.size : Int)) := by omega
    have HK := Lib.hid (And.intro h1 h2)
    clear h1 h2 hO hsf
    go_wp2_with fail
    go_ret2
    exact ⟨q, c, I, HK.out.2.symm, by rw [HK.out.1]; rfl, hD⟩
end Go.Proofs.YtkkgcmnipdkeeaaDoor
