import Derived.Test.YtijbfacfloljoaaSumFixed
namespace Go.Proofs.Ytijbfacfloljoaa
open Go.RowKit Bw
set_option linter.unusedVariables false

theorem torn_lst (p q : ByteArray) (hp : p.size = 256) (hq : q.size = 256) : lst (tornS p q) = (lst p).take 128 ++ (lst q).drop 128 ∧ (tornS p q).size = 256 := by
  have h1 : lst (tornS p q) = (lst p).take 128 ++ (lst q).drop 128 := by
    rw [tornS, lst_append, extract_lst, extract_lst, hp, hq, show min 128 256 = 128 from rfl, List.drop_zero, Nat.sub_zero]
    rw [List.take_of_length_le (l := (lst q).drop 128) (by rw [List.length_drop, lst_length, hq]; omega)]
  refine ⟨h1, ?_⟩
  rw [← lst_length, h1, List.length_append, List.length_take, List.length_drop, lst_length, lst_length]; omega

theorem torn_facts (p q : ByteArray) (hp : p.size = 256) (hq : q.size = 256) :
    tornS p p = p ∧ tornS p (tornS p q) = tornS p q ∧ tornS (tornS p q) q = tornS p q ∧ (tornS p q).extract 0 128 = p.extract 0 128 ∧ (tornS p q).extract 128 256 = q.extract 128 256 ∧ (p.extract 0 128 = q.extract 0 128 → tornS p q = q) := by
  obtain ⟨h1, h2⟩ := torn_lst p q hp hq
  have lp : (lst p).length = 256 := by rw [lst_length, hp]
  have lq : (lst q).length = 256 := by rw [lst_length, hq]
  have a1 : ((lst p).take 128 ++ (lst q).drop 128).take 128 = (lst p).take 128 := by
    rw [List.take_append_of_le_length (by rw [List.length_take]; omega), List.take_take, Nat.min_self]
  have a2 : ((lst p).take 128 ++ (lst q).drop 128).drop 128 = (lst q).drop 128 := by
    rw [List.drop_append_of_le_length (by rw [List.length_take]; omega), List.drop_eq_nil_of_le (by rw [List.length_take]; omega), List.nil_append]
  refine ⟨?_, ?_, ?_, ?_, ?_, ?_⟩
  · apply lst_inj; rw [(torn_lst p p hp hp).1, List.take_append_drop]
  · apply lst_inj; rw [(torn_lst p _ hp h2).1, h1, a2]
  · apply lst_inj; rw [(torn_lst _ q h2 hq).1, h1, a1]
  · apply lst_inj; rw [extract_lst, extract_lst, h1, List.drop_zero, List.drop_zero, Nat.sub_zero, a1]
  · apply lst_inj; rw [extract_lst, extract_lst, h1, a2]
  · intro h
    have := congrArg lst h
    rw [extract_lst, extract_lst, List.drop_zero, List.drop_zero, Nat.sub_zero] at this
    apply lst_inj; rw [h1, this, List.take_append_drop]

set_option maxHeartbeats 4000000 in
set_option maxRecDepth 100000 in
theorem torn_law (s : ByteArray) (hs : s.size ≤ maxLen) (t : ByteArray) (ht : t.size ≤ maxLen) (w : World) :
    Calls Try.prog 6 #[.string s, .string t] w fun e w' => e = .returned (.bool true) ∧ Below w.heap.size w w' := by
  unfold maxLen at hs ht
  have hu := Up.refl w
  have cs := fun (x : ByteArray) (h : x.size ≤ 252) w => sum_Seal x w (by omega)
  have CS := Lib.hid cs; clear cs
  have C9 := Lib.hid law2_fixed
  go_enter Try.func6, Try.ntmps6
  go_upto_region 1 with fail
  go_cut [5, 6] (fun v e wx => ∃ p : ByteArray, p.size = 256 ∧ v = .string p ∧ e = .int .i64 0 ∧ Up w wx)
  case first =>
    go_wp2_with fail
    · have hz : (s.extract 0 252).size ≤ 252 := by simp; omega
      have c := CS.out (s.extract 0 252) hz
      rw [show sealE (s.extract 0 252) = 0 by simp only [sealE]; rw [if_neg (by omega)]] at c
      have C := Lib.hid c; clear c
      go_wp2_with (with_reducible refine (C.out _).mono ?_; rintro e w1 ⟨rfl, hw1⟩; replace hu := hu.next hw1; clear hw1)
      go_meet
      exact ⟨_, sealS_size hz, rfl, rfl, hu⟩
    · have hz : s.size ≤ 252 := by omega
      have c := CS.out s hz
      rw [show sealE s = 0 by simp only [sealE]; rw [if_neg (by omega)]] at c
      have C := Lib.hid c; clear c
      go_wp2_with (with_reducible refine (C.out _).mono ?_; rintro e w1 ⟨rfl, hw1⟩; replace hu := hu.next hw1; clear hw1)
      go_meet
      exact ⟨_, sealS_size hz, rfl, rfl, hu⟩
  case rest =>
    obtain ⟨p, hp, rfl, rfl, huc⟩ := hcut
    clear hs hu
    go_upto_region 2 with fail
    go_cut [7, 8] (fun v e wx => ∃ q : ByteArray, q.size = 256 ∧ v = .string q ∧ e = .int .i64 0 ∧ Up w wx)
    case first =>
      clear hp
      go_wp2_with fail
      · have hz : (t.extract 0 252).size ≤ 252 := by simp; omega
        have c := CS.out (t.extract 0 252) hz
        rw [show sealE (t.extract 0 252) = 0 by simp only [sealE]; rw [if_neg (by omega)]] at c
        have C := Lib.hid c; clear c
        go_wp2_with (with_reducible refine (C.out _).mono ?_; rintro e w1 ⟨rfl, hw1⟩; replace huc := huc.next hw1; clear hw1)
        go_meet
        exact ⟨_, sealS_size hz, rfl, rfl, huc⟩
      · have hz : t.size ≤ 252 := by omega
        have c := CS.out t hz
        rw [show sealE t = 0 by simp only [sealE]; rw [if_neg (by omega)]] at c
        have C := Lib.hid c; clear c
        go_wp2_with (with_reducible refine (C.out _).mono ?_; rintro e w1 ⟨rfl, hw1⟩; replace huc := huc.next hw1; clear hw1)
        go_meet
        exact ⟨_, sealS_size hz, rfl, rfl, huc⟩
    case rest =>
      clear huc
      obtain ⟨q, hq, rfl, rfl, hu⟩ := hcut
      clear ht
      obtain ⟨e1, e2, e3, e4, e5, e6⟩ := torn_facts p q hp hq
      have hX := (torn_lst p q hp hq).2
      have c1 := fun w => sum_Torn p q w (by omega) (by omega)
      have c2 := fun w => sum_Torn p p w (by omega) (by omega)
      have c3 := fun w => sum_Torn p (tornS p q) w (by omega) (by omega)
      have c4 := fun w => sum_Torn (tornS p q) q w (by omega) (by omega)
      have c5 := fun w => sum_Open (tornS p q) w (by omega)
      rw [e1] at c2
      rw [e2] at c3
      rw [e3] at c4
      have hO : openE (tornS p q) = 0 ∨ openE (tornS p q) = 5 := by
        rw [openE, if_pos hX]; split <;> simp
      clear e1 e2 e3
      generalize openE (tornS p q) = E at *
      generalize openS (tornS p q) = O at *
      generalize tornS p q = X at *
      have C1 := Lib.hid c1; clear c1
      have C2 := Lib.hid c2; clear c2
      have C3 := Lib.hid c3; clear c3
      have C4 := Lib.hid c4; clear c4
      have C5 := Lib.hid c5; clear c5
      have H6 := Lib.hid e6; clear e6
      have HO := Lib.hid hO; clear hO
      go_wp2_with (first
        | (with_reducible refine (C1.out _).mono ?_; rintro e w1 ⟨rfl, hw1⟩; replace hu := hu.next hw1; clear hw1))
      have hne := later_ne w1
      refine wp_region_later (by kernel_rfl) (by kernel_rfl) ?_
      repeat (go_big_quiet_step ((go_at_call 15; (first | (with_reducible exact Calls.later (C2.out _)) | (with_reducible exact Calls.later (C3.out _)) | (with_reducible exact Calls.later (C4.out _))))))
      refine wpQuiet_nil ?_
      intro w9 hw9
      obtain ⟨u9, rfl⟩ := hw9
      clear hne
      replace hu := hu.trans u9.up
      generalize u9.world = w9 at *
      rcases HO.out with hE | hE
      all_goals
        subst hE
        by_cases hpq : p.extract 0 128 = q.extract 0 128
        case' pos =>
          have hXq := H6.out hpq
          subst hXq
          have hb : ((p.extract 0 128).toList == (X.extract 0 128).toList) = true := by rw [hpq]; simp
          clear hpq
        case' neg =>
          have hb : ((p.extract 0 128).toList == (q.extract 0 128).toList) = false := by
            simp only [toList_lst, beq_eq_false_iff_ne, ne_eq]; exact fun h => hpq (lst_inj h)
          clear hpq
      all_goals
        go_wp2_with (first
          | (with_reducible refine (C5.out _).mono ?_; rintro e w2 ⟨rfl, hw1⟩; replace hu := hu.next hw1; clear hw1))
        have hne := later_ne w2
        refine wp_region_later (by kernel_rfl) (by kernel_rfl) ?_
        repeat (go_big_quiet_step ((go_at_call 17; exact Calls.later (C9.out _))))
        refine wpQuiet_nil ?_
        intro w8 hw8
        obtain ⟨u8, rfl⟩ := hw8
        clear hne
        replace hu := hu.trans u8.up
        generalize u8.world = w8 at *
        go_wp2_with fail
        go_ret
        exact ⟨rfl, hu⟩
end Go.Proofs.Ytijbfacfloljoaa
