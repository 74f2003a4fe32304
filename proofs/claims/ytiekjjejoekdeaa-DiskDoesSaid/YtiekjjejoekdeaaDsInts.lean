import Derived.Test.YtiekjjejoekdeaaDsDirty
namespace Go.Proofs.Ytiekjjejoekdeaa
open Go.RowKit Bw Go.Maps
set_option linter.unusedVariables false

set_option maxHeartbeats 1000000 in
theorem ref2_Ints (L M : List Int) (qa qb : Option Addr) (ca cb : Nat) (w : World) (ha : IntsAt w qa L) (hb : IntsAt w qb M) (hL : L.length ≤ 1099511627776) :
    Calls Try.prog 16 #[.slice qa L.length ca, .slice qb M.length cb] w fun e w' => e = .returned (.bool (decide (L = M))) ∧ Below w.heap.size w w' := by
  by_cases hlen : L.length = M.length
  · rw [← hlen]
    have hu0 := Up.refl w
    go_enter Try.func16, Try.ntmps16
    go_wp2_with fail
    go_loopw [5] (fun v5 wr => ∃ k : Nat, k ≤ L.length ∧ v5 = .int .i64 k ∧ L.take k = M.take k ∧ Up w wr) (fun v _ => L.length - (intOf v).toNat)
    case atStart => exact ⟨0, by omega, rfl, rfl, hu0⟩
    case round =>
      clear hu0
      obtain ⟨k, hk, rfl, hT, hu⟩ := hrel
      by_cases hlt : k < L.length
      · have j0 : (0 : Int) ≤ (k : Int) := by omega
        have j1 : (k : Int) < (L.length : Int) := by omega
        have hlt2 : k < M.length := by omega
        obtain ⟨ga, oa, rfl, a1⟩ := (ha.up hu) k hlt
        obtain ⟨gb, ob, rfl, b1⟩ := (hb.up hu) k hlt2
        by_cases he : L[k] = M[k]
        · have hT2 : L.take (k + 1) = M.take (k + 1) := by rw [List.take_succ_eq_append_getElem hlt, List.take_succ_eq_append_getElem hlt2, hT, he]
          have heb : (L[k] != M[k]) = false := by rw [he]; simp
          have HT := Lib.hid hT2; clear hT hT2 he hlen
          generalize L[k] = x at *
          generalize M[k] = y at *
          go_upto_region 6 with fail
          refine wp_region_later (by kernel_rfl) (by kernel_rfl) ?_
          have l1 := Later.cell_of a1; have l2 := Later.cell_of b1
          have hne := later_ne wr
          repeat (go_big_quiet_step (fail))
          refine wpQuiet_nil ?_
          intro w9 hw9
          obtain ⟨u9, rfl⟩ := hw9
          replace hu := hu.trans u9.up
          clear l1 l2 a1 b1 hne
          generalize u9.world = w9 at *
          go_wp2_with fail
          exact ⟨⟨k + 1, by omega, by go_num, HT.out, hu⟩, by simp [intOf]; omega⟩
        · have hne' : ¬ L = M := fun e => he (by subst e; rfl)
          have hdec := Lib.hid (decide_eq_false hne')
          have heb : (L[k] == M[k]) = false := beq_eq_false_iff_ne.2 he
          clear hT he hlen hne'
          generalize L[k] = x at *
          generalize M[k] = y at *
          go_upto_region 6 with fail
          refine wp_region_later (by kernel_rfl) (by kernel_rfl) ?_
          have l1 := Later.cell_of a1; have l2 := Later.cell_of b1
          have hne := later_ne wr
          repeat (go_big_quiet_step (fail))
          refine wpQuiet_nil ?_
          intro w9 hw9
          obtain ⟨u9, rfl⟩ := hw9
          replace hu := hu.trans u9.up
          clear l1 l2 a1 b1 hne
          generalize u9.world = w9 at *
          go_wp2_with fail
          go_ret
          exact ⟨by rw [hdec.out]; rfl, hu⟩
      · have j1 : ¬ (k : Int) < (L.length : Int) := by omega
        have hLM : L = M := by
          rw [List.take_of_length_le (by omega), List.take_of_length_le (by omega)] at hT
          exact hT
        have hdec := Lib.hid (decide_eq_true hLM)
        clear hT hLM hlt hlen
        go_wp2_with fail
        go_ret
        exact ⟨by rw [hdec.out]; rfl, hu⟩
  · have hne : ¬ L = M := fun e => hlen (by rw [e])
    rw [decide_eq_false hne]
    have hb1 : (((L.length : Nat) : Int) != ((M.length : Nat) : Int)) = true := bne_iff_ne.2 (by omega)
    clear ha hb hlen hne
    go_enter Try.func16, Try.ntmps16
    go_wp2_with fail
    go_ret
    exact ⟨rfl, Below.refl _ _⟩
end Go.Proofs.Ytiekjjejoekdeaa
