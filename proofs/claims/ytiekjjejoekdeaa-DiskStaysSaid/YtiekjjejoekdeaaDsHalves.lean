import Derived.Test.YtiekjjejoekdeaaDsPure2
import Derived.Test.YtiekjjejoekdeaaDsFrame
import Derived.Test.YtiekjjejoekdeaaRef1Walk4
import Derived.Deep.DeepCutAuto
namespace Bw
open Go Go.RowKit
/-- A slice of texts reads as L. -/
def StrsAt (w : World) (q : Option Addr) (L : List ByteArray) : Prop := ∀ k (hk : k < L.length), ∃ b, q = some ⟨b, 0, none⟩ ∧ w.cell? ⟨b, k, none⟩ = some (.string L[k])
theorem StrsAt.up {w w' : World} {q : Option Addr} {L : List ByteArray} (h : StrsAt w q L) (hu : Up w w') : StrsAt w' q L := fun k hk => by
  obtain ⟨b, e, hc⟩ := h k hk
  exact ⟨b, e, (AllS.of_up (S := fun _ => False) hu).cell hc id⟩
theorem anyFst_step (s : ByteArray) (L : List ByteArray) (k : Nat) (hk : k < L.length) : anyFst s (L.take (k + 1)) = (anyFst s (L.take k) || decide (s.extract 0 128 = L[k].extract 0 128)) := by
  rw [List.take_succ_eq_append_getElem hk, anyFst, anyFst, List.any_append]; simp
theorem anySnd_step (s : ByteArray) (L : List ByteArray) (k : Nat) (hk : k < L.length) : anySnd s (L.take (k + 1)) = (anySnd s (L.take k) || decide (s.extract 128 s.size = L[k].extract 128 L[k].size)) := by
  rw [List.take_succ_eq_append_getElem hk, anySnd, anySnd, List.any_append]; simp
theorem bytes_beq (x y : ByteArray) : (x.toList == y.toList) = decide (x = y) := by
  rw [ByteArray.toList_eq, ByteArray.toList_eq]
  show (lst x == lst y) = _
  by_cases h : x = y
  · subst h; simp
  · rw [decide_eq_false h]
    exact beq_eq_false_iff_ne.2 fun e => h (lst_inj e)
end Bw
namespace Go.Proofs.Ytiekjjejoekdeaa
open Go.RowKit Bw
set_option linter.unusedVariables false
set_option maxHeartbeats 1000000 in
set_option maxRecDepth 100000 in
theorem law4_halves (s : ByteArray) (hs : s.size = 252) (L : List ByteArray) (q : Option Addr) (cap : Nat) (w : World) (hL : StrsAt w q L) (hz : ∀ t ∈ L, t.size = 252) (hl : L.length ≤ 1000) :
    Calls Try.prog 27 #[.string s, .slice q L.length cap] w fun e w' => e = .returned (.bool (halvesB s L)) ∧ Below w.heap.size w w' := by
  have hu := Up.refl w
  have s1 : (128 : Int) ≤ (s.size : Int) := by omega
  have HL := Lib.hid hL
  have HS := Lib.hid hs
  clear hL hs
  go_enter Try.func27, Try.ntmps27
  go_wp2_with fail
  go_loopw [5, 6, 7] (fun v5 v6 v7 wr => ∃ k : Nat, k ≤ L.length ∧ v5 = .bool (anyFst s (L.take k)) ∧ v6 = .bool (anySnd s (L.take k)) ∧ v7 = .int .i64 k ∧ Up w wr) (fun _ _ v _ => L.length - (intOf v).toNat)
  case atStart => exact ⟨0, by omega, rfl, rfl, rfl, hu⟩
  case round =>
  clear hu
  obtain ⟨k, hk, rfl, rfl, rfl, hu⟩ := hrel
  by_cases hlt : k < L.length
  · have j0 : (0 : Int) ≤ (k : Int) := by omega
    have j1 : (k : Int) < (L.length : Int) := by omega
    obtain ⟨b, rfl, b1⟩ := (HL.out.up hu) k hlt
    have t1 : (128 : Int) ≤ (L[k].size : Int) := by have := hz _ (List.getElem_mem hlt); omega
    have H1 := Lib.hid (anyFst_step s L k hlt)
    have H2 := Lib.hid (anySnd_step s L k hlt)
    generalize L[k] = t at *
    go_upto_region 5 with fail
    go_cut [5] (fun v wx => v = .bool (anyFst s (L.take (k + 1))) ∧ wx.cell? ⟨b, k, none⟩ = some (.string t) ∧ Up w wx)
    case first =>
      have HB := Lib.hid (bytes_beq (s.extract 0 128) (t.extract 0 128))
      generalize anyFst s (L.take k) = A at *
      cases A
      · refine wp_region_later (by kernel_rfl) (by kernel_rfl) ?_
        have l1 := Later.cell_of b1
        have hne := later_ne wr
        repeat (go_big_quiet_step (fail))
        refine wpQuiet_nil ?_
        intro w9 hw9
        obtain ⟨u9, rfl⟩ := hw9
        replace hu := hu.trans u9.up
        clear l1 hne
        have b1' := (AllS.of_up (S := fun _ => False) u9.up).cell b1 id
        generalize u9.world = w9 at *
        go_wp2_with fail
        go_meet
        exact ⟨by rw [H1.out, HB.out]; rfl, b1', hu⟩
      · refine wp_region_later (by kernel_rfl) (by kernel_rfl) ?_
        have l1 := Later.cell_of b1
        have hne := later_ne wr
        repeat (go_big_quiet_step (fail))
        refine wpQuiet_nil ?_
        intro w9 hw9
        obtain ⟨u9, rfl⟩ := hw9
        replace hu := hu.trans u9.up
        clear l1 hne
        have b1' := (AllS.of_up (S := fun _ => False) u9.up).cell b1 id
        generalize u9.world = w9 at *
        go_wp2_with fail
        go_meet
        exact ⟨by rw [H1.out]; rfl, b1', hu⟩
    case rest =>
    clear hu b1
    obtain ⟨rfl, b1, hu⟩ := hcut
    have HB := Lib.hid (bytes_beq (s.extract 128 s.size) (t.extract 128 t.size))
    go_upto_region 6 with fail
    have HE : ∀ (c : Bool) (wy : World), c = anySnd s (L.take (k + 1)) → Up w wy → ∃ k_1 : Nat, k_1 ≤ L.length ∧ Value.bool (anyFst s (L.take (k + 1))) = .bool (anyFst s (L.take k_1)) ∧ Value.bool c = .bool (anySnd s (L.take k_1)) ∧ Value.int .i64 ((k : Int) + 1) = .int .i64 k_1 ∧ Up w wy := fun c wy h h2 => ⟨k + 1, by omega, rfl, by rw [h], by go_num, h2⟩
    generalize anyFst s (L.take (k + 1)) = A2 at *
    generalize anySnd s (L.take k) = B at *
    cases B
    · refine wp_region_later (by kernel_rfl) (by kernel_rfl) ?_
      have l1 := Later.cell_of b1
      have hne := later_ne wc
      repeat (go_big_quiet_step (fail))
      refine wpQuiet_nil ?_
      intro w9 hw9
      obtain ⟨u9, rfl⟩ := hw9
      replace hu := hu.trans u9.up
      clear l1 hne
      generalize u9.world = w9 at *
      go_wp2_with fail
      exact ⟨HE _ _ (by rw [H2.out, HB.out]; rfl) hu, by simp [intOf]; omega⟩
    · refine wp_region_later (by kernel_rfl) (by kernel_rfl) ?_
      have l1 := Later.cell_of b1
      have hne := later_ne wc
      repeat (go_big_quiet_step (fail))
      refine wpQuiet_nil ?_
      intro w9 hw9
      obtain ⟨u9, rfl⟩ := hw9
      replace hu := hu.trans u9.up
      clear l1 hne
      generalize u9.world = w9 at *
      go_wp2_with fail
      exact ⟨HE _ _ (by rw [H2.out, Bool.true_or]) hu, by simp [intOf]; omega⟩
  · have j1 : ¬ (k : Int) < (L.length : Int) := by omega
    have HT := Lib.hid (show L.take k = L from List.take_of_length_le (by omega))
    have HF := Lib.hid (show halvesB s L = (anyFst s (L.take k) && anySnd s (L.take k)) by rw [HT.out]; rfl)
    generalize anyFst s (L.take k) = A at *
    generalize anySnd s (L.take k) = B at *
    clear HT hlt
    cases A
    · go_wp2_with fail
      go_ret
      exact ⟨by rw [HF.out]; rfl, hu⟩
    · go_wp2_with fail
      go_ret
      exact ⟨by rw [HF.out]; rfl, hu⟩
end Go.Proofs.Ytiekjjejoekdeaa
