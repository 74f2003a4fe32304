import Derived.Test.YtokpkkjgagbpfaaDsWalk1
namespace Go.Proofs.Ytokpkkjgagbpfaa
open Go.RowKit Bw Go.Maps
set_option linter.unusedVariables false

set_option maxRecDepth 100000 in
theorem syncK_step (W : List WriteD) (K : Int → ByteArray) (k : Nat) (h : k < W.length) : syncK (W.take (k + 1)) K = setK (syncK (W.take k) K) W[k].1 W[k].2 := by
  unfold syncK
  rw [List.take_succ_eq_append_getElem h, List.foldl_append]
  rfl
set_option maxRecDepth 100000 in
theorem page_wf {d : DiskD} (h : d.Ok) {p : Int} (h0 : 0 ≤ p) (h1 : p < d.n) : (Lit.int .i64 p).wf = true := by
  have := h.n2
  exact wf_small (by omega) (by omega)
set_option maxRecDepth 100000 in
set_option maxHeartbeats 1000000 in
theorem disk_Sync {w : World} {F : Fp} {c : Nat} {d : DiskD} (h : DiskAt w F c d) (hc : c ≤ 1099511627776) :
    Calls Try.prog 51 #[.pointer (some ⟨F.g, 0, none⟩)] w fun e w' => e = .returned (.tuple #[]) ∧ DiskAt w' ⟨F.g, F.a, none⟩ c d.syncD ∧ AllS F.has w w' := by
  have hok := syncD_ok h.ok
  obtain ⟨v, m, h1, h2, h3, h4, h5⟩ := h.mem
  obtain ⟨q, cap, rfl, hq0, -⟩ := WritesAt.form h4
  have hga := h.ga
  have hqg : ∀ k, (Value.slice q d.W.length cap).ownBlock = some k → k ≠ F.g ∧ k ≠ F.a := fun k hk => ⟨fun e => h.gq (by rw [← h5, hk, e]), fun e => h.aq (by rw [← h5, hk, e])⟩
  have hW := h.ok.W1
  have hn2 := h.ok.n2
  clear h
  obtain ⟨x0, x1, x2, f0, f1, f2⟩ := h1.c3
  go_enter Try.func51, Try.ntmps51
  go_wp2_with fail
  go_loopw [9] (fun v9 wr => ∃ k : Nat, k ≤ d.W.length ∧ v9 = .int .i64 k ∧ RowAt wr F.g [.int .i64 d.n, .map (some F.a), .slice q d.W.length cap] ∧ MapAt wr F.a (m + k) (syncK (d.W.take k) d.K) ∧ WritesAt wr 83 (.slice q d.W.length cap) d.W ∧ AllS F.has w wr) (fun v _ => d.W.length - (intOf v).toNat)
  case atStart => exact ⟨0, by omega, rfl, h1, h2, h4, AllS.refl _ _⟩
  case round =>
    clear x0 x1 x2 f0 f1 f2 h1 h2 h4
    obtain ⟨k, hk, rfl, h1, h2, h4, ha⟩ := hrel
    obtain ⟨-, x1, x2, f0, f1, f2⟩ := h1.c3
    by_cases hlt : k < d.W.length
    · have j0 : (0 : Int) ≤ (k : Int) := by omega
      have j1 : (k : Int) < (d.W.length : Int) := by omega
      have hst := syncK_step d.W d.K k hlt
      obtain ⟨q', cap', hqe, hqn, hq⟩ := WritesAt.form h4
      obtain ⟨b, rfl, hb, hob, a1, a2⟩ := hq k hlt
      have hwk := hW _ (List.getElem_mem hlt)
      generalize d.W[k] = x at *
      obtain ⟨x1', x2'⟩ := x
      simp only at a1 a2 hwk hst
      go_upto_region 3 with fail
      have r3 := RowAt.made wr 83 [.int .i64 x1', .string x2']
      clear x1 x2 f0 f1 f2 a1 a2
      replace h1 := h1.alloc (.cells #[.int .i64 x1', .string x2'] 83)
      replace h2 := h2.up ((Up.refl _).alloc (.cells #[.int .i64 x1', .string x2'] 83))
      replace h4 := World.ownsRow.alloc h4 (.cells #[.int .i64 x1', .string x2'] 83)
      replace ha := ha.alloc (.cells #[.int .i64 x1', .string x2'] 83)
      generalize wr.heap.size = g3 at *
      generalize wr.alloc (.cells #[.int .i64 x1', .string x2'] 83) = w3 at *
      obtain ⟨-, y1, -, -⟩ := h1.c3
      obtain ⟨y2, y3, -, -⟩ := r3.c2
      refine wp_region_later_tail 8 (by kernel_rfl) (by kernel_rfl) ?_
      have l1 := Later.cell_of y1; have l2 := Later.cell_of y2; have l3 := Later.cell_of y3
      have hne := later_ne w3
      simp only [List.take_succ_cons, List.take_zero]
      repeat (go_big_quiet_step (fail))
      refine wpQuiet_nil ?_
      intro w9 hw9
      obtain ⟨u9, rfl⟩ := hw9
      replace h1 := h1.up u9.up
      replace h2 := h2.up u9.up
      replace h4 := ownsRow_allS h4 (AllS.of_up (S := fun _ => False) u9.up) (fun _ _ => id)
      replace ha := ha.up u9.up
      clear l1 l2 l3 hne y1 y2 y3 r3
      generalize u9.world = w9 at *
      obtain ⟨w10, hrun, h2', hgrow, hsz⟩ := h2.store (by unfold maxLen; omega) (wf_small (k := x1') (by omega) (by omega)) (s := x2') (by unfold maxLen; omega)
      rw [← hst, show m + k + 1 = m + (k + 1) by omega] at h2'
      replace h1 := h1.grownBy hgrow (fun k hk => by injection hk with hk; omega)
      replace h4 := ownsRow_allS h4 (AllS.grown (S := fun k => k = F.a) (.refl _ _) hgrow (fun k hk => .inl (by injection hk with hk; exact hk.symm))) (fun k hk e => (hqg k hk).2 e)
      replace ha := ha.grown hgrow (fun k hk => .inl (.inr (.inl (by injection hk with hk; exact hk.symm))))
      simp only [List.drop_succ_cons, List.drop_zero]
      go_wp2_with fail
      exact ⟨⟨k + 1, by omega, by go_num, h1, h2', h4, ha⟩, by simp [intOf]; omega⟩
    · have j1 : ¬ (k : Int) < (d.W.length : Int) := by omega
      have hT := Lib.hid (show syncK (d.W.take k) d.K = syncK d.W d.K by rw [List.take_of_length_le (by omega)])
      clear hlt
      go_wp2_with fail
      go_end0
      have hset := (AllS.refl (fun k => k = F.g) wr).setCell F.g 2 (.slice none 0 0) (.inl rfl)
      rw [hT.out] at h2
      refine ⟨rfl, ⟨hok, hga, by simp, by simp, .slice none 0 0, m + k, h1.set 2 (.slice none 0 0) (by simp), h2.allS hset (fun e => hga e.symm), by simp [DiskD.syncD]; omega, World.ownsRow_nil _ _ _ _, rfl⟩, ha.setCell F.g 2 _ (.inl (.inl rfl))⟩
end Go.Proofs.Ytokpkkjgagbpfaa
