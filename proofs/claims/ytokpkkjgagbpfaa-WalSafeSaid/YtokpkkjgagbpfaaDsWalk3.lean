import Derived.Test.YtokpkkjgagbpfaaDsWalk2
namespace Go.Proofs.Ytokpkkjgagbpfaa
set_option maxRecDepth 100000
open Go.RowKit Bw Go.Maps
set_option linter.unusedVariables false

theorem DiskAt.cell1 {w : World} {F : Fp} {c : Nat} {d : DiskD} (h : DiskAt w F c d) : w.cell? ⟨F.g, 1, none⟩ = some (.map (some F.a)) := by
  obtain ⟨v, m, h1, -⟩ := h.mem
  exact h1.c3.2.1
theorem DiskAt.putK {w : World} {F : Fp} {c : Nat} {d : DiskD} (h : DiskAt w F c d) (hc : c ≤ 1099511627776) {p : Int} (h0 : 0 ≤ p) (hp : p < d.n) {s : ByteArray} (hs : s.size = 256) :
    ∃ w', (Instr.mapUpdate 58 (.map (some F.a)) (.int .i64 p) (.string s)).run Try.prog w = .ok () w' ∧ DiskAt w' F (c + 1) { d with K := setK d.K p s } ∧ AllS F.has w w' := by
  obtain ⟨v, m, h1, h2, h3, h4, h5⟩ := h.mem
  obtain ⟨w', hrun, h2', hgrow, hsz⟩ := h2.store (by unfold maxLen; omega) (page_wf h.ok h0 hp) (s := s) (by unfold maxLen; omega)
  have hga := h.ga
  refine ⟨w', hrun, ⟨⟨h.ok.n1, h.ok.n2, setK_size h.ok.K1 p hs, h.ok.W1⟩, h.ga, h.gq, h.aq, v, m + 1, ?_, h2', by simp only; omega, ?_, h5⟩, ?_⟩
  · exact h1.grownBy hgrow (fun k hk => by injection hk with hk; omega)
  · exact ownsRow_allS h4 (AllS.grown (S := fun k => k = F.a) (.refl _ _) hgrow (fun k hk => .inl (by injection hk with hk; exact hk.symm))) (fun k hk e => h.aq (by rw [← h5, hk, e]))
  · exact AllS.grown (.refl _ _) hgrow (fun k hk => .inl (.inr (.inl (by injection hk with hk; exact hk.symm))))

set_option maxRecDepth 100000 in
set_option maxHeartbeats 1000000 in
theorem meets_no {w : World} {F : Fp} {c : Nat} {d : DiskD} (h : DiskAt w F c d) (hc : c ≤ 1099511627776) (p : Int) (raw : ByteArray) (hp0 : 0 ≤ p) (hp1 : p < d.n) (hraw : raw.size = 256) (f : Int) (h1 : ¬ f = 1) (h2 : ¬ f = 2) :
    Calls Try.prog 54 #[.pointer (some ⟨F.g, 0, none⟩), .agg #[.int .i64 p, .string raw], .int .i64 f] w fun e w' => e = .returned (.tuple #[]) ∧ DiskAt w' F (c + 1) { d with K := d.K } ∧ AllS F.has w w' := by
  have hlt := h.lt
  have hh := h
  have ha := AllS.refl F.has w
  go_enter Try.func54, Try.ntmps54
  go_upto_region 1 with fail
  have r4 := RowAt.made w 83 [.int .i64 p, .string raw]
  have g4 := h.lt _ (.inl rfl)
  replace h := h.up ((Up.refl w).alloc (.cells #[.int .i64 p, .string raw] 83))
  replace ha := ha.alloc (.cells #[.int .i64 p, .string raw] 83)
  have hF : ¬ F.has w.heap.size := fun hk => by have := hlt _ hk; omega
  have hFw : w.heap.size ≤ w.heap.size := Nat.le_refl _
  generalize hx : w.alloc (.cells #[.int .i64 p, .string raw] 83) = w1 at *
  go_wp2_with fail
  go_end0
  exact ⟨rfl, h.mono (by omega), ha⟩
set_option maxRecDepth 100000 in
set_option maxHeartbeats 1000000 in
theorem meets_kept {w : World} {F : Fp} {c : Nat} {d : DiskD} (h : DiskAt w F c d) (hc : c ≤ 1099511627776) (p : Int) (raw : ByteArray) (hp0 : 0 ≤ p) (hp1 : p < d.n) (hraw : raw.size = 256) (f : Int) (h1 : f = 1) :
    Calls Try.prog 54 #[.pointer (some ⟨F.g, 0, none⟩), .agg #[.int .i64 p, .string raw], .int .i64 f] w fun e w' => e = .returned (.tuple #[]) ∧ DiskAt w' F (c + 1) { d with K := (setK d.K p raw) } ∧ AllS F.has w w' := by
  have hlt := h.lt
  subst h1
  have ha := AllS.refl F.has w
  go_enter Try.func54, Try.ntmps54
  go_upto_region 1 with fail
  have r4 := RowAt.made w 83 [.int .i64 p, .string raw]
  have g4 := h.lt _ (.inl rfl)
  replace h := h.up ((Up.refl w).alloc (.cells #[.int .i64 p, .string raw] 83))
  replace ha := ha.alloc (.cells #[.int .i64 p, .string raw] 83)
  have hF : ¬ F.has w.heap.size := fun hk => by have := hlt _ hk; omega
  have hFw : w.heap.size ≤ w.heap.size := Nat.le_refl _
  generalize hx : w.alloc (.cells #[.int .i64 p, .string raw] 83) = w1 at *
  go_upto_region 5 with fail
  have y1 := h.cell1
  obtain ⟨y2, y3, -, -⟩ := r4.c2
  refine wp_region_later_tail 8 (by kernel_rfl) (by kernel_rfl) ?_
  have l1 := Later.cell_of y1; have l2 := Later.cell_of y2; have l3 := Later.cell_of y3
  have hne := later_ne w1
  simp only [List.take_succ_cons, List.take_zero]
  repeat (go_big_quiet_step (fail))
  refine wpQuiet_nil ?_
  intro w9 hw9
  obtain ⟨u9, rfl⟩ := hw9
  replace h := h.up u9.up
  replace ha := ha.up u9.up
  clear l1 l2 l3 hne y1 y2 y3 r4
  generalize u9.world = w9 at *
  obtain ⟨w10, hrun, hD, hA⟩ := h.putK hc hp0 hp1 (s := raw) (by assumption)
  replace ha := ha.trans hA
  clear h hA
  simp only [List.drop_succ_cons, List.drop_zero]
  go_wp2_with fail
  go_end0
  exact ⟨rfl, hD, ha⟩
set_option maxRecDepth 100000 in
set_option maxHeartbeats 1000000 in
theorem meets_torn {w : World} {F : Fp} {c : Nat} {d : DiskD} (h : DiskAt w F c d) (hc : c ≤ 1099511627776) (p : Int) (raw : ByteArray) (hp0 : 0 ≤ p) (hp1 : p < d.n) (hraw : raw.size = 256) (f : Int) (h1 : f = 2) :
    Calls Try.prog 54 #[.pointer (some ⟨F.g, 0, none⟩), .agg #[.int .i64 p, .string raw], .int .i64 f] w fun e w' => e = .returned (.tuple #[]) ∧ DiskAt w' F (c + 1) { d with K := (setK d.K p (tornS raw (d.K p))) } ∧ AllS F.has w w' := by
  have hlt := h.lt
  subst h1
  have k1 := fun w (h : DiskAt w F c d) => disk_kept h p (page_wf h.ok hp0 hp1)
  have hK := h.ok.K1 p
  have k2 := fun w => sum_Torn raw (d.K p) w (by omega) (by omega)
  have hT := tornS_size hraw hK
  generalize hKp : d.K p = Kp at *
  generalize tornS raw Kp = T at *
  have C1 := Lib.hid k1; have C2 := Lib.hid k2; clear k1 k2
  have ha := AllS.refl F.has w
  go_enter Try.func54, Try.ntmps54
  go_upto_region 1 with fail
  have r4 := RowAt.made w 83 [.int .i64 p, .string raw]
  have g4 := h.lt _ (.inl rfl)
  replace h := h.up ((Up.refl w).alloc (.cells #[.int .i64 p, .string raw] 83))
  replace ha := ha.alloc (.cells #[.int .i64 p, .string raw] 83)
  have hF : ¬ F.has w.heap.size := fun hk => by have := hlt _ hk; omega
  have hFw : w.heap.size ≤ w.heap.size := Nat.le_refl _
  generalize hx : w.alloc (.cells #[.int .i64 p, .string raw] 83) = w1 at *
  go_upto_region 4 with fail
  have HD := Lib.hid (show ∀ u : Later w1, DiskAt u.world F c d from fun u => h.up u.up)
  obtain ⟨y2, y3, -, -⟩ := r4.c2
  refine wp_region_later_tail 8 (by kernel_rfl) (by kernel_rfl) ?_
  have l2 := Later.cell_of y2; have l3 := Later.cell_of y3
  have hne := later_ne w1
  simp only [List.take_succ_cons, List.take_zero]
  repeat (go_big_quiet_step (first
    | (go_at_call 59; with_reducible exact Calls.later (C1.out _ (HD.out _)))
    | (go_at_call 76; with_reducible exact Calls.later (C2.out _))))
  refine wpQuiet_nil ?_
  intro w9 hw9
  obtain ⟨u9, rfl⟩ := hw9
  replace h := h.up u9.up
  replace ha := ha.up u9.up
  replace r4 := r4.up u9.up
  have hsz9 := ha.size
  have hg9 : ¬ F.has w.heap.size := hF
  clear l2 l3 hne y2 y3 HD hx
  generalize u9.world = w1 at *
  obtain ⟨y2, y3, z2, z3⟩ := r4.c2
  simp only [List.drop_succ_cons, List.drop_zero]
  go_upto_region 5 with fail
  replace r4 := r4.set 1 (.string T) (by simp)
  simp only [List.set_cons_zero, List.set_cons_succ] at r4
  replace h := h.allS ((AllS.refl (fun k => k = w.heap.size) w1).setCell w.heap.size 1 (.string T) (.inl rfl)) (fun k hk e => hF (e ▸ hk))
  replace ha := ha.setCell w.heap.size 1 (.string T) (.inr (Nat.le_refl _))
  clear y2 y3 z2 z3
  generalize w1.setCell ⟨w.heap.size, 1, none⟩ (.string T) = w1 at *
  have y1 := h.cell1
  obtain ⟨y2, y3, -, -⟩ := r4.c2
  refine wp_region_later_tail 8 (by kernel_rfl) (by kernel_rfl) ?_
  have l1 := Later.cell_of y1; have l2 := Later.cell_of y2; have l3 := Later.cell_of y3
  have hne := later_ne w1
  simp only [List.take_succ_cons, List.take_zero]
  repeat (go_big_quiet_step (fail))
  refine wpQuiet_nil ?_
  intro w9 hw9
  obtain ⟨u9, rfl⟩ := hw9
  replace h := h.up u9.up
  replace ha := ha.up u9.up
  clear l1 l2 l3 hne y1 y2 y3 r4
  generalize u9.world = w9 at *
  obtain ⟨w10, hrun, hD, hA⟩ := h.putK hc hp0 hp1 (s := T) (by assumption)
  replace ha := ha.trans hA
  clear h hA
  simp only [List.drop_succ_cons, List.drop_zero]
  go_wp2_with fail
  go_end0
  exact ⟨rfl, hD, ha⟩
theorem disk_meets {w : World} {F : Fp} {c : Nat} {d : DiskD} (h : DiskAt w F c d) (hc : c ≤ 1099511627776) (p : Int) (raw : ByteArray) (hp0 : 0 ≤ p) (hp1 : p < d.n) (hraw : raw.size = 256) (f : Int) :
    Calls Try.prog 54 #[.pointer (some ⟨F.g, 0, none⟩), .agg #[.int .i64 p, .string raw], .int .i64 f] w fun e w' => e = .returned (.tuple #[]) ∧ DiskAt w' F (c + 1) { d with K := meetK d.K (p, raw) f } ∧ AllS F.has w w' := by
  unfold meetK
  by_cases h2 : f = 2
  · rw [if_pos h2]; exact meets_torn h hc p raw hp0 hp1 hraw f h2
  · rw [if_neg h2]
    by_cases h1 : f = 1
    · rw [if_pos h1]; exact meets_kept h hc p raw hp0 hp1 hraw f h1
    · rw [if_neg h1]; exact meets_no h hc p raw hp0 hp1 hraw f h1 h2
end Go.Proofs.Ytokpkkjgagbpfaa
