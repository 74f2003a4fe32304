import Derived.Test.YtokpkkjgagbpfaaDsWalk1
namespace Go.Proofs.Ytokpkkjgagbpfaa
open Go.RowKit Bw Go.Maps
set_option linter.unusedVariables false

set_option maxRecDepth 100000 in
theorem syncK_step (W : List WriteD) (K : Int → ByteArray) (k : Nat) (h : k < W.length) : syncK (W.take (k + 1)) K = setK (syncK (W.take k) K) W[k].1 W[k].2 := by
  unfold syncK
  rw [List.take_succ_eq_append_getElem h, List.foldl_append]
  rfl
set_option maxRecDepth 100000 in
theorem page_wf {d : DiskD} (h : d.Ok) {p : Int} (h0 : 0 ≤ p) (h1 : p < d.n) : (Lit.int .i64 p).wf = true := by
  have := h.n2
  exact wf_small (by omega) (by omega)
set_option maxRecDepth 100000 in
set_option maxHeartbeats 1000000 in
theorem disk_Sync {w : World} {F : Fp} {c : Nat} {d : DiskD} (h : DiskAt w F c d) (hc : c ≤ 1099511627776) :
    Calls Try.prog 51 #[.pointer (some ⟨F.g, 0, none⟩)] w fun e w' => e = .returned (.tuple #[]) ∧ DiskAt w' ⟨F.g, F.a, none⟩ c d.syncD ∧ AllS F.has w w' := by
  have hok := syncD_ok h.ok
  obtain ⟨v, m, h1, h2, h3, h4, h5⟩ := h.mem
  obtain ⟨q, cap, rfl, hq0, -⟩ := WritesAt.form h4
  have hga := h.ga
  have hqg : ∀ k, (Value.slice q d.W.length cap).ownBlock = some k → k ≠ F.g ∧ k ≠ F.a := fun k hk => ⟨fun e => h.gq (by rw [← h5, hk, e]), fun e => h.aq (by rw [← h5, hk, e])⟩
  have hW := h.ok.W1
  have hn2 := h.ok.n2
  clear h
  obtain ⟨x0, x1, x2, f0, f1, f2⟩ := h1.c3
  go_enter Try.func51, Try.ntmps51
  go_wp2_with fail
  go_loopw [9] (fun v9 wr => ∃ k : Nat, k ≤ d.W.length ∧ v9 = .int .i64 k ∧ RowAt wr F.g [.int .i64 d.n, .map (some F.a), .slice q d.W.length cap] ∧ MapAt wr F.a (m + k) (syncK (d.W.take k) d.K) ∧ WritesAt wr 83 (.slice q d.W.length cap) d.W ∧ AllS F.has w wr) (fun v _ => d.W.length - (intOf v).toNat)
  case atStart => exact ⟨0, by omega, rfl, h1, h2, h4, AllS.refl _ _⟩
  case round =>
    clear x0 x1 x2 f0 f1 f2 h1 h2 h4
    obtain ⟨k, hk, rfl, h1, h2, h4, ha⟩ := hrel
    obtain ⟨-, x1, x2, f0, f1, f2⟩ := h1.c3
    by_cases hlt : k < d.W.length
    · have j0 : (0 : Int) ≤ (k : Int) := by omega
      have j1 : (k : Int) < (d.W.length : Int) := by omega
      have hst := syncK_step d.W d.K k hlt
      obtain ⟨q', cap', hqe, hqn, hq⟩ := WritesAt.form h4
      obtain ⟨b, rfl, hb, hob, a1, a2⟩ := hq k hlt
      have hwk := hW _ (List.getElem_mem hlt)
      generalize d.W[k] = x at *
      obtain ⟨x1', x2'⟩ := x
      simp only at a1 a2 hwk hst
      go_upto_region 3 with fail
      have r3 := RowAt.made wr 83 [.int .i64 x1', .string x2']
      clear x1 x2 f0 f1 f2 a1 a2
      replace h1 := h1.alloc (.cells #[.int .i64 x1', .string x2'] 83)
      replace h2 := h2.up ((Up.refl _).alloc (.cells #[.int .i64 x1', .string x2'] 83))
      replace h4 := World.ownsRow.alloc h4 (.cells #[.int .i64 x1', .string x2'] 83)
      replace ha := ha.alloc (.cells #[.int .i64 x1', .string x2'] 83)
      generalize wr.heap.size = g3 at *
      generalize wr.alloc (.cells #[.int .i64 x1', .string x2'] 83) = w3 at *
      obtain ⟨-, y1, -, -⟩ := h1.c3
      obtain ⟨y2, y3, -, -⟩ := r3.c2
      refine wp_region_later_tail 8 (by kernel_rfl) (by kernel_rfl) ?_
      have l1 := Later.cell_of y1; have l2 := Later.cell_of y2; have l3 := Later.cell_of y3
      have hne := later_ne w3
      simp only [List.take_succ_cons, List.take_zero]
      repeat (go_big_quiet_step (fail))
      refine wpQuiet_nil ?_
      intro w9 hw9
      obtain ⟨u9, rfl⟩ := hw9
      replace h1 := h1.up u9.up
      replace h2 := h2.up u9.up
      replace h4 := ownsRow_allS h4 (AllS.of_up (S := fun _ => False) u9.up) (fun _ _ => id)
      replace ha := ha.up u9.up
      clear l1 l2 l3 hne y1 y2 y3 r3
      generalize u9.world = w9 at *
      obtain ⟨w10, hrun, h2', hgrow, hsz⟩ := h2.store (by unfold maxLen; omega) (wf_small (k := x1') (by omega) (by omega)) (s := x2') (by unfold maxLen; omega)
      rw [← hst, show m + k + 1 = m + (k + 1) by omega] at h2'
      replace h1 := h1.grownBy hgrow (fun k hk => by injection hk with hk; omega)
      replace h4 := ownsRow_allS h4 (AllS.grown (S := fun k => k = F.a) (.refl _ _) hgrow (fun k hk => .inl (by injection hk with hk; exact hk.symm))) (fun k hk e => (hqg k hk).2 e)
      replace ha := ha.grown hgrow (fun k hk => .inl (.inr (.inl (by injection hk with hk; exact hk.symm))))
      simp only [List.drop_succ_cons, List.drop_zero]
      go_wp2_with fail
      exact ⟨⟨k + 1, by omega, by go_num, h1, h2', h4, ha⟩, by simp [intOf]; omega⟩
    · have j1 : ¬ (k : Int) < (d.W.length : Int) := by omega
      have hT := Lib.hid (show syncK (d.W.take k) d.K = syncK d.W d.K by rw [List.take_of_length_le (by omega)])
      clear hlt
      go_wp2_with fail
      go_end0
      have hset := (AllS.refl (fun k => k = F.g) wr).setCell F.g 2 (.slice none 0 0) (.inl rfl)
      rw [hT.out] at h2
      refine ⟨rfl, ⟨hok, hga, by simp, by simp, .slice none 0 0, m + k, h1.set 2 (.slice none 0 0) (by simp), h2.allS hset (fun e => hga e.symm), by simp [DiskD.syncD]; omega, World.ownsRow_nil _ _ _ _, rfl⟩, ha.setCell F.g 2 _ (.inl (.inl rfl))⟩
end Go.Proofs.Ytokpkkjgagbpfaa
namespace Go.Proofs.Ytokpkkjgagbpfaa
set_option maxRecDepth 100000
open Go.RowKit Bw Go.Maps
set_option linter.unusedVariables false

theorem DiskAt.cell1 {w : World} {F : Fp} {c : Nat} {d : DiskD} (h : DiskAt w F c d) : w.cell? ⟨F.g, 1, none⟩ = some (.map (some F.a)) := by
  obtain ⟨v, m, h1, -⟩ := h.mem
  exact h1.c3.2.1
theorem DiskAt.putK {w : World} {F : Fp} {c : Nat} {d : DiskD} (h : DiskAt w F c d) (hc : c ≤ 1099511627776) {p : Int} (h0 : 0 ≤ p) (hp : p < d.n) {s : ByteArray} (hs : s.size = 256) :
    ∃ w', (Instr.mapUpdate 58 (.map (some F.a)) (.int .i64 p) (.string s)).run Try.prog w = .ok () w' ∧ DiskAt w' F (c + 1) { d with K := setK d.K p s } ∧ AllS F.has w w' := by
  obtain ⟨v, m, h1, h2, h3, h4, h5⟩ := h.mem
  obtain ⟨w', hrun, h2', hgrow, hsz⟩ := h2.store (by unfold maxLen; omega) (page_wf h.ok h0 hp) (s := s) (by unfold maxLen; omega)
  have hga := h.ga
  refine ⟨w', hrun, ⟨⟨h.ok.n1, h.ok.n2, setK_size h.ok.K1 p hs, h.ok.W1⟩, h.ga, h.gq, h.aq, v, m + 1, ?_, h2', by simp only; omega, ?_, h5⟩, ?_⟩
  · exact h1.grownBy hgrow (fun k hk => by injection hk with hk; omega)
  · exact ownsRow_allS h4 (AllS.grown (S := fun k => k = F.a) (.refl _ _) hgrow (fun k hk => .inl (by injection hk with hk; exact hk.symm))) (fun k hk e => h.aq (by rw [← h5, hk, e]))
  · exact AllS.grown (.refl _ _) hgrow (fun k hk => .inl (.inr (.inl (by injection hk with hk; exact hk.symm))))

set_option maxRecDepth 100000 in
set_option maxHeartbeats 1000000 in
theorem meets_no {w : World} {F : Fp} {c : Nat} {d : DiskD} (h : DiskAt w F c d) (hc : c ≤ 1099511627776) (p : Int) (raw : ByteArray) (hp0 : 0 ≤ p) (hp1 : p < d.n) (hraw : raw.size = 256) (f : Int) (h1 : ¬ f = 1) (h2 : ¬ f = 2) :
    Calls Try.prog 54 #[.pointer (some ⟨F.g, 0, none⟩), .agg #[.int .i64 p, .string raw], .int .i64 f] w fun e w' => e = .returned (.tuple #[]) ∧ DiskAt w' F (c + 1) { d with K := d.K } ∧ AllS F.has w w' := by
  have hlt := h.lt
  have hh := h
  have ha := AllS.refl F.has w
  go_enter Try.func54, Try.ntmps54
  go_upto_region 1 with fail
  have r4 := RowAt.made w 83 [.int .i64 p, .string raw]
  have g4 := h.lt _ (.inl rfl)
  replace h := h.up ((Up.refl w).alloc (.cells #[.int .i64 p, .string raw] 83))
  replace ha := ha.alloc (.cells #[.int .i64 p, .string raw] 83)
  have hF : ¬ F.has w.heap.size := fun hk => by have := hlt _ hk; omega
  have hFw : w.heap.size ≤ w.heap.size := Nat.le_refl _
  generalize hx : w.alloc (.cells #[.int .i64 p, .string raw] 83) = w1 at *
  go_wp2_with fail
  go_end0
  exact ⟨rfl, h.mono (by omega), ha⟩
set_option maxRecDepth 100000 in
set_option maxHeartbeats 1000000 in
theorem meets_kept {w : World} {F : Fp} {c : Nat} {d : DiskD} (h : DiskAt w F c d) (hc : c ≤ 1099511627776) (p : Int) (raw : ByteArray) (hp0 : 0 ≤ p) (hp1 : p < d.n) (hraw : raw.size = 256) (f : Int) (h1 : f = 1) :
    Calls Try.prog 54 #[.pointer (some ⟨F.g, 0, none⟩), .agg #[.int .i64 p, .string raw], .int .i64 f] w fun e w' => e = .returned (.tuple #[]) ∧ DiskAt w' F (c + 1) { d with K := (setK d.K p raw) } ∧ AllS F.has w w' := by
  have hlt := h.lt
  subst h1
  have ha := AllS.refl F.has w
  go_enter Try.func54, Try.ntmps54
  go_upto_region 1 with fail
  have r4 := RowAt.made w 83 [.int .i64 p, .string raw]
  have g4 := h.lt _ (.inl rfl)
  replace h := h.up ((Up.refl w).alloc (.cells #[.int .i64 p, .string raw] 83))
  replace ha := ha.alloc (.cells #[.int .i64 p, .string raw] 83)
  have hF : ¬ F.has w.heap.size := fun hk => by have := hlt _ hk; omega
  have hFw : w.heap.size ≤ w.heap.size := Nat.le_refl _
  generalize hx : w.alloc (.cells #[.int .i64 p, .string raw] 83) = w1 at *
  go_upto_region 5 with fail
  have y1 := h.cell1
  obtain ⟨y2, y3, -, -⟩ := r4.c2
  refine wp_region_later_tail 8 (by kernel_rfl) (by kernel_rfl) ?_
  have l1 := Later.cell_of y1; have l2 := Later.cell_of y2; have l3 := Later.cell_of y3
  have hne := later_ne w1
  simp only [List.take_succ_cons, List.take_zero]
  repeat (go_big_quiet_step (fail))
  refine wpQuiet_nil ?_
  intro w9 hw9
  obtain ⟨u9, rfl⟩ := hw9
  replace h := h.up u9.up
  replace ha := ha.up u9.up
  clear l1 l2 l3 hne y1 y2 y3 r4
  generalize u9.world = w9 at *
  obtain ⟨w10, hrun, hD, hA⟩ := h.putK hc hp0 hp1 (s := raw) (by assumption)
  replace ha := ha.trans hA
  clear h hA
  simp only [List.drop_succ_cons, List.drop_zero]
  go_wp2_with fail
  go_end0
  exact ⟨rfl, hD, ha⟩
set_option maxRecDepth 100000 in
set_option maxHeartbeats 1000000 in
theorem meets_torn {w : World} {F : Fp} {c : Nat} {d : DiskD} (h : DiskAt w F c d) (hc : c ≤ 1099511627776) (p : Int) (raw : ByteArray) (hp0 : 0 ≤ p) (hp1 : p < d.n) (hraw : raw.size = 256) (f : Int) (h1 : f = 2) :
    Calls Try.prog 54 #[.pointer (some ⟨F.g, 0, none⟩), .agg #[.int .i64 p, .string raw], .int .i64 f] w fun e w' => e = .returned (.tuple #[]) ∧ DiskAt w' F (c + 1) { d with K := (setK d.K p (tornS raw (d.K p))) } ∧ AllS F.has w w' := by
  have hlt := h.lt
  subst h1
  have k1 := fun w (h : DiskAt w F c d) => disk_kept h p (page_wf h.ok hp0 hp1)
  have hK := h.ok.K1 p
  have k2 := fun w => sum_Torn raw (d.K p) w (by omega) (by omega)
  have hT := tornS_size hraw hK
  generalize hKp : d.K p = Kp at *
  generalize tornS raw Kp = T at *
  have C1 := Lib.hid k1; have C2 := Lib.hid k2; clear k1 k2
  have ha := AllS.refl F.has w
  go_enter Try.func54, Try.ntmps54
  go_upto_region 1 with fail
  have r4 := RowAt.made w 83 [.int .i64 p, .string raw]
  have g4 := h.lt _ (.inl rfl)
  replace h := h.up ((Up.refl w).alloc (.cells #[.int .i64 p, .string raw] 83))
  replace ha := ha.alloc (.cells #[.int .i64 p, .string raw] 83)
  have hF : ¬ F.has w.heap.size := fun hk => by have := hlt _ hk; omega
  have hFw : w.heap.size ≤ w.heap.size := Nat.le_refl _
  generalize hx : w.alloc (.cells #[.int .i64 p, .string raw] 83) = w1 at *
  go_upto_region 4 with fail
  have HD := Lib.hid (show ∀ u : Later w1, DiskAt u.world F c d from fun u => h.up u.up)
  obtain ⟨y2, y3, -, -⟩ := r4.c2
  refine wp_region_later_tail 8 (by kernel_rfl) (by kernel_rfl) ?_
  have l2 := Later.cell_of y2; have l3 := Later.cell_of y3
  have hne := later_ne w1
  simp only [List.take_succ_cons, List.take_zero]
  repeat (go_big_quiet_step (first
    | (go_at_call 59; with_reducible exact Calls.later (C1.out _ (HD.out _)))
    | (go_at_call 76; with_reducible exact Calls.later (C2.out _))))
  refine wpQuiet_nil ?_
  intro w9 hw9
  obtain ⟨u9, rfl⟩ := hw9
  replace h := h.up u9.up
  replace ha := ha.up u9.up
  replace r4 := r4.up u9.up
  have hsz9 := ha.size
  have hg9 : ¬ F.has w.heap.size := hF
  clear l2 l3 hne y2 y3 HD hx
  generalize u9.world = w1 at *
  obtain ⟨y2, y3, z2, z3⟩ := r4.c2
  simp only [List.drop_succ_cons, List.drop_zero]
  go_upto_region 5 with fail
  replace r4 := r4.set 1 (.string T) (by simp)
  simp only [List.set_cons_zero, List.set_cons_succ] at r4
  replace h := h.allS ((AllS.refl (fun k => k = w.heap.size) w1).setCell w.heap.size 1 (.string T) (.inl rfl)) (fun k hk e => hF (e ▸ hk))
  replace ha := ha.setCell w.heap.size 1 (.string T) (.inr (Nat.le_refl _))
  clear y2 y3 z2 z3
  generalize w1.setCell ⟨w.heap.size, 1, none⟩ (.string T) = w1 at *
  have y1 := h.cell1
  obtain ⟨y2, y3, -, -⟩ := r4.c2
  refine wp_region_later_tail 8 (by kernel_rfl) (by kernel_rfl) ?_
  have l1 := Later.cell_of y1; have l2 := Later.cell_of y2; have l3 := Later.cell_of y3
  have hne := later_ne w1
  simp only [List.take_succ_cons, List.take_zero]
  repeat (go_big_quiet_step (fail))
  refine wpQuiet_nil ?_
  intro w9 hw9
  obtain ⟨u9, rfl⟩ := hw9
  replace h := h.up u9.up
  replace ha := ha.up u9.up
  clear l1 l2 l3 hne y1 y2 y3 r4
  generalize u9.world = w9 at *
  obtain ⟨w10, hrun, hD, hA⟩ := h.putK hc hp0 hp1 (s := T) (by assumption)
  replace ha := ha.trans hA
  clear h hA
  simp only [List.drop_succ_cons, List.drop_zero]
  go_wp2_with fail
  go_end0
  exact ⟨rfl, hD, ha⟩
theorem disk_meets {w : World} {F : Fp} {c : Nat} {d : DiskD} (h : DiskAt w F c d) (hc : c ≤ 1099511627776) (p : Int) (raw : ByteArray) (hp0 : 0 ≤ p) (hp1 : p < d.n) (hraw : raw.size = 256) (f : Int) :
    Calls Try.prog 54 #[.pointer (some ⟨F.g, 0, none⟩), .agg #[.int .i64 p, .string raw], .int .i64 f] w fun e w' => e = .returned (.tuple #[]) ∧ DiskAt w' F (c + 1) { d with K := meetK d.K (p, raw) f } ∧ AllS F.has w w' := by
  unfold meetK
  by_cases h2 : f = 2
  · rw [if_pos h2]; exact meets_torn h hc p raw hp0 hp1 hraw f h2
  · rw [if_neg h2]
    by_cases h1 : f = 1
    · rw [if_pos h1]; exact meets_kept h hc p raw hp0 hp1 hraw f h1
    · rw [if_neg h1]; exact meets_no h hc p raw hp0 hp1 hraw f h1 h2
end Go.Proofs.Ytokpkkjgagbpfaa
namespace Bw
open Go
theorem crashK_nil (F : List Int) (K : Int → ByteArray) : crashK [] F K = K := by unfold crashK; rfl
theorem crashK_step : ∀ (W : List WriteD) (L : List Int) (K : Int → ByteArray) (k : Nat) (h : k < W.length), crashK (W.take (k + 1)) L K = if hl : k < L.length then meetK (crashK (W.take k) L K) W[k] L[k] else crashK (W.take k) L K
  | w :: W, [], K, k, h => by simp [crashK]
  | w :: W, f :: L, K, 0, h => by simp [crashK]
  | w :: W, f :: L, K, k + 1, h => by
    have ih := crashK_step W L (meetK K w f) k (by simpa using h)
    simp only [List.take_succ_cons, crashK, List.length_cons, Nat.add_lt_add_iff_right, List.getElem_cons_succ]
    exact ih
/-- A slice of ints reads as l. -/
def IntsAt (w : World) (v : Option Addr) (l : List Int) : Prop := ∀ k (h : k < l.length), ∃ g o, v = some ⟨g, o, none⟩ ∧ w.cell? ⟨g, o + k, none⟩ = some (.int .i64 l[k])
theorem IntsAt.allS {S : Nat → Prop} {w w' : World} {v : Option Addr} {l : List Int} (h : IntsAt w v l) (ha : AllS S w w') (hv : l ≠ [] → ∀ a, v = some a → ¬ S a.block) : IntsAt w' v l := fun k hk => by
  obtain ⟨g, o, e, hc⟩ := h k hk
  exact ⟨g, o, e, ha.cell hc (hv (fun e => by subst e; simp at hk) ⟨g, o, none⟩ e)⟩
theorem IntsAt.up {w w' : World} {v : Option Addr} {l : List Int} (h : IntsAt w v l) (hu : Up w w') : IntsAt w' v l := h.allS (S := fun _ => False) (.of_up hu) fun _ _ _ => id
theorem IntsAt.lt {w : World} {v : Option Addr} {l : List Int} (h : IntsAt w v l) (hl : l ≠ []) : ∀ x, v = some x → x.block < w.heap.size := fun x hx => by
  obtain ⟨g, o, e, hc⟩ := h 0 (List.length_pos_iff.2 hl)
  obtain rfl := Option.some.inj (hx.symm.trans e)
  exact World.block_lt_of_cell? w _ hc
theorem IntsAt.nil (w : World) (v : Option Addr) : IntsAt w v [] := fun k h => absurd h (Nat.not_lt_zero _)
end Bw
namespace Go.Proofs.Ytokpkkjgagbpfaa
set_option maxRecDepth 100000
open Go.RowKit Bw Go.Maps
set_option linter.unusedVariables false

theorem DiskAt.reads {w : World} {F : Fp} {c : Nat} {d : DiskD} (h : DiskAt w F c d) (k : Nat) (hk : k < d.W.length) : ∃ b, F.q = some b ∧ w.cell? ⟨b, k * 2, none⟩ = some (.int .i64 d.W[k].1) ∧ w.cell? ⟨b, k * 2 + 1, none⟩ = some (.string d.W[k].2) := by
  obtain ⟨v, m, h1, h2, h3, h4, h5⟩ := h.mem
  obtain ⟨q, cap, rfl, -, hq⟩ := WritesAt.form h4
  obtain ⟨b, rfl, hb, hob, a1, a2⟩ := hq k hk
  exact ⟨b, h5.symm.trans hob, a1, a2⟩
theorem DiskAt.head {w : World} {F : Fp} {c : Nat} {d : DiskD} (h : DiskAt w F c d) : ∃ q cap, w.cell? ⟨F.g, 2, none⟩ = some (.slice q d.W.length cap) ∧ ∀ b, F.q = some b → q = some ⟨b, 0, none⟩ := by
  obtain ⟨v, m, h1, h2, h3, h4, h5⟩ := h.mem
  obtain ⟨q, cap, rfl, -, -⟩ := WritesAt.form h4
  refine ⟨q, cap, h1.c3.2.2.1, fun b hb => ?_⟩
  rcases h4.2 with ⟨e, -⟩ | ⟨g, cap', cur, e, -⟩
  · rw [← h5, e] at hb; cases hb
  · rw [← h5, e] at hb
    injection e with e1 e2 e3
    subst e1
    injection hb with hb
    subst hb
    rfl
theorem DiskAt.clear {w : World} {F : Fp} {c c' : Nat} {d : DiskD} (h : DiskAt w F c d) (hc : c ≤ c' + d.W.length) : DiskAt (w.setCell ⟨F.g, 2, none⟩ (.slice none 0 0)) ⟨F.g, F.a, none⟩ c' { d with W := [] } ∧ w.frozen? ⟨F.g, 2, none⟩ = false := by
  obtain ⟨v, m, h1, h2, h3, h4, h5⟩ := h.mem
  have hga := h.ga
  have hset := (AllS.refl (fun k => k = F.g) w).setCell F.g 2 (.slice none 0 0) (.inl rfl)
  exact ⟨⟨⟨h.ok.n1, h.ok.n2, h.ok.K1, fun w hw => (by cases hw)⟩, hga, by simp, by simp, .slice none 0 0, m, h1.set 2 (.slice none 0 0) (by simp), h2.allS hset (fun e => hga e.symm), by simp; omega, World.ownsRow_nil _ _ _ _, rfl⟩, h1.c3.2.2.2.2.2⟩

set_option maxRecDepth 100000 in
set_option maxHeartbeats 1000000 in
theorem disk_Crash {w : World} {F : Fp} {c : Nat} {d : DiskD} (h : DiskAt w F c d) (hc : c + d.W.length ≤ 1099511627776) (L : List Int) (fa : Option Addr) (fc : Nat) (hI : IntsAt w fa L) (hL : L.length ≤ 1099511627776) (hout : L ≠ [] → ∀ a, fa = some a → ¬ F.has a.block) :
    Calls Try.prog 22 #[.pointer (some ⟨F.g, 0, none⟩), .slice fa L.length fc] w fun e w' => e = .returned (.tuple #[]) ∧ DiskAt w' ⟨F.g, F.a, none⟩ c (d.crashD L) ∧ AllS F.has w w' := by
  obtain ⟨q, cap, x2, hq⟩ := h.head
  go_enter Try.func22, Try.ntmps22
  go_wp2_with fail
  go_loopw [11] (fun v11 wr => ∃ k : Nat, k ≤ d.W.length ∧ v11 = .int .i64 k ∧ DiskAt wr F (c + k) { d with K := crashK (d.W.take k) L d.K } ∧ AllS F.has w wr) (fun v _ => d.W.length - (intOf v).toNat)
  case atStart => exact ⟨0, by omega, rfl, by rw [List.take_zero, crashK_nil]; exact h, AllS.refl _ _⟩
  case round =>
    clear x2 h
    obtain ⟨k, hk, rfl, h, ha⟩ := hrel
    by_cases hlt : k < d.W.length
    · have j0 : (0 : Int) ≤ (k : Int) := by omega
      have j1 : (k : Int) < (d.W.length : Int) := by omega
      obtain ⟨b, hFb, a1, a2⟩ := h.reads k hlt
      obtain rfl := hq b hFb
      have hst := crashK_step d.W L d.K k hlt
      obtain ⟨hwk1, hwk2, hwk3⟩ := h.ok.W1 _ (List.getElem_mem hlt)
      simp only at hwk2 a1 a2
      generalize d.W[k] = x at *
      obtain ⟨x1, x2⟩ := x
      simp only at a1 a2 hwk1 hwk2 hwk3 hst
      go_upto_region 3 with fail
      have r5 := RowAt.made wr 83 [.int .i64 x1, .string x2]
      clear a1 a2
      have hal := (Up.refl wr).alloc (.cells #[.int .i64 x1, .string x2] 83)
      have hF : ¬ F.has wr.heap.size := fun hk' => by have := h.lt _ hk'; omega
      replace h := h.up hal
      replace ha := ha.up hal
      clear hal
      generalize wr.heap.size = g5 at *
      generalize wr.alloc (.cells #[.int .i64 x1, .string x2] 83) = w3 at *
      by_cases hl : k < L.length
      · have j2 : (k : Int) < (L.length : Int) := by omega
        rw [dif_pos hl] at hst
        obtain ⟨gi, oi, rfl, hcell⟩ := (hI.allS ha hout) k hl
        generalize L[k] = f at *
        have C1 := Lib.hid (fun w (h : DiskAt w F (c + k) { d with K := crashK (d.W.take k) L d.K }) => disk_meets h (by omega) x1 x2 hwk1 hwk2 hwk3 f)
        simp only at C1
        go_upto_region 4 with fail
        obtain ⟨y0, y1, -, -⟩ := r5.c2
        refine wp_region_later_tail 6 (by kernel_rfl) (by kernel_rfl) ?_
        have l1 := Later.cell_of y0; have l2 := Later.cell_of y1; have l3 := Later.cell_of hcell
        have hne := later_ne w3
        simp only [List.take_succ_cons, List.take_zero]
        repeat (go_big_quiet_step (fail))
        refine wpQuiet_nil ?_
        intro w9 hw9
        obtain ⟨u9, rfl⟩ := hw9
        replace h := h.up u9.up
        replace ha := ha.up u9.up
        clear l1 l2 l3 hne y0 y1 r5 hcell
        generalize u9.world = w9 at *
        simp only [List.drop_succ_cons, List.drop_zero]
        go_wp2_with ((with_reducible refine (C1.out _ h).mono ?_); rintro e wn ⟨rfl, hD, hA⟩)
        rw [← hst] at hD
        exact ⟨⟨k + 1, by omega, by go_num, hD, ha.trans hA⟩, by simp [intOf]; omega⟩
      · have j2 : ¬ (k : Int) < (L.length : Int) := by omega
        rw [dif_neg hl] at hst
        go_wp2_with fail
        rw [← hst] at h
        exact ⟨⟨k + 1, by omega, by go_num, h.mono (by omega), ha⟩, by simp [intOf]; omega⟩
    · have j1 : ¬ (k : Int) < (d.W.length : Int) := by omega
      have hT := Lib.hid (show crashK (d.W.take k) L d.K = crashK d.W L d.K by rw [List.take_of_length_le (by omega)])
      have hkl : c + k ≤ c + d.W.length := by omega
      clear hlt
      obtain ⟨hD, f2⟩ := h.clear (c' := c) (by simp only; omega)
      have y1 := h.head
      obtain ⟨q2, cap2, y2, -⟩ := y1
      go_wp2_with fail
      go_end0
      rw [hT.out] at hD
      exact ⟨rfl, hD, ha.setCell F.g 2 _ (.inl (.inl rfl))⟩
end Go.Proofs.Ytokpkkjgagbpfaa
