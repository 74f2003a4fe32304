import Derived.Test.YtokpkkjgagbpfaaDsWalk3
namespace Bw
open Go
theorem crashK_nil (F : List Int) (K : Int → ByteArray) : crashK [] F K = K := by unfold crashK; rfl
theorem crashK_step : ∀ (W : List WriteD) (L : List Int) (K : Int → ByteArray) (k : Nat) (h : k < W.length), crashK (W.take (k + 1)) L K = if hl : k < L.length then meetK (crashK (W.take k) L K) W[k] L[k] else crashK (W.take k) L K
  | w :: W, [], K, k, h => by simp [crashK]
  | w :: W, f :: L, K, 0, h => by simp [crashK]
  | w :: W, f :: L, K, k + 1, h => by
    have ih := crashK_step W L (meetK K w f) k (by simpa using h)
    simp only [List.take_succ_cons, crashK, List.length_cons, Nat.add_lt_add_iff_right, List.getElem_cons_succ]
    exact ih
/-- A slice of ints reads as l. -/
def IntsAt (w : World) (v : Option Addr) (l : List Int) : Prop := ∀ k (h : k < l.length), ∃ g o, v = some ⟨g, o, none⟩ ∧ w.cell? ⟨g, o + k, none⟩ = some (.int .i64 l[k])
theorem IntsAt.allS {S : Nat → Prop} {w w' : World} {v : Option Addr} {l : List Int} (h : IntsAt w v l) (ha : AllS S w w') (hv : l ≠ [] → ∀ a, v = some a → ¬ S a.block) : IntsAt w' v l := fun k hk => by
  obtain ⟨g, o, e, hc⟩ := h k hk
  exact ⟨g, o, e, ha.cell hc (hv (fun e => by subst e; simp at hk) ⟨g, o, none⟩ e)⟩
theorem IntsAt.up {w w' : World} {v : Option Addr} {l : List Int} (h : IntsAt w v l) (hu : Up w w') : IntsAt w' v l := h.allS (S := fun _ => False) (.of_up hu) fun _ _ _ => id
theorem IntsAt.lt {w : World} {v : Option Addr} {l : List Int} (h : IntsAt w v l) (hl : l ≠ []) : ∀ x, v = some x → x.block < w.heap.size := fun x hx => by
  obtain ⟨g, o, e, hc⟩ := h 0 (List.length_pos_iff.2 hl)
  obtain rfl := Option.some.inj (hx.symm.trans e)
  exact World.block_lt_of_cell? w _ hc
theorem IntsAt.nil (w : World) (v : Option Addr) : IntsAt w v [] := fun k h => absurd h (Nat.not_lt_zero _)
end Bw
namespace Go.Proofs.Ytokpkkjgagbpfaa
set_option maxRecDepth 100000
open Go.RowKit Bw Go.Maps
set_option linter.unusedVariables false

theorem DiskAt.reads {w : World} {F : Fp} {c : Nat} {d : DiskD} (h : DiskAt w F c d) (k : Nat) (hk : k < d.W.length) : ∃ b, F.q = some b ∧ w.cell? ⟨b, k * 2, none⟩ = some (.int .i64 d.W[k].1) ∧ w.cell? ⟨b, k * 2 + 1, none⟩ = some (.string d.W[k].2) := by
  obtain ⟨v, m, h1, h2, h3, h4, h5⟩ := h.mem
  obtain ⟨q, cap, rfl, -, hq⟩ := WritesAt.form h4
  obtain ⟨b, rfl, hb, hob, a1, a2⟩ := hq k hk
  exact ⟨b, h5.symm.trans hob, a1, a2⟩
theorem DiskAt.head {w : World} {F : Fp} {c : Nat} {d : DiskD} (h : DiskAt w F c d) : ∃ q cap, w.cell? ⟨F.g, 2, none⟩ = some (.slice q d.W.length cap) ∧ ∀ b, F.q = some b → q = some ⟨b, 0, none⟩ := by
  obtain ⟨v, m, h1, h2, h3, h4, h5⟩ := h.mem
  obtain ⟨q, cap, rfl, -, -⟩ := WritesAt.form h4
  refine ⟨q, cap, h1.c3.2.2.1, fun b hb => ?_⟩
  rcases h4.2 with ⟨e, -⟩ | ⟨g, cap', cur, e, -⟩
  · rw [← h5, e] at hb; cases hb
  · rw [← h5, e] at hb
    injection e with e1 e2 e3
    subst e1
    injection hb with hb
    subst hb
    rfl
theorem DiskAt.clear {w : World} {F : Fp} {c c' : Nat} {d : DiskD} (h : DiskAt w F c d) (hc : c ≤ c' + d.W.length) : DiskAt (w.setCell ⟨F.g, 2, none⟩ (.slice none 0 0)) ⟨F.g, F.a, none⟩ c' { d with W := [] } ∧ w.frozen? ⟨F.g, 2, none⟩ = false := by
  obtain ⟨v, m, h1, h2, h3, h4, h5⟩ := h.mem
  have hga := h.ga
  have hset := (AllS.refl (fun k => k = F.g) w).setCell F.g 2 (.slice none 0 0) (.inl rfl)
  exact ⟨⟨⟨h.ok.n1, h.ok.n2, h.ok.K1, fun w hw => (by cases hw)⟩, hga, by simp, by simp, .slice none 0 0, m, h1.set 2 (.slice none 0 0) (by simp), h2.allS hset (fun e => hga e.symm), by simp; omega, World.ownsRow_nil _ _ _ _, rfl⟩, h1.c3.2.2.2.2.2⟩

set_option maxRecDepth 100000 in
set_option maxHeartbeats 1000000 in
theorem disk_Crash {w : World} {F : Fp} {c : Nat} {d : DiskD} (h : DiskAt w F c d) (hc : c + d.W.length ≤ 1099511627776) (L : List Int) (fa : Option Addr) (fc : Nat) (hI : IntsAt w fa L) (hL : L.length ≤ 1099511627776) (hout : L ≠ [] → ∀ a, fa = some a → ¬ F.has a.block) :
    Calls Try.prog 22 #[.pointer (some ⟨F.g, 0, none⟩), .slice fa L.length fc] w fun e w' => e = .returned (.tuple #[]) ∧ DiskAt w' ⟨F.g, F.a, none⟩ c (d.crashD L) ∧ AllS F.has w w' := by
  obtain ⟨q, cap, x2, hq⟩ := h.head
  go_enter Try.func22, Try.ntmps22
  go_wp2_with fail
  go_loopw [11] (fun v11 wr => ∃ k : Nat, k ≤ d.W.length ∧ v11 = .int .i64 k ∧ DiskAt wr F (c + k) { d with K := crashK (d.W.take k) L d.K } ∧ AllS F.has w wr) (fun v _ => d.W.length - (intOf v).toNat)
  case atStart => exact ⟨0, by omega, rfl, by rw [List.take_zero, crashK_nil]; exact h, AllS.refl _ _⟩
  case round =>
    clear x2 h
    obtain ⟨k, hk, rfl, h, ha⟩ := hrel
    by_cases hlt : k < d.W.length
    · have j0 : (0 : Int) ≤ (k : Int) := by omega
      have j1 : (k : Int) < (d.W.length : Int) := by omega
      obtain ⟨b, hFb, a1, a2⟩ := h.reads k hlt
      obtain rfl := hq b hFb
      have hst := crashK_step d.W L d.K k hlt
      obtain ⟨hwk1, hwk2, hwk3⟩ := h.ok.W1 _ (List.getElem_mem hlt)
      simp only at hwk2 a1 a2
      generalize d.W[k] = x at *
      obtain ⟨x1, x2⟩ := x
      simp only at a1 a2 hwk1 hwk2 hwk3 hst
      go_upto_region 3 with fail
      have r5 := RowAt.made wr 83 [.int .i64 x1, .string x2]
      clear a1 a2
      have hal := (Up.refl wr).alloc (.cells #[.int .i64 x1, .string x2] 83)
      have hF : ¬ F.has wr.heap.size := fun hk' => by have := h.lt _ hk'; omega
      replace h := h.up hal
      replace ha := ha.up hal
      clear hal
      generalize wr.heap.size = g5 at *
      generalize wr.alloc (.cells #[.int .i64 x1, .string x2] 83) = w3 at *
      by_cases hl : k < L.length
      · have j2 : (k : Int) < (L.length : Int) := by omega
        rw [dif_pos hl] at hst
        obtain ⟨gi, oi, rfl, hcell⟩ := (hI.allS ha hout) k hl
        generalize L[k] = f at *
        have C1 := Lib.hid (fun w (h : DiskAt w F (c + k) { d with K := crashK (d.W.take k) L d.K }) => disk_meets h (by omega) x1 x2 hwk1 hwk2 hwk3 f)
        simp only at C1
        go_upto_region 4 with fail
        obtain ⟨y0, y1, -, -⟩ := r5.c2
        refine wp_region_later_tail 6 (by kernel_rfl) (by kernel_rfl) ?_
        have l1 := Later.cell_of y0; have l2 := Later.cell_of y1; have l3 := Later.cell_of hcell
        have hne := later_ne w3
        simp only [List.take_succ_cons, List.take_zero]
        repeat (go_big_quiet_step (fail))
        refine wpQuiet_nil ?_
        intro w9 hw9
        obtain ⟨u9, rfl⟩ := hw9
        replace h := h.up u9.up
        replace ha := ha.up u9.up
        clear l1 l2 l3 hne y0 y1 r5 hcell
        generalize u9.world = w9 at *
        simp only [List.drop_succ_cons, List.drop_zero]
        go_wp2_with ((with_reducible refine (C1.out _ h).mono ?_); rintro e wn ⟨rfl, hD, hA⟩)
        rw [← hst] at hD
        exact ⟨⟨k + 1, by omega, by go_num, hD, ha.trans hA⟩, by simp [intOf]; omega⟩
      · have j2 : ¬ (k : Int) < (L.length : Int) := by omega
        rw [dif_neg hl] at hst
        go_wp2_with fail
        rw [← hst] at h
        exact ⟨⟨k + 1, by omega, by go_num, h.mono (by omega), ha⟩, by simp [intOf]; omega⟩
    · have j1 : ¬ (k : Int) < (d.W.length : Int) := by omega
      have hT := Lib.hid (show crashK (d.W.take k) L d.K = crashK d.W L d.K by rw [List.take_of_length_le (by omega)])
      have hkl : c + k ≤ c + d.W.length := by omega
      clear hlt
      obtain ⟨hD, f2⟩ := h.clear (c' := c) (by simp only; omega)
      have y1 := h.head
      obtain ⟨q2, cap2, y2, -⟩ := y1
      go_wp2_with fail
      go_end0
      rw [hT.out] at hD
      exact ⟨rfl, hD, ha.setCell F.g 2 _ (.inl (.inl rfl))⟩
end Go.Proofs.Ytokpkkjgagbpfaa
