import Derived.Test.YtokpkkjgagbpfaaDsAt
namespace Go.Proofs.Ytokpkkjgagbpfaa
open Go.RowKit Bw Go.Maps
set_option linter.unusedVariables false

set_option maxRecDepth 100000 in
set_option maxHeartbeats 400000 in
theorem disk_Len {w : World} {F : Fp} {c : Nat} {d : DiskD} (h : DiskAt w F c d) :
    Calls Try.prog 37 #[.pointer (some ⟨F.g, 0, none⟩)] w fun e w' => e = .returned (.int .i64 d.n) ∧ w = w' := by
  obtain ⟨v, m, h1, -⟩ := h.mem
  obtain ⟨x0, -, -, -⟩ := h1.c3
  clear h h1
  go_enter Try.func37, Try.ntmps37
  go_wp2_with fail
  go_ret
  exact ⟨rfl, rfl⟩

set_option maxRecDepth 100000 in
set_option maxHeartbeats 400000 in
theorem disk_New_no (n : Int) (hn : ¬ (1 ≤ n ∧ n ≤ 1024)) (w : World) :
    Calls Try.prog 10 #[.int .i64 n] w fun e w' => e = .returned (.tuple #[.pointer none, .int .i64 1]) ∧ w = w' := by
  by_cases h1 : n < 1
  · clear hn
    go_enter Try.func10, Try.ntmps10
    go_wp2_with fail
    go_ret2
    exact ⟨rfl, rfl⟩
  · have h2 : 1024 < n := by omega
    clear hn
    go_enter Try.func10, Try.ntmps10
    go_wp2_with fail
    go_ret2
    exact ⟨rfl, rfl⟩
set_option maxRecDepth 100000 in
set_option maxHeartbeats 400000 in
theorem disk_New (n : Nat) (h1 : 1 ≤ n) (h2 : n ≤ 1024) (w : World) :
    Calls Try.prog 10 #[.int .i64 n] w fun e w' => e = .returned (.tuple #[.pointer (some ⟨w.heap.size + 1, 0, none⟩), .int .i64 0]) ∧ DiskAt w' ⟨w.heap.size + 1, w.heap.size, none⟩ 0 (initD n) ∧ Below w.heap.size w w' := by
  have hmm := @run_makeMap Try.prog
  have j1 : ¬ (n : Int) < 1 := by omega
  have j2 : ¬ 1024 < (n : Int) := by omega
  go_enter Try.func10, Try.ntmps10
  go_wp2_with fail
  go_ret2
  have hm := MapAt.made w
  refine ⟨rfl, ⟨initD_ok h1 h2, by simp, by simp, by simp, .slice none 0 0, 0, ?_, ?_, by simp [initD], World.ownsRow_nil _ _ _ _, rfl⟩, ?_⟩
  · have := RowAt.made (w.alloc (.map #[] 0)) 61 [.int .i64 n, .map (some w.heap.size), .slice none 0 0]
    simpa [initD] using this
  · exact hm.up ((Up.refl _).alloc _)
  · exact ((Up.refl w).alloc _).alloc _

theorem infoW : (Try.prog.info? 83).map (fun i => (i.zero, i.size, i.bytes)) = some (some (.agg #[.int .i64 0, .string ⟨#[]⟩]), 2, 24) := by kernel_rfl
theorem own_form2 {w : World} {base : Nat} {e : TypeId} {v : Value} {n : Nat} {xs : List Value} (h : w.ownsRow base e 2 v (n + 1) xs) : ∃ b cap, v = .slice (some ⟨b, 0, none⟩) (n + 1) cap := by
  rcases h.2 with ⟨_, h0⟩ | ⟨g, cap, cur, rfl, _⟩
  · omega
  · exact ⟨g, cap, rfl⟩

set_option maxRecDepth 100000 in
set_option maxHeartbeats 1000000 in
theorem disk_Write {w : World} {F : Fp} {c : Nat} {d : DiskD} (h : DiskAt w F c d) (hc : c ≤ 1099511627776) (p : Int) (s : ByteArray) (hs : s.size ≤ 1099511627776) :
    Calls Try.prog 72 #[.pointer (some ⟨F.g, 0, none⟩), .int .i64 p, .string s] w fun e w' => e = .returned (.int .i64 (d.writeE p s)) ∧
      ∃ F', DiskAt w' F' (c + 1) (d.writeD p s) ∧ F.turns F' w.heap.size ∧ AllS F.has w w' := by
  have c0 := fun w (h : DiskAt w F c d) => disk_has h p
  have c1 := fun w => sum_Seal s w hs
  by_cases hp : d.hasB p = true
  · have hE : d.writeE p s = sealE s := by rw [DiskD.writeE, if_pos hp]
    rw [hp] at c0
    have C0 := Lib.hid c0
    by_cases h0 : sealE s = 0
    · have hW : d.writeD p s = { d with W := d.W ++ [(p, sealS s)] } := by rw [DiskD.writeD, hE, if_pos h0]
      have hok := writeD_ok h.ok p s
      rw [h0] at hE c1
      rw [hW] at hok
      rw [hE, hW]
      have C1 := Lib.hid c1; clear c0 c1 hE hW h0
      generalize sealS s = raw at *
      obtain ⟨v, m, h1, h2, h3, h4, h5⟩ := h.mem
      obtain ⟨q, cap, rfl, -, -⟩ := WritesAt.form h4
      obtain ⟨inf, hi0', hz0, hz1, hz2⟩ := info_parts infoW
      have HI := Lib.hid (show Try.prog.info? 83 = some inf ∧ inf.zero = _ ∧ inf.size = 2 ∧ inf.bytes = 24 from ⟨hi0', hz0, hz1, hz2⟩)
      clear hi0' hz0 hz1 hz2
      have ha := AllS.refl F.has w
      have hga := h.ga; have hgq := h.gq; have haq := h.aq
      go_enter Try.func72, Try.ntmps72
      go_upto_region 5 with (first
        | ((with_reducible refine (C0.out _ h).mono ?_); rintro e w1 ⟨rfl, rfl⟩)
        | ((with_reducible refine (C1.out _).mono ?_); rintro e w1 ⟨rfl, hw⟩; replace h1 := h1.up hw; replace h2 := h2.up hw; replace h4 := ownsRow_allS h4 (AllS.of_up (S := fun _ => False) hw) (fun _ _ => id); replace ha := ha.next hw; clear hw))
      clear h C0 C1
      have r6 := RowAt.made w1 83 [.int .i64 p, .string raw]
      have hgl := h1.lt
      have hal := h2.lt
      obtain ⟨x0, x1, x2, f0, f1, f2⟩ := h1.c3
      replace h1 := h1.alloc (.cells #[.int .i64 p, .string raw] 83)
      replace h2 := h2.up ((Up.refl _).alloc (.cells #[.int .i64 p, .string raw] 83))
      replace h4 := h4.alloc (.cells #[.int .i64 p, .string raw] 83)
      replace ha := ha.alloc (.cells #[.int .i64 p, .string raw] 83)
      have hsz := ha.size
      obtain ⟨hi0', hz0, hz1, hz2⟩ := HI.out
      have hcn : d.W.length ≤ c := by omega
      go_wp2_with (at_builtin; refine wpList_append_own_at _ rfl _ _ 59 rfl 0 83 inf (.agg #[.int .i64 0, .string ⟨#[]⟩]) 2 24 (by kernel_rfl) hi0' hz0 hz1 hz2 rfl (by decide) _ _ _ rfl h4 ⟨w1.heap.size, 0, none⟩ 1 1 [.int .i64 p, .string raw] rfl rfl r6.addsAt (fun x hx => by simp at hx; rcases hx with rfl | rfl <;> rfl) (by unfold maxLen; omega) (by omega) (by omega) ?_; intro v' w5 how' hgrow _ hloc; obtain ⟨b5, c5, rfl⟩ := own_form2 how'; have hl2 : (some b5 : Option Nat) = (Value.slice q d.W.length cap).ownBlock ∨ (some b5 : Option Nat) = some (w1.alloc (.cells #[.int .i64 p, .string raw] 83)).heap.size := hloc; clear hloc; clear x0 x1 x2 f0 f1 f2; have hng : ∀ k, (Value.slice q d.W.length cap).ownBlock = some k → k ≠ F.g ∧ k ≠ F.a := (fun k hk => ⟨fun e => hgq (by rw [← h5, hk, e]), fun e => haq (by rw [← h5, hk, e])⟩); replace h1 := h1.grownBy hgrow (fun k hk => (hng k hk).1); replace ha := ha.grown hgrow (fun k hk => .inl (.inr (.inr (h5.symm.trans hk)))); replace h2 := h2.allS (AllS.grown (S := fun k => (Value.slice q d.W.length cap).ownBlock = some k) (.refl _ _) hgrow (fun k hk => .inl hk)) (fun hk => (hng _ hk).2 rfl); clear h4 hgrow r6; obtain ⟨x0, x1, x2, f0, f1, f2⟩ := h1.c3)
      have hb5 : b5 ≠ F.g ∧ b5 ≠ F.a := by
        rcases hl2 with e | e
        · exact hng _ e.symm
        · rw [World.size_alloc] at e
          injection e with e
          omega
      have hsz1 : w.heap.size ≤ w1.heap.size + 1 := by rw [World.size_alloc] at hsz; exact hsz
      go_ret
      have hset := (AllS.refl (fun k => k = F.g) w5).setCell F.g 2 (.slice (some ⟨b5, 0, none⟩) (d.W.length + 1) c5) (.inl rfl)
      refine ⟨rfl, ⟨F.g, F.a, some b5⟩, ⟨hok, hga, fun e => hb5.1 (by injection e), fun e => hb5.2 (by injection e), .slice (some ⟨b5, 0, none⟩) (d.W.length + 1) c5, m, ?_, h2.allS hset (fun e => hga e.symm), ?_, ?_, rfl⟩, ⟨rfl, rfl, fun k hk => ?_⟩, ha.setCell F.g 2 _ (.inl (.inl rfl))⟩
      · exact h1.set 2 (.slice (some ⟨b5, 0, none⟩) (d.W.length + 1) c5) (by simp)
      · simp; omega
      · have hw := ownsRow_allS how' hset (fun k hk e => hb5.1 ((Option.some.inj (show some b5 = some k from hk)).trans e))
        unfold WritesAt
        rw [cellsW_append, show (d.W ++ [(p, raw)]).length = d.W.length + 1 by simp]
        exact hw
      · injection hk with hk
        subst hk
        rcases hl2 with e | e
        · exact .inl (h5.symm.trans e.symm)
        · rw [World.size_alloc] at e
          injection e with e
          exact .inr (by omega)
    · have hE2 : sealE s = 2 := by unfold sealE at h0 ⊢; split at h0 <;> simp_all
      have hW : d.writeD p s = d := by rw [DiskD.writeD, hE, if_neg h0]
      rw [hW, hE, hE2]
      rw [hE2] at c1
      have C1 := Lib.hid c1; clear c0 c1 hE hW h0 hE2
      have hh := h
      have hu := Up.refl w
      go_enter Try.func72, Try.ntmps72
      go_wp2_with (first
        | ((with_reducible refine (C0.out _ h).mono ?_); rintro e w1 ⟨rfl, rfl⟩)
        | ((with_reducible refine (C1.out _).mono ?_); rintro e w1 ⟨rfl, hw⟩; replace hu := hu.next hw; clear hw))
      go_ret
      exact ⟨rfl, F, (hh.up hu).mono (by omega), Fp.turns.refl _ _, AllS.of_up hu⟩
  · have hE : d.writeE p s = 1 := by rw [DiskD.writeE, if_neg hp]
    have hW : d.writeD p s = d := by rw [DiskD.writeD, hE]; simp
    rw [hW, hE]
    rw [show d.hasB p = false by simpa using hp] at c0
    have C0 := Lib.hid c0
    clear c0 c1 hE hW
    have hh := h
    go_enter Try.func72, Try.ntmps72
    go_wp2_with (first
      | ((with_reducible refine (C0.out _ h).mono ?_); rintro e w1 ⟨rfl, rfl⟩))
    go_ret
    exact ⟨rfl, F, hh.mono (by omega), Fp.turns.refl _ _, AllS.refl _ _⟩
end Go.Proofs.Ytokpkkjgagbpfaa
