import Derived.Test.YtokpkkjgagbpfaaDsBack
import Derived.Test.YtokpkkjgagbpfaaDsWalkM
namespace Go.Proofs.Ytokpkkjgagbpfaa
set_option maxRecDepth 100000
open Go.RowKit Bw Go.Shelf
set_option linter.unusedVariables false
attribute [local go_sem] Oper.semAt_some

theorem WritesAt.addr {w : World} {e : TypeId} {q : Option Addr} {n cap : Nat} {l : List WriteD} (h : WritesAt w e (.slice q n cap) l) : ∀ a, q = some a → ∃ b, a = ⟨b, 0, none⟩ ∧ b < w.heap.size := by
  rintro a rfl
  rcases h.2 with ⟨e, -⟩ | ⟨g, cap', cur, e, -, hg, -⟩
  · cases e
  · injection e with e1 e2 e3; injection e1 with e1; exact ⟨g, e1, (Array.getElem?_eq_some_iff.1 hg).1⟩

set_option maxRecDepth 100000 in
set_option maxHeartbeats 4000000 in
theorem raw_in {w : World} {F : Fp} {c : Nat} {d : DiskD} (h : DiskAt w F c d) (hc : c ≤ 1099511627776) (p : Int) (hp : d.hasB p = true) :
    Calls Try.prog 25 #[.pointer (some ⟨F.g, 0, none⟩), .int .i64 p] w fun e w' => e = .returned (.string (lastW d.W p (d.K p))) ∧ Below w.heap.size w w' := by
  have hpr := hasB_iff.1 hp
  have hwf := page_wf h.ok hpr.1 hpr.2
  have hhas := fun w (h : DiskAt w F c d) => disk_has h p
  rw [hp] at hhas
  have CH := Lib.hid hhas; clear hhas
  have CK := Lib.hid (fun w (h : DiskAt w F c d) => disk_kept h p hwf)
  obtain ⟨v, m, h1, h2, h3, h4, h5⟩ := h.mem
  obtain ⟨q, cap, rfl, hq0, hq⟩ := WritesAt.form h4
  have hq1 := WritesAt.addr h4
  have hl : d.W.length ≤ 1099511627776 := by omega
  refine (callsIn_wide (n := 6)).1 ?_
  refine callsIn_of_wp_marks Try.func25 rfl trivial ?_ rfl
  simp only [Try.ntmps25, List.size_toArray, List.length_cons, List.length_nil, Nat.reduceAdd, Nat.reduceSub, Array.replicate_succ, Array.replicate_zero, List.push_toArray, List.append_toArray, List.nil_append, List.cons_append]
  have bP := (Boxed.new w 3 (.int .i64 p)).alloc (.cells #[.string ⟨#[]⟩] 9)
  have bR := Boxed.new (w.alloc (.cells #[.int .i64 p] 3)) 9 (.string ⟨#[]⟩)
  have hB0 : Below w.heap.size w ((w.alloc (.cells #[.int .i64 p] 3)).alloc (.cells #[.string ⟨#[]⟩] 9)) := ((Below.refl _ w).alloc (Nat.le_refl _) _).alloc (by simp) _
  simp only [World.size_alloc] at bR
  have hD := h.up hB0
  have x2 := (h1.up hB0).c3.2.2.1
  have cP := bP.cell
  gi_wp2_with (first
    | (refine ⟨trivial, ?_⟩; gi_at_call 57; refine (callsIn_wide.2 (CH.out _ hD)).mono ?_; rintro e w' ⟨rfl, rfl⟩)
    | (refine ⟨trivial, ?_⟩; gi_at_call 58; refine (back_in Fence.wide (6 - 1) trivial rfl _ _ _ _).mono ?_; rintro e w' ⟨rfl, rfl⟩))
  have bP0 := bP.alloc (.cells #[.slice q d.W.length cap] 59)
  have bR0 := bR.alloc (.cells #[.slice q d.W.length cap] 59)
  have bS0 := Boxed.new ((w.alloc (.cells #[.int .i64 p] 3)).alloc (.cells #[.string ⟨#[]⟩] 9)) 59 (.slice q d.W.length cap)
  simp only [World.size_alloc] at bS0
  have hB1 : Below w.heap.size w (((w.alloc (.cells #[.int .i64 p] 3)).alloc (.cells #[.string ⟨#[]⟩] 9)).alloc (.cells #[.slice q d.W.length cap] 59)) := hB0.alloc (by simp; omega) _
  have hsz : (((w.alloc (.cells #[.int .i64 p] 3)).alloc (.cells #[.string ⟨#[]⟩] 9)).alloc (.cells #[.slice q d.W.length cap] 59)).heap.size = w.heap.size + 3 := by simp
  clear bP bR hB0 hD x2 cP
  generalize ((w.alloc (.cells #[.int .i64 p] 3)).alloc (.cells #[.string ⟨#[]⟩] 9)).alloc (.cells #[.slice q d.W.length cap] 59) = W0 at *
  have hI : ∀ i (hi : i < d.W.length), ∃ b, q = some ⟨b, 0, none⟩ ∧ b < W0.heap.size ∧ W0.cell? ⟨b, i * 2, none⟩ = some (.int .i64 d.W[i].1) ∧ W0.cell? ⟨b, i * 2 + 1, none⟩ = some (.string d.W[i].2) := fun i hi => by
    obtain ⟨b, e, hb, -, a1, a2⟩ := hq i hi
    exact ⟨b, e, by omega, (hB1.cell (p := ⟨b, i * 2, none⟩) hb).trans a1, (hB1.cell (p := ⟨b, i * 2 + 1, none⟩) hb).trans a2⟩
  have hq2 : ∀ a, q = some a → ∃ b, a = ⟨b, 0, none⟩ ∧ b < W0.heap.size := fun a ha => by
    obtain ⟨b, e, hb⟩ := hq1 a ha
    exact ⟨b, e, by omega⟩
  refine wpIn_rangeFunc_ownH (F := Fence.wide) rfl (by omega) (gf := 77) (lb := #[.pointer (some ⟨w.heap.size + 1 + 1, 0, none⟩)]) rfl trivial (enters_of Try.func77 (by kernel_rfl) rfl)
    (back_stops Fence.wide (6 - 1) trivial rfl (by omega) (w.heap.size + 1 + 1) q cap d.W hl W0 bS0.cell hq0 hI hq2) belowK_t (belowK_b (Nat.le_refl _)) (Below.refl _ _) (fun _ => rfl)
    (fun pre W => ((∀ x ∈ pre, x.2.1 ≠ p) ∧ Boxed W (w.heap.size + 1) 9 (.string ⟨#[]⟩) ∧ Boxed W w.heap.size 3 (.int .i64 p)) ∧ Below W0.heap.size W0 W)
    (fun c pre W => (c = .ret ∧ ∃ ini last, pre = ini ++ [last] ∧ (∀ x ∈ ini, x.2.1 ≠ p) ∧ last.2.1 = p ∧ Boxed W (w.heap.size + 1) 9 (.string last.2.2)) ∧ Below w.heap.size w W)
    (OwnFrom.and (Own.from (fun s X Y row hs hg hr => ⟨hs.1, boxed_own _ _ (fun (_ : Unit) => Value.string ⟨#[]⟩) () X Y row hs.2.1 hg hr, boxed_own _ _ (fun (_ : Unit) => Value.int .i64 p) () X Y row hs.2.2 hg hr⟩) _) (ownFrom_below (Nat.le_refl _) (Nat.le_refl _)))
    (fun c => OwnFrom.and (Own.from (fun s X Y row hs hg hr => by obtain ⟨hc, ini, last, e1, e2, e3, e4⟩ := hs; exact ⟨hc, ini, last, e1, e2, e3, boxed_own _ _ (fun (_ : Unit) => Value.string last.2.2) () X Y row e4 hg hr⟩) _) (ownFrom_below (Nat.le_refl _) (by omega)))
    ⟨⟨by simp, bR0, bP0⟩, Below.refl _ _⟩
    (fun x a' W => ∃ Bx, w.heap.size + 1 < Bx ∧ (W.cell? ⟨Bx, 0, none⟩ = some (.int .i64 x.2.1) ∧ W.cell? ⟨Bx, 1, none⟩ = some (.string x.2.2)) ∧ a' = { tmps := #[.pointer (some ⟨F.g, 0, none⟩), .int .i64 p, undef, .pointer (some ⟨w.heap.size, 0, none⟩), .pointer (some ⟨w.heap.size + 1, 0, none⟩), undef, .pointer (some ⟨Bx, 0, none⟩), .pointer (some ⟨F.g, 0, none⟩), .int .i64 p, .bool true, .bool false, .pointer (some ⟨F.g, 0, none⟩), .pointer (some ⟨F.g, 0, none⟩), .pointer (some ⟨F.g, 2, none⟩), .slice q d.W.length cap, .func (.func 77) #[] #[.pointer (some ⟨w.heap.size + 1 + 1, 0, none⟩)], .int .i64 x.1, .agg #[.int .i64 x.2.1, .string x.2.2], undef, undef, undef, undef, undef, undef, undef, undef, undef], defers := [] })
    (fun x a' _ X Y row hs hg hr => by obtain ⟨Bx, h1, h2, h3⟩ := hs; exact ⟨Bx, h1, ⟨cell_kept h2.1 hg (fun r e => (hr r e).2), cell_kept h2.2 hg (fun r e => (hr r e).2)⟩, h3⟩)
    ?assign ?body ?done ?stop
  case assign =>
    rintro l pre x W K ⟨⟨hp1, bR1, bP1⟩, hB2⟩ hK
    have hszW := hB2.size
    have hlR := bR1.lt
    have hr := RowAt.made W 83 [.int .i64 x.2.1, .string x.2.2]
    gi_wp2
    exact hK _ _ ((KeepsOthers.alloc _ _).from _) ((Below.refl _ W).alloc hszW _) ⟨⟨hp1, bR1.alloc _, bP1.alloc _⟩, hB2.alloc hszW _⟩ ⟨W.heap.size, by omega, ⟨hr.c2.1, hr.c2.2.1⟩, rfl⟩
  case body =>
    rintro l pre x a' W hl ⟨r, hr⟩ ⟨⟨hp1, bR1, bP1⟩, hB2⟩ ⟨Bx, hBx, ⟨cx0, cx1⟩, rfl⟩ hlt
    have cP := bP1.cell
    have cR := bR1.cell
    have fR := bR1.frozen
    have h1' : 1 ≤ 6 - 1 - 1 := by omega
    by_cases hx : x.2.1 = p
    · have hxb : (x.2.1 == p) = true := by rw [hx]; simp
      gi_wp2
      exact ⟨(KeepsOthers.setCell _ _ _).from _, ⟨rfl, pre, x, rfl, hp1, hx, bR1.set _⟩, Up.setCell (Up.next hB1 hB2) _ _ _ (by omega)⟩
    · have hxb : (x.2.1 == p) = false := beq_eq_false_iff_ne.2 hx
      gi_wp2
      exact ⟨KeepsFrom.refl _ _, Below.refl _ _, ⟨fun y hy => (List.mem_append.1 hy).elim (hp1 y) (fun e => by simp at e; subst e; exact hx), bR1, bP1⟩, hB2⟩
  case done =>
    rintro D ys W hD rfl ⟨⟨hne, bR1, bP1⟩, hB2⟩ hK
    have hU := Up.next hB1 hB2
    have hDk := h.up hU
    have cP := bP1.cell
    have hlast := Lib.hid (down_none hne (d.K p))
    have hDl := (Array.getElem?_eq_some_iff.1 hK).1
    gi_wp2_with (refine ⟨trivial, ?_⟩; gi_at_call 59; refine (callsIn_wide.2 (CK.out _ hDk)).mono ?_; rintro e w2 ⟨rfl, hw⟩; have bR2 : Boxed w2 (w.heap.size + 1) 9 (.string ⟨#[]⟩) := (Below.block hw _ bR1.lt).trans bR1; have hK2 := (Below.block hw _ hDl).trans hK; have hU2 := Up.next hU hw; have cR := bR2.cell; have fR := bR2.frozen)
    have hK' := (KeepsOthers.setCell w2 ⟨w.heap.size + 1, 0, none⟩ (.string (d.K p))).same D _ hK2 rfl
    refine ⟨by simp, .inl ⟨_, _, rfl, run_takeDeferred hK', ?_⟩⟩
    have hc5 := cell_kept (World.cell?_setCell_same' w2 ⟨w.heap.size + 1, 0, none⟩ (.string (d.K p)) (by rw [cR]; rfl)) (grownBy_putObj' _ D (.deferred none)) (fun r e => by cases e; exact ⟨_, hK', rfl⟩)
    refine ⟨.string (d.K p), ?_, by rw [hlast.out], (show Below w.heap.size w (w2.setCell ⟨w.heap.size + 1, 0, none⟩ (.string (d.K p))) from Up.setCell hU2 _ _ _ (by omega)).trans (belowK_b (w := w) (Nat.le_refl _) _ D _ _ (by omega) hK' rfl rfl)⟩
    simp [results, Try.f25, go_sem, hc5]
  case stop =>
    rintro D c' pre W hD ⟨k, hk, rfl⟩ ⟨⟨rfl, ini, last, e1, e2, e3, bR1⟩, hB⟩ hK
    have cR := bR1.cell
    obtain ⟨k', rfl⟩ : ∃ k', k = k' + 1 := by
      cases k with
      | zero => simp [downW] at e1
      | succ k' => exact ⟨k', rfl⟩
    rw [downW_succ] at e1
    obtain ⟨rfl, e5⟩ := List.append_inj' e1 rfl
    obtain rfl : downE d.W k' = last := by simpa using e5
    obtain ⟨i, hi, rfl⟩ : ∃ i, i < d.W.length ∧ k' = d.W.length - (i + 1) := ⟨d.W.length - 1 - k', by omega, by omega⟩
    rw [downE_at d.W i hi] at e3 bR1 cR
    have hlast := Lib.hid (down_at hi e2 e3 (d.K p))
    simp only at bR1 cR
    clear e1 e2 e3 e5
    generalize d.W[i] = y at *
    gi_wp2
    refine ⟨by simp, .inl ⟨_, _, rfl, run_takeDeferred hK, ?_⟩⟩
    have hc5 := cell_kept cR (grownBy_putObj' _ D (.deferred none)) (fun r e => by cases e; exact ⟨_, hK, rfl⟩)
    refine ⟨.string y.2, ?_, by rw [hlast.out], hB.trans (belowK_b (w := w) (Nat.le_refl _) W D _ _ (by omega) hK rfl rfl)⟩
    simp [results, Try.f25, go_sem, hc5]

set_option maxRecDepth 100000 in
set_option maxHeartbeats 400000 in
theorem disk_Raw {w : World} {F : Fp} {c : Nat} {d : DiskD} (h : DiskAt w F c d) (hc : c ≤ 1099511627776) (p : Int) :
    Calls Try.prog 25 #[.pointer (some ⟨F.g, 0, none⟩), .int .i64 p] w fun e w' => e = .returned (.string (d.rawD p)) ∧ Below w.heap.size w w' := by
  unfold DiskD.rawD
  by_cases hp : d.hasB p = true
  · rw [if_pos hp]; exact raw_in h hc p hp
  · rw [if_neg hp]
    have hhas := fun w (h : DiskAt w F c d) => disk_has h p
    rw [show d.hasB p = false by simpa using hp] at hhas
    have CH := Lib.hid hhas; clear hhas hp
    have bP := (Boxed.new w 3 (.int .i64 p)).alloc (.cells #[.string ⟨#[]⟩] 9)
    have bR := Boxed.new (w.alloc (.cells #[.int .i64 p] 3)) 9 (.string ⟨#[]⟩)
    have hB0 : Below w.heap.size w ((w.alloc (.cells #[.int .i64 p] 3)).alloc (.cells #[.string ⟨#[]⟩] 9)) := ((Below.refl _ w).alloc (Nat.le_refl _) _).alloc (by simp) _
    simp only [World.size_alloc] at bR
    have hD := h.up hB0
    have cP := bP.cell
    have cR := bR.cell
    have fR := bR.frozen
    go_enter Try.func25, Try.ntmps25
    go_wp2_with ((with_reducible refine (CH.out _ hD).mono ?_); rintro e w1 ⟨rfl, rfl⟩)
    refine bodyPost_ret (v := .string ⟨#[]⟩) ?_ rfl ⟨rfl, hB0⟩
    simp [results, Try.results25, go_sem, *]
set_option maxRecDepth 100000 in
set_option maxHeartbeats 400000 in
theorem disk_Read {w : World} {F : Fp} {c : Nat} {d : DiskD} (h : DiskAt w F c d) (hc : c ≤ 1099511627776) (p : Int) :
    Calls Try.prog 81 #[.pointer (some ⟨F.g, 0, none⟩), .int .i64 p] w fun e w' => e = .returned (.tuple #[.string (d.readS p), .int .i64 (d.readE p)]) ∧ Below w.heap.size w w' := by
  have hhas := fun w (h : DiskAt w F c d) => disk_has h p
  have hraw := fun w (h : DiskAt w F c d) => disk_Raw h hc p
  have hopen := fun w => sum_Open (d.rawD p) w (by have := rawD_size h.ok p; omega)
  unfold DiskD.readS DiskD.readE
  by_cases hp : d.hasB p = true
  · rw [hp] at hhas
    rw [if_pos hp, if_pos hp]
    clear hp
    generalize openS (d.rawD p) = S at *
    generalize openE (d.rawD p) = E at *
    generalize d.rawD p = R at *
    have CH := Lib.hid hhas; have CR := Lib.hid hraw; have CO := Lib.hid hopen
    clear hhas hraw hopen
    have hu := Up.refl w
    have hh := h
    go_enter Try.func81, Try.ntmps81
    go_wp2_with (first
      | ((with_reducible refine (CH.out _ h).mono ?_); rintro e w1 ⟨rfl, rfl⟩)
      | ((with_reducible refine (CR.out _ h).mono ?_); rintro e w1 ⟨rfl, hw⟩; replace hu := hu.next hw; clear hw)
      | ((with_reducible refine (CO.out _).mono ?_); rintro e w1 ⟨rfl, hw⟩; replace hu := hu.next hw; clear hw))
    go_ret2
    exact ⟨rfl, hu⟩
  · rw [show d.hasB p = false by simpa using hp] at hhas
    rw [if_neg hp, if_neg hp]
    have CH := Lib.hid hhas
    clear hhas hraw hopen hp
    go_enter Try.func81, Try.ntmps81
    go_wp2_with ((with_reducible refine (CH.out _ h).mono ?_); rintro e w1 ⟨rfl, rfl⟩)
    go_ret2
    exact ⟨rfl, Below.refl _ _⟩
end Go.Proofs.Ytokpkkjgagbpfaa
