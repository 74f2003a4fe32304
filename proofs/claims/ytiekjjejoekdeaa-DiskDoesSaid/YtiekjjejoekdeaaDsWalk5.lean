import Derived.Shelf.SlMaps.Clone
import Derived.Test.YtiekjjejoekdeaaDsWalk4
namespace Go.Proofs.Ytiekjjejoekdeaa
open Go.RowKit Bw Go.Maps
set_option linter.unusedVariables false

set_option maxHeartbeats 2000000 in
theorem maps_Clone_run (b : Nat) (es : Array MapEntry) (clock : Nat) (w : World) (hb : w.heap[b]? = some (.map es clock)) :
    Calls Try.prog 30 #[.map (some b)] w fun e w' => e = .returned (.map (some w.heap.size)) ∧ w' = w.alloc (.map es clock) := by
  have hq := fun w => run_eql_map_nil_sl (P := Try.prog) w 55 _ _ (some b) Try.underlying55
  go_enter Try.func30, Try.ntmps30
  go_wp2
  rw [run_callFunc_extern Try.func45 (by kernel_rfl) (by kernel_rfl) (by kernel_rfl) (e := Extern.MapsClone.clone) (by kernel_rfl), run_maps_clone_sl w 55 hb]
  simp only [Result.andThen]
  rw [Oper.upon_value]
  go_wp2
  rw [run_typeAssert_map_sl _ 55 20 _ _ _ Try.underlying55]
  simp only [Result.andThen]
  rw [Oper.upon_value]
  go_wp2
  go_ret
  exact ⟨rfl, rfl⟩
theorem maps_Clone {w : World} {b n : Nat} {K : Int → ByteArray} (h : MapAt w b n K) :
    Calls Try.prog 30 #[.map (some b)] w fun e w' => e = .returned (.map (some w.heap.size)) ∧ MapAt w' w.heap.size n K ∧ Below w.heap.size w w' := by
  obtain ⟨D, ⟨es, clock, hb, F, hs, hD⟩, h2⟩ := h
  refine (maps_Clone_run b es clock w hb).mono fun e w' ⟨he, hw⟩ => ?_
  subst hw
  exact ⟨he, ⟨D, ⟨es, clock, (MapKept.heap_alloc w _).1, F, hs, hD⟩, h2⟩, (Below.refl _ w).alloc (Nat.le_refl _) _⟩

theorem WritesAt.adds {w : World} {e : TypeId} {b cap : Nat} {l : List WriteD} (h : WritesAt w e (.slice (some ⟨b, 0, none⟩) l.length cap) l) : ∀ j u, (cellsW l)[j]? = some u → w.cell? ((⟨b, 0, none⟩ : Addr).add j) = some u := World.ownsRow.cells h rfl
theorem cellsW_one (l : List WriteD) : ∀ u ∈ cellsW l, u.oneCell' = true := by
  intro u hu
  simp only [cellsW, List.mem_flatMap] at hu
  obtain ⟨x, _, hx⟩ := hu
  simp at hx
  rcases hx with rfl | rfl <;> rfl
theorem WritesAt.up {w w' : World} {e : TypeId} {v : Value} {l : List WriteD} (h : WritesAt w e v l) (hu : Up w w') : WritesAt w' e v l := ownsRow_allS h (AllS.of_up (S := fun _ => False) hu) (fun _ _ => id)
/-- A clone of a slice of writes lies in memory of its own. -/
def CloneW (w : World) (e : TypeId) (l : List WriteD) (en : Ending) (w' : World) : Prop := ∃ v, en = .returned v ∧ WritesAt w' e v l ∧ (∀ k, v.ownBlock = some k → w.heap.size ≤ k) ∧ Below w.heap.size w w'
set_option maxHeartbeats 1000000 in
theorem slices_Clone {w : World} {v : Value} {l : List WriteD} (h : WritesAt w 66 v l) (hl : l.length ≤ 1099511627776) :
    Calls Try.prog 31 #[v] w (CloneW w 66 l) := by
  have q22 : ∀ (w : World) (a : Option Addr) (n c n' c' : Nat), (binOp .eql 56 (.slice a n c) (.slice none n' c')).run Try.prog w = .ok (.bool a.isNone) w := fun w a n c n' c' => Lib.run_eql_slice_nil w _ _ a n c n' c' Try.underlying56
  obtain ⟨q, cap, rfl, hq0, -⟩ := WritesAt.form h
  have hc := h.2
  cases q with
  | none =>
    obtain ⟨rfl, rfl⟩ := hq0 rfl
    clear hc
    go_enter Try.func31, Try.ntmps31
    go_wp2
    go_ret
    exact ⟨.slice none 0 0, rfl, World.ownsRow_nil _ _ _ _, fun k hk => (by cases hk), Below.refl _ _⟩
  | some a =>
    obtain ⟨b, rfl⟩ : ∃ b, a = ⟨b, 0, none⟩ := by
      rcases hc with ⟨e, -⟩ | ⟨g, cap', cur, e, -⟩
      · cases e
      · injection e with e1 e2 e3; injection e1 with e1; exact ⟨g, e1⟩
    clear hc hq0
    obtain ⟨inf, hi0', hz0, hz1, hz2⟩ := info_parts infoW
    have hcl := cellsW_length l
    have h4 := World.ownsRow.alloc h (.cells #[] 66)
    have hadd := WritesAt.adds h4
    go_enter Try.func31, Try.ntmps31
    go_wp2_with (at_builtin; refine wpList_append_own _ rfl _ _ 56 rfl w.heap.size 66 inf (.agg #[.int .i64 0, .string ⟨#[]⟩]) 2 24 (by kernel_rfl) hi0' hz0 hz1 hz2 rfl (by decide) _ _ _ rfl (World.ownsRow_made w #[] 0 (Nat.le_refl _) (Nat.zero_le _) (by simp)) ⟨b, 0, none⟩ l.length cap (cellsW l) rfl hcl hadd (cellsW_one l) (by unfold maxLen; omega) (by omega) (by simp) ?_; intro v' w1 hown hgrow _)
    go_ret
    rw [Nat.zero_add, List.nil_append] at hown
    refine ⟨v', rfl, ⟨hown.1, ?_⟩, fun k hk => (hown.lt k hk).1, ((Below.refl _ w).alloc (Nat.le_refl _) _).grown hgrow (by simp) (by intro k hk; have e : some w.heap.size = some k := hk; injection e with e; omega)⟩
    exact hown.2.imp id fun ⟨g, cap, cur, e1, e2, e3⟩ => ⟨g, cap, cur, e1, Nat.zero_le _, e3⟩

/-- A disk's copy: another one in the same state, in memory of its own. -/
def CopyPost (w : World) (c : Nat) (d : DiskD) (en : Ending) (w' : World) : Prop := ∃ F', en = .returned (.pointer (some ⟨F'.g, 0, none⟩)) ∧ DiskAt w' F' c d ∧ F'.from w.heap.size ∧ Below w.heap.size w w'
set_option maxHeartbeats 1000000 in
theorem disk_Copy {w : World} {F : Fp} {c : Nat} {d : DiskD} (h : DiskAt w F c d) (hc : c ≤ 1099511627776) :
    Calls Try.prog 11 #[.pointer (some ⟨F.g, 0, none⟩)] w (CopyPost w c d) := by
  obtain ⟨v, m, h1, h2, h3, h4, h5⟩ := h.mem
  have hok := h.ok
  have hl : d.W.length ≤ 1099511627776 := by omega
  obtain ⟨q, cap, rfl, -, -⟩ := WritesAt.form h4
  obtain ⟨x0, x1, x2, -⟩ := h1.c3
  have C1 := Lib.hid (fun w (h : MapAt w F.a m d.K) => maps_Clone h)
  have C2 := Lib.hid (fun w (h : WritesAt w 66 (.slice q d.W.length cap) d.W) => slices_Clone h hl)
  clear h
  go_enter Try.func11, Try.ntmps11
  go_upto_region 1 with fail
  refine wp_region_ssa (by kernel_rfl) (by kernel_rfl) (by kernel_rfl) ?_
  refine wpAnyS_quiet 0 8 9 19 (by kernel_rfl) (by kernel_rfl) (fun _ _ _ _ _ h => h) (by kernel_rfl) (by kernel_rfl) ?_
  apply Exists.intro
  refine ⟨fun w1 hw1 => ?_, ?_⟩
  · obtain ⟨l0, l1⟩ := And.intro (Later.of_base x0 hw1) (Later.of_base x1 hw1)
    have hne := later_ne w1
    simp only [List.drop_succ_cons, List.drop_zero, List.take_succ_cons, List.take_zero]
    repeat (go_big_quiet_step (fail))
    exact wpQuiet_nil rfl
  refine wpAnyS_quiet 9 4 5 19 (by kernel_rfl) (by kernel_rfl) (fun _ _ _ _ _ h => h) (by kernel_rfl) (by kernel_rfl) ?_
  apply Exists.intro
  refine ⟨fun w1 hw1 => ?_, ?_⟩
  · have l2 := Later.of_base x2 hw1
    have hne := later_ne w1
    simp only [List.drop_succ_cons, List.drop_zero, List.take_succ_cons, List.take_zero]
    repeat (go_big_quiet_step (fail))
    exact wpQuiet_nil rfl
  have hu := Up.refl w
  clear x0 x1 x2
  refine wpAnyS_one 8 4 (by kernel_rfl) (by kernel_rfl) (by kernel_rfl) ?_
  intro w1 hw1
  simp only [List.drop_succ_cons, List.drop_zero, List.take_succ_cons, List.take_zero]
  replace h2 := h2.up hw1
  go_wp2_with ((with_reducible refine (C1.out _ h2).mono ?_); rintro e w2 ⟨rfl, hM, hw2⟩)
  refine ⟨hw2, ?_⟩
  replace h4 := WritesAt.up h4 (hw1.trans hw2)
  have hga := hM.lt
  have hge := hw1.size
  replace hu := (hu.trans hw1).trans hw2
  clear hw1 hw2 C1
  generalize w1.heap.size = ga at *
  refine wpAnyS_one 13 3 (by kernel_rfl) (by kernel_rfl) (by kernel_rfl) ?_
  intro w1 hw1
  simp only [List.drop_succ_cons, List.drop_zero, List.take_succ_cons, List.take_zero]
  replace h4 := WritesAt.up h4 hw1
  replace hM := hM.up hw1
  replace hu := hu.trans hw1
  go_wp2_with ((with_reducible refine (C2.out _ h4).mono ?_); rintro e w3 ⟨v3, rfl, hC, hCb, hw3⟩)
  refine ⟨hw3, ?_⟩
  have hCl := hC.lt
  have hge2 := hw1.size
  replace hM := hM.up hw3
  replace hu := hu.trans hw3
  have hge3 := hw3.size
  clear hw3 hw1 h4 C2
  obtain ⟨q3, cap3, rfl, -, -⟩ := WritesAt.form hC
  refine wpAnyS_quiet 14 1 2 19 (by kernel_rfl) (by kernel_rfl) (fun _ _ _ _ _ h => h) (by kernel_rfl) (by kernel_rfl) ?_
  apply Exists.intro
  refine ⟨fun w1 hw1 => ?_, ?_⟩
  · skip
    have hne := later_ne w1
    simp only [List.drop_succ_cons, List.drop_zero, List.take_succ_cons, List.take_zero]
    repeat (go_big_quiet_step (fail))
    exact wpQuiet_nil rfl
  refine wpAnyS_one 15 1 (by kernel_rfl) (by kernel_rfl) (by kernel_rfl) ?_
  intro w1 hw1
  simp only [List.drop_succ_cons, List.drop_zero, List.take_succ_cons, List.take_zero]
  replace hM := hM.up hw1
  replace hC := WritesAt.up hC hw1
  replace hu := hu.trans hw1
  go_wp2_with fail
  refine ⟨(Up.refl w1).alloc _, ?_⟩
  have hr := RowAt.made w1 58 [.int .i64 d.n, .map (some ga), .slice q3 d.W.length cap3]
  have hgl := hM.lt
  have hge4 := hw1.size
  replace hM := hM.up ((Up.refl _).alloc (.cells #[.int .i64 d.n, .map (some ga), .slice q3 d.W.length cap3] 58))
  replace hC := WritesAt.up hC ((Up.refl _).alloc (.cells #[.int .i64 d.n, .map (some ga), .slice q3 d.W.length cap3] 58))
  replace hu := hu.alloc (.cells #[.int .i64 d.n, .map (some ga), .slice q3 d.W.length cap3] 58)
  generalize hg8 : w1.heap.size = g8 at *
  generalize w1.alloc (.cells #[.int .i64 d.n, .map (some ga), .slice q3 d.W.length cap3] 58) = w8 at *
  clear hw1 hg8
  refine wpAnyS_quiet 16 1 0 19 (by kernel_rfl) (by kernel_rfl) (fun _ _ _ _ _ h => h) (by kernel_rfl) (by kernel_rfl) ?_
  apply Exists.intro
  refine ⟨fun w1 hw1 => ?_, ?_⟩
  · skip
    have hne := later_ne w1
    simp only [List.drop_succ_cons, List.drop_zero, List.take_succ_cons, List.take_zero]
    repeat (go_big_quiet_step (fail))
    exact wpQuiet_nil rfl
  refine wpAnyS_done (by kernel_rfl) ?_
  intro w9 hw9
  go_wp2_with fail
  go_ret
  replace hM := hM.up hw9
  replace hC := WritesAt.up hC hw9
  replace hr := hr.up hw9
  replace hu := hu.trans hw9
  refine ⟨⟨g8, ga, (Value.slice q3 d.W.length cap3).ownBlock⟩, rfl, ⟨hok, by simp only; omega, fun e => ?_, fun e => ?_, .slice q3 d.W.length cap3, m, hr, hM, h3, hC, rfl⟩, ?_, hu⟩
  · have h9 := (hCl _ e).2
    simp only at h9
    omega
  · have h9 := hCb _ e
    simp only at h9
    omega
  · have hb8 : w.heap.size ≤ g8 := by omega
    rintro k (rfl | rfl | hk)
    · exact hb8
    · exact hge
    · have := hCb _ hk; omega
end Go.Proofs.Ytiekjjejoekdeaa
