import Derived.Test.YtbjnklgicakndaaPgFixed
import Derived.Test.YtbjnklgicakndaaPgRecs0
import Derived.Test.YtbjnklgicakndaaOpenLaw4
namespace Go.Proofs.Ytbjnklgicakndaa
open Go.RowKit Bw
set_option linter.unusedVariables false

/-- Where the records of the law's argument lie. -/
def ArgR (w : World) (pa : Option Addr) (i : Nat) (r : RecD) (p : Option Addr) (c : Nat) : Prop :=
  ∃ g o, pa = some ⟨g, o, none⟩ ∧ w.cell? ⟨g, o + i * 8, none⟩ = some (.int .i64 r.k) ∧ w.cell? ⟨g, o + i * 8 + 1, none⟩ = some (.int .i64 r.t) ∧
      w.cell? ⟨g, o + i * 8 + 2, none⟩ = some (.string r.key) ∧ w.cell? ⟨g, o + i * 8 + 3, none⟩ = some (.string r.val) ∧ w.cell? ⟨g, o + i * 8 + 4, none⟩ = some (.int .i64 r.p) ∧ w.cell? ⟨g, o + i * 8 + 5, none⟩ = some (.int .i64 r.u) ∧
      w.cell? ⟨g, o + i * 8 + 6, none⟩ = some (.int .i64 r.n) ∧ w.cell? ⟨g, o + i * 8 + 7, none⟩ = some (.slice p r.l.length c)
theorem ArgR.up {w w' : World} {pa : Option Addr} {i : Nat} {r : RecD} {p : Option Addr} {c : Nat} (h : ArgR w pa i r p c) (hu : Up w w') : ArgR w' pa i r p c := by
  obtain ⟨g, o, hp, h0, h1, h2, h3, h4, h5, h6, h7⟩ := h
  have hg := World.block_lt_of_cell? w _ h0
  have key : ∀ q v, w.cell? ⟨g, q, none⟩ = some v → w'.cell? ⟨g, q, none⟩ = some v := fun q v hc => (Below.cell (p := ⟨g, q, none⟩) hu hg).trans hc
  exact ⟨g, o, hp, key _ _ h0, key _ _ h1, key _ _ h2, key _ _ h3, key _ _ h4, key _ _ h5, key _ _ h6, key _ _ h7⟩

theorem cut_call (F : RecD) (p : Option Addr) (c : Nat) (w : World) (hA : RecIn w F p) : Calls Try.prog 24 #[.agg #[.int .i64 (F).k, .int .i64 (F).t, .string (F).key, .string (F).val, .int .i64 (F).p, .int .i64 (F).u, .int .i64 (F).n, .slice p F.l.length c]] w
    fun e w' => ∃ q d, e = .returned (.agg #[.int .i64 (cutR F).k, .int .i64 (cutR F).t, .string (cutR F).key, .string (cutR F).val, .int .i64 (cutR F).p, .int .i64 (cutR F).u, .int .i64 (cutR F).n, .slice q (cutR F).l.length d]) ∧ PairsAt w' q (cutR F).l ∧ InB w.heap.size w'.heap.size q ∧ Below w.heap.size w w' :=
  law5_Cut F p c w hA.1.2.2 hA.1.1 ⟨hA.2.1, hA.2.2.1, hA.1.2.1⟩
theorem recIn_up {w w' : World} {F : RecD} {p : Option Addr} (h : RecIn w F p) (hu : Up w w') : RecIn w' F p :=
  ⟨⟨h.1.1, h.1.2.1, PairsAt.up h.1.2.2 hu⟩, h.2⟩

set_option maxHeartbeats 4000000 in
set_option maxRecDepth 100000 in
theorem recs_walk (p u o : Int) (hu1 : -9223372036854775808 ≤ u) (pa : Option Addr) (n c : Nat) (f : Nat → RecD) (fp : Nat → Option Addr) (fc : Nat → Nat) (hn : n ≤ maxLen) (w : World) (hF : ∀ i, i < n → RecIn w (f i) (fp i) ∧ ArgR w pa i (f i) (fp i) (fc i)) :
    Calls Try.prog 4 #[progV p u o, .slice pa n c] w fun e w' => e = .returned (.bool true) ∧ Below w.heap.size w w' := by
  obtain ⟨i0, hi0, hz0, hz1, hz2⟩ := info_parts (P := Try.prog) (e := 41) (z := .agg #[.int .i64 0, .int .i64 0, .string ⟨#[]⟩, .string ⟨#[]⟩, .int .i64 0, .int .i64 0, .int .i64 0, .slice none 0 0]) (size := 8) (bytes := 96) (by kernel_rfl)
  have HI := Lib.hid (show Try.prog.info? 41 = some i0 ∧ i0.zero = _ ∧ i0.size = 8 ∧ i0.bytes = 96 from ⟨hi0, hz0, hz1, hz2⟩)
  clear hi0 hz0 hz1 hz2
  unfold maxLen at hn
  have HA := Lib.hid hF; clear hF
  have hcase : (fwdE p u o = 0 ∧ ofE (progRec p u o) = 0 ∧ ofV (progRec p u o) = progV p u o ∧ (progRec p u o).rightR = true ∧ rightB p u o = true) ∨ (fwdE p u o = 1 ∧ ofE (progRec p u o) = 4 ∧ ofV (progRec p u o) = progV 0 0 0 ∧ (progRec p u o).rightR = false ∧ rightB p u o = false) := by
    cases h : rightB p u o
    · obtain ⟨a1, a2, a3⟩ := rec_no h
      exact .inr ⟨a1, by rw [a2]; exact a3, by rw [a2, ofV, a3]; rfl, by rw [a2]; decide +kernel, rfl⟩
    · obtain ⟨a1, a2, a3, a4⟩ := rec_yes h
      exact .inl ⟨a1, a4, by rw [ofV, if_pos a4, a2], a3, rfl⟩
  have hpl : (progRec p u o).l = [] ∧ -9223372036854775808 ≤ (progRec p u o).u := by
    unfold progRec noRec
    cases rightB p u o <;> simp <;> omega
  have c1 := fun w => prog_Rec p u o w hu1
  have c2 := fun w => prog_Of (progRec p u o) none 0 w (by rw [hpl.1]; exact PairsAt.nil _ _) (by rw [hpl.1]; simp) hpl.2
  have c3 := fun w => law20_ref p u o w
  have c4 := fun w => ref20_Right p u o w
  have c5 := fun w => rec_Right (progRec p u o) none 0 w (by rw [hpl.1]; exact PairsAt.nil _ _) (by rw [hpl.1]; simp)
  rw [show recV (progRec p u o) (.slice none (progRec p u o).l.length 0) = recV (progRec p u o) (.slice none 0 0) by rw [hpl.1]; rfl] at c2 c5
  clear hpl
  obtain ⟨qa, qb, qc, hq⟩ : ∃ a b c, ofV (progRec p u o) = progV a b c := by
    rcases hcase with h | h
    · exact ⟨_, _, _, h.2.2.1⟩
    · exact ⟨_, _, _, h.2.2.1⟩
  rw [hq] at c2 hcase
  clear hq
  generalize fwdE p u o = E at *
  generalize (progRec p u o).rightR = RR at *
  generalize ofE (progRec p u o) = F at *
  generalize progRec p u o = R at *
  generalize rightB p u o = RB at *
  unfold recV progV at *
  simp only [Value.agg.injEq, Array.mk.injEq, List.cons.injEq, Value.int.injEq, true_and, and_true] at hcase
  have C1 := Lib.hid c1; have C2 := Lib.hid c2; have C3 := Lib.hid c3; have C4 := Lib.hid c4; have C5 := Lib.hid c5
  clear c1 c2 c3 c4 c5
  have HC := Lib.hid hcase; clear hcase
  have hu := Up.refl w
  go_enter Try.func4, Try.ntmps4
  go_upto_region 1 with fail
  have rp := RowAt.made w 23 [.int .i64 p, .int .i64 u, .int .i64 o]
  replace hu := hu.alloc (.cells #[.int .i64 p, .int .i64 u, .int .i64 o] 23)
  generalize w.heap.size = g2 at *
  generalize w.alloc (.cells #[.int .i64 p, .int .i64 u, .int .i64 o] 23) = x2 at *
  obtain ⟨p0, p1, p2, -⟩ := rp.c3
  go_upto_region 2 with ((with_reducible refine (C1.out _).mono ?_); rintro e w1 ⟨rfl, hw⟩; replace rp := rp.up hw; replace hu := hu.next hw; clear hw)
  clear p0 p1 p2
  have rR := RowAt.made w1 41 [.int .i64 (R).k, .int .i64 (R).t, .string (R).key, .string (R).val, .int .i64 (R).p, .int .i64 (R).u, .int .i64 (R).n, .slice none 0 0]
  replace rp := rp.alloc (.cells #[.int .i64 (R).k, .int .i64 (R).t, .string (R).key, .string (R).val, .int .i64 (R).p, .int .i64 (R).u, .int .i64 (R).n, .slice none 0 0] 41)
  replace hu := hu.alloc (.cells #[.int .i64 (R).k, .int .i64 (R).t, .string (R).key, .string (R).val, .int .i64 (R).p, .int .i64 (R).u, .int .i64 (R).n, .slice none 0 0] 41)
  generalize w1.heap.size = g5 at *
  generalize w1.alloc (.cells #[.int .i64 (R).k, .int .i64 (R).t, .string (R).key, .string (R).val, .int .i64 (R).p, .int .i64 (R).u, .int .i64 (R).n, .slice none 0 0] 41) = x5 at *
  obtain ⟨s0, s1, s2, s3, s4, s5, s6, s7, -⟩ := rR.c8
  go_upto_region 3 with ((with_reducible refine (C2.out _).mono ?_); rintro e w2 ⟨rfl, hw⟩; replace rp := rp.up hw; replace rR := rR.up hw; replace hu := hu.next hw; clear hw)
  clear s0 s1 s2 s3 s4 s5 s6 s7
  have rq := RowAt.made w2 23 [.int .i64 qa, .int .i64 qb, .int .i64 qc]
  replace rp := rp.alloc (.cells #[.int .i64 qa, .int .i64 qb, .int .i64 qc] 23)
  replace rR := rR.alloc (.cells #[.int .i64 qa, .int .i64 qb, .int .i64 qc] 23)
  replace hu := hu.alloc (.cells #[.int .i64 qa, .int .i64 qb, .int .i64 qc] 23)
  generalize w2.heap.size = g7 at *
  generalize w2.alloc (.cells #[.int .i64 qa, .int .i64 qb, .int .i64 qc] 23) = x7 at *
  go_cut [58] (fun v wx => v = .bool false ∧ Up w wx)
  case first =>
    rcases HC.out with ⟨rfl, rfl, h3, rfl, rfl⟩ | ⟨rfl, rfl, h3, rfl, rfl⟩
    · obtain ⟨rfl, rfl, rfl⟩ := h3
      obtain ⟨p0, p1, p2, -⟩ := rp.c3
      obtain ⟨q0, q1, q2, -⟩ := rq.c3
      obtain ⟨s0, s1, s2, s3, s4, s5, s6, s7, -⟩ := rR.c8
      go_wp2_with (first
        | ((with_reducible refine (C3.out _).mono ?_); rintro e w3 ⟨rfl, hw⟩; replace rp := rp.up hw; replace rR := rR.up hw; replace rq := rq.up hw; replace hu := hu.next hw; clear hw; obtain ⟨p0, p1, p2, -⟩ := rp.c3; obtain ⟨q0, q1, q2, -⟩ := rq.c3; obtain ⟨s0, s1, s2, s3, s4, s5, s6, s7, -⟩ := rR.c8)
        | ((with_reducible refine (C4.out _).mono ?_); rintro e w3 ⟨rfl, hw⟩; replace rp := rp.up hw; replace rR := rR.up hw; replace rq := rq.up hw; replace hu := hu.next hw; clear hw; obtain ⟨p0, p1, p2, -⟩ := rp.c3; obtain ⟨q0, q1, q2, -⟩ := rq.c3; obtain ⟨s0, s1, s2, s3, s4, s5, s6, s7, -⟩ := rR.c8)
        | ((with_reducible refine (C5.out _).mono ?_); rintro e w3 ⟨rfl, hw⟩; replace rp := rp.up hw; replace rR := rR.up hw; replace rq := rq.up hw; replace hu := hu.next hw; clear hw; obtain ⟨p0, p1, p2, -⟩ := rp.c3; obtain ⟨q0, q1, q2, -⟩ := rq.c3; obtain ⟨s0, s1, s2, s3, s4, s5, s6, s7, -⟩ := rR.c8))
      go_meet
      exact ⟨rfl, hu⟩
    · obtain ⟨p0, p1, p2, -⟩ := rp.c3
      go_wp2_with (first
        | ((with_reducible refine (C3.out _).mono ?_); rintro e w3 ⟨rfl, hw⟩; replace hu := hu.next hw; clear hw)
        | ((with_reducible refine (C4.out _).mono ?_); rintro e w3 ⟨rfl, hw⟩; replace hu := hu.next hw; clear hw))
      go_meet
      exact ⟨rfl, hu⟩
  case rest =>
  clear rp rq rR hu C1 C2 C4 C5 HC
  obtain ⟨rfl, hu⟩ := hcut
  go_upto_region 6 with fail
  have hB : w.heap.size ≤ wc.heap.size := Below.size hu
  have how := (World.ownsRow_made (base := wc.heap.size) (e := 41) (size := 8) wc #[] 0 (Nat.le_refl _) (by decide) (by rfl)).alloc (.cells #[.int .i64 0, .int .i64 0, .int .i64 0] 27)
  have rw := RowAt.made (wc.alloc (.cells #[] 41)) 27 [.int .i64 0, .int .i64 0, .int .i64 0]
  simp at rw
  replace hu := (hu.alloc (.cells #[] 41)).alloc (.cells #[.int .i64 0, .int .i64 0, .int .i64 0] 27)
  generalize (wc.alloc (.cells #[] 41)).alloc (.cells #[.int .i64 0, .int .i64 0, .int .i64 0] 27) = w4 at *
  generalize wc.heap.size = B at *
  go_wp2_with fail
  go_loopw [9, 11] (fun v9 v11 wr => ∃ (k : Nat) (L : List RecB) (V1 V2 V3 : Int) (b : Option Addr) (d : Nat), k ≤ n ∧ k ≤ 20 ∧ v9 = .slice b k d ∧ v11 = .int .i64 k ∧ L.length = k ∧ latest (0, 0, 0) L = (V1, V2, V3) ∧ KeepL wr (B + 2) (Value.slice b k d).ownBlock L ∧
      wr.ownsRow B 41 8 (.slice b k d) k (cellsR L) ∧ (Value.slice b k d).ownBlock ≠ some (B + 1) ∧ RowAt wr (B + 1) [.int .i64 V1, .int .i64 V2, .int .i64 V3] ∧ Up w wr) (fun _ v11 _ => n - (intOf v11).toNat)
  case atStart => exact ⟨0, [], 0, 0, 0, _, _, by omega, by omega, rfl, rfl, rfl, rfl, fun x hx => absurd hx (by simp), how, by simp [Value.ownBlock], rw, hu⟩
  case round =>
    clear how rw hu
    obtain ⟨k, L, V1, V2, V3, b, d, hk, hk2, rfl, rfl, hL, hV, hK, how, hne, rw, hu⟩ := hrel
    by_cases hlt : k < n
    · by_cases hlt2 : k < 20
      · obtain ⟨hin, har⟩ := HA.out k hlt
        obtain ⟨ga, oa, rfl, a0, a1, a2, a3, a4, a5, a6, a7⟩ := har.up hu
        have j0 : (0 : Int) ≤ (k : Int) := by omega
        have j1 : (k : Int) < (n : Int) := by omega
        have j2 : (k : Int) < 20 := by omega
        generalize f k = F at *
        generalize fp k = fpk at *
        generalize fc k = fck at *
        have hlow : -9223372036854775808 ≤ (cutR F).u := by
          have := bounds_i64 hin.2.2.2.2.2.2.1
          show _ ≤ F.u
          omega
        have hlen := cutR_l F
        have hstr := cutR_strs F
        have C6 := Lib.hid (fun w1 (h : Up w w1) => cut_call F fpk fck w1 (recIn_up hin h))
        clear har hin
        have hcs := of_cases (cutR F) (V1, V2, V3)
        have HT := Lib.hid (fun q dd => show latest (0, 0, 0) (L ++ [⟨cutR F, q, dd⟩]) = ofT (cutR F) (V1, V2, V3) by rw [latest_append, hV])
        have HCE := Lib.hid (fun q dd => cellsR_append L [⟨cutR F, q, dd⟩])
        have hX : (cutR F).k = F.k ∧ (cutR F).t = F.t ∧ (cutR F).p = F.p ∧ (cutR F).u = F.u ∧ (cutR F).n = F.n := ⟨rfl, rfl, rfl, rfl, rfl⟩
        generalize cutR F = X at *
        clear hX
        rcases hcs with ⟨e1, e2, e3⟩ | ⟨e1, e2, e3⟩
        · rw [e3] at HT
          go_upto_region 10 with ((with_reducible refine (C6.out _ ?_).mono ?_); (· exact hu); rintro e w1 ⟨q, dd, rfl, hq, hb, hw⟩)
          have hown := how.lt
          have hnx : (Value.slice b k d).ownBlock ≠ some w1.heap.size := fun e => by have := (hown _ e).2; have := Below.size hw; omega
          have hrwl := rw.lt
          replace hK := (KeepL.up hK hw).snoc (x := ⟨X, q, dd⟩) ⟨hq, by simp only; omega, hlow⟩ (fun a ha => ⟨by have := (hb a ha).1; omega, (hb a ha).2, fun e => by have := (hown _ e).2; have := (hb a ha).1; omega⟩)
          clear hown hb hrwl
          replace how := ownsRow_up how hw
          replace rw := rw.up hw
          replace hu := hu.next hw
          clear hw C6 a0 a1 a2 a3 a4 a5 a6 a7
          have rx := RowAt.made w1 41 [.int .i64 (X).k, .int .i64 (X).t, .string (X).key, .string (X).val, .int .i64 (X).p, .int .i64 (X).u, .int .i64 (X).n, .slice q X.l.length dd]
          replace how := how.alloc (.cells #[.int .i64 (X).k, .int .i64 (X).t, .string (X).key, .string (X).val, .int .i64 (X).p, .int .i64 (X).u, .int .i64 (X).n, .slice q X.l.length dd] 41)
          replace hK := hK.up ((Up.refl _).alloc (.cells #[.int .i64 (X).k, .int .i64 (X).t, .string (X).key, .string (X).val, .int .i64 (X).p, .int .i64 (X).u, .int .i64 (X).n, .slice q X.l.length dd] 41))
          replace hq := PairsAt.up hq ((Up.refl _).alloc (.cells #[.int .i64 (X).k, .int .i64 (X).t, .string (X).key, .string (X).val, .int .i64 (X).p, .int .i64 (X).u, .int .i64 (X).n, .slice q X.l.length dd] 41))
          replace rw := rw.alloc (.cells #[.int .i64 (X).k, .int .i64 (X).t, .string (X).key, .string (X).val, .int .i64 (X).p, .int .i64 (X).u, .int .i64 (X).n, .slice q X.l.length dd] 41)
          replace hu := hu.alloc (.cells #[.int .i64 (X).k, .int .i64 (X).t, .string (X).key, .string (X).val, .int .i64 (X).p, .int .i64 (X).u, .int .i64 (X).n, .slice q X.l.length dd] 41)
          generalize w1.heap.size = gx at *
          generalize w1.alloc (.cells #[.int .i64 (X).k, .int .i64 (X).t, .string (X).key, .string (X).val, .int .i64 (X).p, .int .i64 (X).u, .int .i64 (X).n, .slice q X.l.length dd] 41) = x1 at *
          obtain ⟨s0, s1, s2, s3, s4, s5, s6, s7, -⟩ := rx.c8
          obtain ⟨hi0, hz0, hz1, hz2⟩ := HI.out
          have rwl := rw.lt
          have hBx : B ≤ x1.heap.size := by have := rw.lt; omega
          go_upto_region 11 with (at_builtin; refine wpList_append_row _ rfl _ _ 38 rfl B 41 i0 (.agg #[.int .i64 0, .int .i64 0, .string ⟨#[]⟩, .string ⟨#[]⟩, .int .i64 0, .int .i64 0, .int .i64 0, .slice none 0 0]) 8 96 (by kernel_rfl) hi0 hz0 hz1 hz2 rfl (by decide) (.slice b k d) k (cellsR L) rfl (how.alloc _) ⟨x1.heap.size, 0, none⟩ 1 1 [.int .i64 (X).k, .int .i64 (X).t, .string (X).key, .string (X).val, .int .i64 (X).p, .int .i64 (X).u, .int .i64 (X).n, .slice q X.l.length dd] rfl rfl (RowAt.made x1 _ _).adds (fun x hx => by simp at hx; rcases hx with rfl | rfl | rfl | rfl | rfl | rfl | rfl | rfl <;> rfl) (by omega) (by unfold maxLen; omega) (by omega) (by simp; omega) ?_; intro v' w5 how' hgrow hblk)
          obtain ⟨b5, d5, rfl⟩ := own_form how'
          rw [show cellsR L ++ [.int .i64 (X).k, .int .i64 (X).t, .string (X).key, .string (X).val, .int .i64 (X).p, .int .i64 (X).u, .int .i64 (X).n, .slice q X.l.length dd] = cellsR (L ++ [⟨X, q, dd⟩]) from (HCE.out q dd).symm] at how'
          replace hK := (hK.up ((Up.refl _).alloc _)).grown hgrow hblk
          replace rw := (rw.alloc _).grown hgrow (fun k' hk' e => hne (by rw [hk', e]))
          replace rx := (rx.alloc _).grown hgrow (fun k' hk' e => hnx (by rw [hk', e]))
          have hown2 := how.lt
          replace hq : PairsAt w5 q X.l := (hK _ (List.mem_append_right _ (List.mem_singleton.2 rfl))).1.1
          replace hne : (Value.slice b5 (k + 1) d5).ownBlock ≠ some (B + 1) := by
            rcases hblk with h | h
            · rw [h]; exact hne
            · rw [h]; intro e; injection e with e; have := rwl; simp at e; omega
          replace hu := (hu.alloc (.cells #[.int .i64 (X).k, .int .i64 (X).t, .string (X).key, .string (X).val, .int .i64 (X).p, .int .i64 (X).u, .int .i64 (X).n, .slice q X.l.length dd] 41)).grown hgrow (fun k' hk' => by have := (how.lt _ hk').1; omega)
          clear how hgrow hblk hnx hi0 hz0 hz1 hz2 hBx s0 s1 s2 s3 s4 s5 s6 s7
          obtain ⟨s0, s1, s2, s3, s4, s5, s6, s7, -⟩ := rx.c8
          have c7 : ∀ w6, PairsAt w6 q X.l → Calls Try.prog 22 #[.agg #[.int .i64 (X).k, .int .i64 (X).t, .string (X).key, .string (X).val, .int .i64 (X).p, .int .i64 (X).u, .int .i64 (X).n, .slice q X.l.length dd]] w6 fun e w' => e = .returned (.tuple #[.agg #[.int .i64 (X.p), .int .i64 (X.u), .int .i64 (X.n)], .int .i64 0]) ∧ Below w6.heap.size w6 w' := fun w6 h => by
            have := prog_Of X q dd w6 h (by omega) hlow
            rw [e1, e2] at this
            exact this
          have c8 : ∀ w6, PairsAt w6 q X.l → Calls Try.prog 25 #[.agg #[.int .i64 (X).k, .int .i64 (X).t, .string (X).key, .string (X).val, .int .i64 (X).p, .int .i64 (X).u, .int .i64 (X).n, .slice q X.l.length dd]] w6 fun e w' => e = .returned (.tuple #[.agg #[.int .i64 (X.p), .int .i64 (X.u), .int .i64 (X.n)], .int .i64 0]) ∧ Below w6.heap.size w6 w' := fun w6 h => by
            have := ref20_Of X q dd w6 h (by omega) hstr
            rw [e1, e2] at this
            exact this
          have c9 : ∀ w6, Calls Try.prog 26 #[.agg #[.int .i64 (X).k, .int .i64 (X).t, .string (X).key, .string (X).val, .int .i64 (X).p, .int .i64 (X).u, .int .i64 (X).n, .slice q X.l.length dd]] w6 fun e w' => e = .returned (.agg #[.int .i64 (X).k, .int .i64 (X).t, .string (X).key, .string (X).val, .int .i64 (X).p, .int .i64 (X).u, .int .i64 (X).n, .slice q X.l.length dd]) ∧ Below w6.heap.size w6 w' := fun w6 => law5_Ref X q X.l.length dd w6
          have c10 : ∀ w6, Calls Try.prog 10 #[.agg #[.int .i64 (X.p), .int .i64 (X.u), .int .i64 (X.n)]] w6 fun e w' => e = .returned (.agg #[.int .i64 (X.p), .int .i64 (X.u), .int .i64 (X.n)]) ∧ Below w6.heap.size w6 w' := fun w6 => law20_ref _ _ _ w6
          have C7 := Lib.hid c7; have C8 := Lib.hid c8; have C9 := Lib.hid c9; have C10 := Lib.hid c10
          clear c7 c8 c9 c10 e1 e2 e3
          go_upto_region 12 with ((with_reducible refine (C7.out _ ?_).mono ?_); (· exact hq); rintro e w6 ⟨rfl, hw⟩; replace how' := ownsRow_up how' hw; replace hK := hK.up hw; replace rw := rw.up hw; replace rx := rx.up hw; replace hq := hq.up hw; replace hu := hu.next hw; clear hw)
          clear s0 s1 s2 s3 s4 s5 s6 s7
          have r13 := RowAt.made w6 23 [.int .i64 (X.p), .int .i64 (X.u), .int .i64 (X.n)]
          replace how' := how'.alloc (.cells #[.int .i64 (X.p), .int .i64 (X.u), .int .i64 (X.n)] 23)
          replace hK := hK.up ((Up.refl _).alloc (.cells #[.int .i64 (X.p), .int .i64 (X.u), .int .i64 (X.n)] 23))
          replace hq := hq.up ((Up.refl _).alloc (.cells #[.int .i64 (X.p), .int .i64 (X.u), .int .i64 (X.n)] 23))
          replace rw := rw.alloc (.cells #[.int .i64 (X.p), .int .i64 (X.u), .int .i64 (X.n)] 23)
          replace rx := rx.alloc (.cells #[.int .i64 (X.p), .int .i64 (X.u), .int .i64 (X.n)] 23)
          replace hu := hu.alloc (.cells #[.int .i64 (X.p), .int .i64 (X.u), .int .i64 (X.n)] 23)
          generalize w6.heap.size = g13 at *
          generalize w6.alloc (.cells #[.int .i64 (X.p), .int .i64 (X.u), .int .i64 (X.n)] 23) = x6 at *
          obtain ⟨s0, s1, s2, s3, s4, s5, s6, s7, -⟩ := rx.c8
          go_upto_region 13 with (first
            | ((with_reducible refine (C9.out _).mono ?_); rintro e w7 ⟨rfl, hw⟩; replace how' := ownsRow_up how' hw; replace hK := hK.up hw; replace rw := rw.up hw; replace r13 := r13.up hw; replace hq := hq.up hw; replace hu := hu.next hw; clear hw)
            | ((with_reducible refine (C8.out _ ?_).mono ?_); (· exact hq); rintro e w8 ⟨rfl, hw⟩; replace how' := ownsRow_up how' hw; replace hK := hK.up hw; replace rw := rw.up hw; replace r13 := r13.up hw; replace hu := hu.next hw; clear hw))
          clear s0 s1 s2 s3 s4 s5 s6 s7 rx hq C7 C8 C9
          have r15 := RowAt.made w8 27 [.int .i64 (X.p), .int .i64 (X.u), .int .i64 (X.n)]
          replace how' := how'.alloc (.cells #[.int .i64 (X.p), .int .i64 (X.u), .int .i64 (X.n)] 27)
          replace hK := hK.up ((Up.refl _).alloc (.cells #[.int .i64 (X.p), .int .i64 (X.u), .int .i64 (X.n)] 27))
          replace rw := rw.alloc (.cells #[.int .i64 (X.p), .int .i64 (X.u), .int .i64 (X.n)] 27)
          replace r13 := r13.alloc (.cells #[.int .i64 (X.p), .int .i64 (X.u), .int .i64 (X.n)] 27)
          replace hu := hu.alloc (.cells #[.int .i64 (X.p), .int .i64 (X.u), .int .i64 (X.n)] 27)
          generalize w8.heap.size = g15 at *
          generalize w8.alloc (.cells #[.int .i64 (X.p), .int .i64 (X.u), .int .i64 (X.n)] 27) = x8 at *
          obtain ⟨p0, p1, p2, -⟩ := r13.c3
          obtain ⟨q0, q1, q2, -⟩ := r15.c3
          have lp0 := Later.cell_of p0; have lp1 := Later.cell_of p1; have lp2 := Later.cell_of p2
          have lq0 := Later.cell_of q0; have lq1 := Later.cell_of q1; have lq2 := Later.cell_of q2
          clear p0 p1 p2 q0 q1 q2
          have hxne := later_ne x8
          refine wp_region_later (by kernel_rfl) (by kernel_rfl) ?_
          repeat (go_big_quiet_step ((go_at_call 10; with_reducible exact Calls.later (C10.out _))))
          refine wpQuiet_nil ?_
          intro w9 hw9
          obtain ⟨u9, rfl⟩ := hw9
          replace how' := ownsRow_up how' u9.up; replace hK := hK.up u9.up; replace rw := rw.up u9.up; replace r15 := r15.up u9.up; replace hu := hu.trans u9.up
          clear hxne lp0 lp1 lp2 lq0 lq1 lq2 r13
          generalize u9.world = w9 at *
          obtain ⟨q0, q1, q2, -⟩ := r15.c3
          obtain ⟨t0, t1, t2, t3, t4, t5⟩ := rw.c3
          go_wp2_with fail
          refine ⟨⟨k + 1, L ++ [⟨X, q, dd⟩], X.p, X.u, X.n, b5, d5, by omega, by omega, rfl, by go_num, by simp [hL], HT.out q dd, ?_, ?_, hne, ?_, ?_⟩, by simp [intOf]; omega⟩
          · repeat (refine KeepL.set ?_ _ _ _ (by omega))
            exact hK
          · repeat (refine ownsRow_setNe ?_ _ _ _ hne)
            exact how'
          · first
              | exact rw
              | exact (((rw.set 0 _ (by simp)).set 1 _ (by simp)).set 2 _ (by simp))
          · repeat (refine Up.setCell ?_ _ _ _ (by omega))
            exact hu
        · rw [e3] at HT
          go_upto_region 10 with ((with_reducible refine (C6.out _ ?_).mono ?_); (· exact hu); rintro e w1 ⟨q, dd, rfl, hq, hb, hw⟩)
          have hown := how.lt
          have hnx : (Value.slice b k d).ownBlock ≠ some w1.heap.size := fun e => by have := (hown _ e).2; have := Below.size hw; omega
          have hrwl := rw.lt
          replace hK := (KeepL.up hK hw).snoc (x := ⟨X, q, dd⟩) ⟨hq, by simp only; omega, hlow⟩ (fun a ha => ⟨by have := (hb a ha).1; omega, (hb a ha).2, fun e => by have := (hown _ e).2; have := (hb a ha).1; omega⟩)
          clear hown hb hrwl
          replace how := ownsRow_up how hw
          replace rw := rw.up hw
          replace hu := hu.next hw
          clear hw C6 a0 a1 a2 a3 a4 a5 a6 a7
          have rx := RowAt.made w1 41 [.int .i64 (X).k, .int .i64 (X).t, .string (X).key, .string (X).val, .int .i64 (X).p, .int .i64 (X).u, .int .i64 (X).n, .slice q X.l.length dd]
          replace how := how.alloc (.cells #[.int .i64 (X).k, .int .i64 (X).t, .string (X).key, .string (X).val, .int .i64 (X).p, .int .i64 (X).u, .int .i64 (X).n, .slice q X.l.length dd] 41)
          replace hK := hK.up ((Up.refl _).alloc (.cells #[.int .i64 (X).k, .int .i64 (X).t, .string (X).key, .string (X).val, .int .i64 (X).p, .int .i64 (X).u, .int .i64 (X).n, .slice q X.l.length dd] 41))
          replace hq := PairsAt.up hq ((Up.refl _).alloc (.cells #[.int .i64 (X).k, .int .i64 (X).t, .string (X).key, .string (X).val, .int .i64 (X).p, .int .i64 (X).u, .int .i64 (X).n, .slice q X.l.length dd] 41))
          replace rw := rw.alloc (.cells #[.int .i64 (X).k, .int .i64 (X).t, .string (X).key, .string (X).val, .int .i64 (X).p, .int .i64 (X).u, .int .i64 (X).n, .slice q X.l.length dd] 41)
          replace hu := hu.alloc (.cells #[.int .i64 (X).k, .int .i64 (X).t, .string (X).key, .string (X).val, .int .i64 (X).p, .int .i64 (X).u, .int .i64 (X).n, .slice q X.l.length dd] 41)
          generalize w1.heap.size = gx at *
          generalize w1.alloc (.cells #[.int .i64 (X).k, .int .i64 (X).t, .string (X).key, .string (X).val, .int .i64 (X).p, .int .i64 (X).u, .int .i64 (X).n, .slice q X.l.length dd] 41) = x1 at *
          obtain ⟨s0, s1, s2, s3, s4, s5, s6, s7, -⟩ := rx.c8
          obtain ⟨hi0, hz0, hz1, hz2⟩ := HI.out
          have rwl := rw.lt
          have hBx : B ≤ x1.heap.size := by have := rw.lt; omega
          go_upto_region 11 with (at_builtin; refine wpList_append_row _ rfl _ _ 38 rfl B 41 i0 (.agg #[.int .i64 0, .int .i64 0, .string ⟨#[]⟩, .string ⟨#[]⟩, .int .i64 0, .int .i64 0, .int .i64 0, .slice none 0 0]) 8 96 (by kernel_rfl) hi0 hz0 hz1 hz2 rfl (by decide) (.slice b k d) k (cellsR L) rfl (how.alloc _) ⟨x1.heap.size, 0, none⟩ 1 1 [.int .i64 (X).k, .int .i64 (X).t, .string (X).key, .string (X).val, .int .i64 (X).p, .int .i64 (X).u, .int .i64 (X).n, .slice q X.l.length dd] rfl rfl (RowAt.made x1 _ _).adds (fun x hx => by simp at hx; rcases hx with rfl | rfl | rfl | rfl | rfl | rfl | rfl | rfl <;> rfl) (by omega) (by unfold maxLen; omega) (by omega) (by simp; omega) ?_; intro v' w5 how' hgrow hblk)
          obtain ⟨b5, d5, rfl⟩ := own_form how'
          rw [show cellsR L ++ [.int .i64 (X).k, .int .i64 (X).t, .string (X).key, .string (X).val, .int .i64 (X).p, .int .i64 (X).u, .int .i64 (X).n, .slice q X.l.length dd] = cellsR (L ++ [⟨X, q, dd⟩]) from (HCE.out q dd).symm] at how'
          replace hK := (hK.up ((Up.refl _).alloc _)).grown hgrow hblk
          replace rw := (rw.alloc _).grown hgrow (fun k' hk' e => hne (by rw [hk', e]))
          replace rx := (rx.alloc _).grown hgrow (fun k' hk' e => hnx (by rw [hk', e]))
          have hown2 := how.lt
          replace hq : PairsAt w5 q X.l := (hK _ (List.mem_append_right _ (List.mem_singleton.2 rfl))).1.1
          replace hne : (Value.slice b5 (k + 1) d5).ownBlock ≠ some (B + 1) := by
            rcases hblk with h | h
            · rw [h]; exact hne
            · rw [h]; intro e; injection e with e; have := rwl; simp at e; omega
          replace hu := (hu.alloc (.cells #[.int .i64 (X).k, .int .i64 (X).t, .string (X).key, .string (X).val, .int .i64 (X).p, .int .i64 (X).u, .int .i64 (X).n, .slice q X.l.length dd] 41)).grown hgrow (fun k' hk' => by have := (how.lt _ hk').1; omega)
          clear how hgrow hblk hnx hi0 hz0 hz1 hz2 hBx s0 s1 s2 s3 s4 s5 s6 s7
          obtain ⟨s0, s1, s2, s3, s4, s5, s6, s7, -⟩ := rx.c8
          have c7 : ∀ w6, PairsAt w6 q X.l → Calls Try.prog 22 #[.agg #[.int .i64 (X).k, .int .i64 (X).t, .string (X).key, .string (X).val, .int .i64 (X).p, .int .i64 (X).u, .int .i64 (X).n, .slice q X.l.length dd]] w6 fun e w' => e = .returned (.tuple #[.agg #[.int .i64 (0), .int .i64 (0), .int .i64 (0)], .int .i64 4]) ∧ Below w6.heap.size w6 w' := fun w6 h => by
            have := prog_Of X q dd w6 h (by omega) hlow
            rw [e1, e2] at this
            exact this
          have c8 : ∀ w6, PairsAt w6 q X.l → Calls Try.prog 25 #[.agg #[.int .i64 (X).k, .int .i64 (X).t, .string (X).key, .string (X).val, .int .i64 (X).p, .int .i64 (X).u, .int .i64 (X).n, .slice q X.l.length dd]] w6 fun e w' => e = .returned (.tuple #[.agg #[.int .i64 (0), .int .i64 (0), .int .i64 (0)], .int .i64 4]) ∧ Below w6.heap.size w6 w' := fun w6 h => by
            have := ref20_Of X q dd w6 h (by omega) hstr
            rw [e1, e2] at this
            exact this
          have c9 : ∀ w6, Calls Try.prog 26 #[.agg #[.int .i64 (X).k, .int .i64 (X).t, .string (X).key, .string (X).val, .int .i64 (X).p, .int .i64 (X).u, .int .i64 (X).n, .slice q X.l.length dd]] w6 fun e w' => e = .returned (.agg #[.int .i64 (X).k, .int .i64 (X).t, .string (X).key, .string (X).val, .int .i64 (X).p, .int .i64 (X).u, .int .i64 (X).n, .slice q X.l.length dd]) ∧ Below w6.heap.size w6 w' := fun w6 => law5_Ref X q X.l.length dd w6
          have c10 : ∀ w6, Calls Try.prog 10 #[.agg #[.int .i64 (0), .int .i64 (0), .int .i64 (0)]] w6 fun e w' => e = .returned (.agg #[.int .i64 (0), .int .i64 (0), .int .i64 (0)]) ∧ Below w6.heap.size w6 w' := fun w6 => law20_ref _ _ _ w6
          have C7 := Lib.hid c7; have C8 := Lib.hid c8; have C9 := Lib.hid c9; have C10 := Lib.hid c10
          clear c7 c8 c9 c10 e1 e2 e3
          go_upto_region 12 with ((with_reducible refine (C7.out _ ?_).mono ?_); (· exact hq); rintro e w6 ⟨rfl, hw⟩; replace how' := ownsRow_up how' hw; replace hK := hK.up hw; replace rw := rw.up hw; replace rx := rx.up hw; replace hq := hq.up hw; replace hu := hu.next hw; clear hw)
          clear s0 s1 s2 s3 s4 s5 s6 s7
          have r13 := RowAt.made w6 23 [.int .i64 (0), .int .i64 (0), .int .i64 (0)]
          replace how' := how'.alloc (.cells #[.int .i64 (0), .int .i64 (0), .int .i64 (0)] 23)
          replace hK := hK.up ((Up.refl _).alloc (.cells #[.int .i64 (0), .int .i64 (0), .int .i64 (0)] 23))
          replace hq := hq.up ((Up.refl _).alloc (.cells #[.int .i64 (0), .int .i64 (0), .int .i64 (0)] 23))
          replace rw := rw.alloc (.cells #[.int .i64 (0), .int .i64 (0), .int .i64 (0)] 23)
          replace rx := rx.alloc (.cells #[.int .i64 (0), .int .i64 (0), .int .i64 (0)] 23)
          replace hu := hu.alloc (.cells #[.int .i64 (0), .int .i64 (0), .int .i64 (0)] 23)
          generalize w6.heap.size = g13 at *
          generalize w6.alloc (.cells #[.int .i64 (0), .int .i64 (0), .int .i64 (0)] 23) = x6 at *
          obtain ⟨s0, s1, s2, s3, s4, s5, s6, s7, -⟩ := rx.c8
          go_upto_region 13 with (first
            | ((with_reducible refine (C9.out _).mono ?_); rintro e w7 ⟨rfl, hw⟩; replace how' := ownsRow_up how' hw; replace hK := hK.up hw; replace rw := rw.up hw; replace r13 := r13.up hw; replace hq := hq.up hw; replace hu := hu.next hw; clear hw)
            | ((with_reducible refine (C8.out _ ?_).mono ?_); (· exact hq); rintro e w8 ⟨rfl, hw⟩; replace how' := ownsRow_up how' hw; replace hK := hK.up hw; replace rw := rw.up hw; replace r13 := r13.up hw; replace hu := hu.next hw; clear hw))
          clear s0 s1 s2 s3 s4 s5 s6 s7 rx hq C7 C8 C9
          have r15 := RowAt.made w8 27 [.int .i64 (0), .int .i64 (0), .int .i64 (0)]
          replace how' := how'.alloc (.cells #[.int .i64 (0), .int .i64 (0), .int .i64 (0)] 27)
          replace hK := hK.up ((Up.refl _).alloc (.cells #[.int .i64 (0), .int .i64 (0), .int .i64 (0)] 27))
          replace rw := rw.alloc (.cells #[.int .i64 (0), .int .i64 (0), .int .i64 (0)] 27)
          replace r13 := r13.alloc (.cells #[.int .i64 (0), .int .i64 (0), .int .i64 (0)] 27)
          replace hu := hu.alloc (.cells #[.int .i64 (0), .int .i64 (0), .int .i64 (0)] 27)
          generalize w8.heap.size = g15 at *
          generalize w8.alloc (.cells #[.int .i64 (0), .int .i64 (0), .int .i64 (0)] 27) = x8 at *
          obtain ⟨p0, p1, p2, -⟩ := r13.c3
          obtain ⟨q0, q1, q2, -⟩ := r15.c3
          have lp0 := Later.cell_of p0; have lp1 := Later.cell_of p1; have lp2 := Later.cell_of p2
          have lq0 := Later.cell_of q0; have lq1 := Later.cell_of q1; have lq2 := Later.cell_of q2
          clear p0 p1 p2 q0 q1 q2
          have hxne := later_ne x8
          refine wp_region_later (by kernel_rfl) (by kernel_rfl) ?_
          repeat (go_big_quiet_step ((go_at_call 10; with_reducible exact Calls.later (C10.out _))))
          refine wpQuiet_nil ?_
          intro w9 hw9
          obtain ⟨u9, rfl⟩ := hw9
          replace how' := ownsRow_up how' u9.up; replace hK := hK.up u9.up; replace rw := rw.up u9.up; replace r15 := r15.up u9.up; replace hu := hu.trans u9.up
          clear hxne lp0 lp1 lp2 lq0 lq1 lq2 r13
          generalize u9.world = w9 at *
          obtain ⟨q0, q1, q2, -⟩ := r15.c3
          obtain ⟨t0, t1, t2, t3, t4, t5⟩ := rw.c3
          go_wp2_with fail
          refine ⟨⟨k + 1, L ++ [⟨X, q, dd⟩], V1, V2, V3, b5, d5, by omega, by omega, rfl, by go_num, by simp [hL], HT.out q dd, ?_, ?_, hne, ?_, ?_⟩, by simp [intOf]; omega⟩
          · repeat (refine KeepL.set ?_ _ _ _ (by omega))
            exact hK
          · repeat (refine ownsRow_setNe ?_ _ _ _ hne)
            exact how'
          · first
              | exact rw
              | exact (((rw.set 0 _ (by simp)).set 1 _ (by simp)).set 2 _ (by simp))
          · repeat (refine Up.setCell ?_ _ _ _ (by omega))
            exact hu
      · have j1 : (k : Int) < (n : Int) := by omega
        have j2 : ¬ (k : Int) < 20 := by omega
        have c1 : ∀ w6, RecsAt w6 b L → (∀ x ∈ L, RecOk w6 x) → Calls Try.prog 27 #[.slice b k d] w6 fun e w' => e = .returned (.agg #[.int .i64 V1, .int .i64 V2, .int .i64 V3]) ∧ Below w6.heap.size w6 w' := fun w6 h1 h2 => by
          have := prog_Latest L b d w6 h1 h2 (by omega)
          rw [hV, hL] at this
          exact this
        have c2 : ∀ w6, Calls Try.prog 10 #[.agg #[.int .i64 V1, .int .i64 V2, .int .i64 V3]] w6 fun e w' => e = .returned (.agg #[.int .i64 V1, .int .i64 V2, .int .i64 V3]) ∧ Below w6.heap.size w6 w' := fun w6 => law20_ref _ _ _ w6
        have hRA := recs_owned how hL
        have hRO : ∀ x ∈ L, RecOk wr x := fun x hx => (hK x hx).1
        have C1 := Lib.hid c1; have C2 := Lib.hid c2; have C3 := Lib.hid law20_fixed
        clear c1 c2 hV hK how hL HA HI
        have hRAO := Lib.hid (show ∀ w6, Up wr w6 → RecsAt w6 b L ∧ ∀ x ∈ L, RecOk w6 x from fun w6 h => ⟨hRA.up h, fun x hx => (hRO x hx).up h⟩)
        have hup := Up.refl wr
        clear hRA hRO
        go_upto_region 17 with fail
        obtain ⟨t0, t1, t2, -⟩ := rw.c3
        have lt0 := Later.cell_of t0; have lt1 := Later.cell_of t1; have lt2 := Later.cell_of t2
        clear t0 t1 t2 hup
        have hxne := later_ne wr
        refine wp_region_later (by kernel_rfl) (by kernel_rfl) ?_
        repeat (go_big_quiet_step (first
          | (go_at_call 27; with_reducible exact Calls.later (C1.out _ (hRAO.out _ (Later.up _)).1 (hRAO.out _ (Later.up _)).2))
          | (go_at_call 10; with_reducible exact Calls.later (C2.out _))
          | (go_at_call 20; with_reducible exact Calls.later (C3.out _))))
        refine wpQuiet_nil ?_
        intro w9 hw9
        obtain ⟨u9, rfl⟩ := hw9
        replace hu := hu.trans u9.up
        generalize u9.world = w9 at *
        go_wp2_with fail
        go_ret
        exact ⟨rfl, hu⟩
    · have j1 : ¬ (k : Int) < (n : Int) := by omega
      have c1 : ∀ w6, RecsAt w6 b L → (∀ x ∈ L, RecOk w6 x) → Calls Try.prog 27 #[.slice b k d] w6 fun e w' => e = .returned (.agg #[.int .i64 V1, .int .i64 V2, .int .i64 V3]) ∧ Below w6.heap.size w6 w' := fun w6 h1 h2 => by
        have := prog_Latest L b d w6 h1 h2 (by omega)
        rw [hV, hL] at this
        exact this
      have c2 : ∀ w6, Calls Try.prog 10 #[.agg #[.int .i64 V1, .int .i64 V2, .int .i64 V3]] w6 fun e w' => e = .returned (.agg #[.int .i64 V1, .int .i64 V2, .int .i64 V3]) ∧ Below w6.heap.size w6 w' := fun w6 => law20_ref _ _ _ w6
      have hRA := recs_owned how hL
      have hRO : ∀ x ∈ L, RecOk wr x := fun x hx => (hK x hx).1
      have C1 := Lib.hid c1; have C2 := Lib.hid c2; have C3 := Lib.hid law20_fixed
      clear c1 c2 hV hK how hL HA HI
      have hRAO := Lib.hid (show ∀ w6, Up wr w6 → RecsAt w6 b L ∧ ∀ x ∈ L, RecOk w6 x from fun w6 h => ⟨hRA.up h, fun x hx => (hRO x hx).up h⟩)
      have hup := Up.refl wr
      clear hRA hRO
      go_upto_region 17 with fail
      obtain ⟨t0, t1, t2, -⟩ := rw.c3
      have lt0 := Later.cell_of t0; have lt1 := Later.cell_of t1; have lt2 := Later.cell_of t2
      clear t0 t1 t2 hup
      have hxne := later_ne wr
      refine wp_region_later (by kernel_rfl) (by kernel_rfl) ?_
      repeat (go_big_quiet_step (first
        | (go_at_call 27; with_reducible exact Calls.later (C1.out _ (hRAO.out _ (Later.up _)).1 (hRAO.out _ (Later.up _)).2))
        | (go_at_call 10; with_reducible exact Calls.later (C2.out _))
        | (go_at_call 20; with_reducible exact Calls.later (C3.out _))))
      refine wpQuiet_nil ?_
      intro w9 hw9
      obtain ⟨u9, rfl⟩ := hw9
      replace hu := hu.trans u9.up
      generalize u9.world = w9 at *
      go_wp2_with fail
      go_ret
      exact ⟨rfl, hu⟩
end Go.Proofs.Ytbjnklgicakndaa
