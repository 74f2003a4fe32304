/- Layer 10: Cut and ref of the law. -/
import Derived.Test.YtdlcmbnbfghdmaaLfWalk5
import Derived.Test.YtdlcmbnbfghdmaaAllR
namespace Bw
def cut40 (s : ByteArray) : ByteArray := s.extract 0 (min (s.size : Int) 40).toNat
def cut60 (s : ByteArray) : ByteArray := s.extract 0 (min (s.size : Int) 60).toNat
def lcutP (p : PairD) : PairD := (cut40 p.1, cut60 p.2)
def lcutL (l : List PairD) : List PairD := (l.take 60).map lcutP
def lcutD (x : LfD) : LfD := ⟨lcutL x.l, cut40 x.high, x.next⟩
theorem cut40_size (s : ByteArray) : (cut40 s).size ≤ 40 := by rw [cut40, ByteArray.size_extract]; omega
theorem cut60_size (s : ByteArray) : (cut60 s).size ≤ 60 := by rw [cut60, ByteArray.size_extract]; omega
theorem lcutD_sm (x : LfD) : (lcutD x).Sm := by
  refine ⟨?_, ?_, ?_⟩
  · simp only [lcutD, lcutL, List.length_map, List.length_take]; omega
  · have := cut40_size x.high; simp only [lcutD]; omega
  · intro p hp
    simp only [lcutD, lcutL, List.mem_map] at hp
    obtain ⟨p0, -, rfl⟩ := hp
    have h1 := cut40_size p0.1
    have h2 := cut60_size p0.2
    simp only [lcutP]; omega
end Bw
namespace Go.RowKit
open Bw
section
variable {W w : World} {l : List Res} {P : Program} {ops : Array Oper} {rest : List Oper} {o : Oper} {a : Act} {Q : Exit → Act → World → Prop}
/-- append of one element to a slice of the law's own; all other blocks stay. -/
theorem wpList_appendA (hgd : o.guard = none) (s x : Operand) (t : TypeId) (ho : o.op = .call { callee := .builtin .append, args := #[s, x], argTypes := #[t, t] })
    (e : TypeId) (i : TypeInfo) (z : Value) (size bytes : Nat) (ht : P.underlying t = some (.slice e)) (hi : P.info? e = some i) (hz : i.zero = some z) (hsize : i.size = size) (hby : i.bytes = bytes) (hzs : z.cells.size = size) (hsz : 0 < size)
    (hH : Hold W w l) (j : Nat) (v : Value) (L : List Value) (n : Nat) (hj : l[j]? = some (ownZ e size v n L)) (hs : a.eval s = v) (ad : Addr) (c : Nat) (news : List Value) (hx : a.eval x = .slice (some ad) 1 c) (hl : news.length = 1 * size)
    (hnews : ∀ j v, news[j]? = some v → w.cell? (ad.add j) = some v) (hu : ∀ u ∈ news, u.oneCell' = true) (h63 : n + 1 ≤ maxLen) (hbytes : (n + 1) * bytes ≤ 140737488355328)
    (h : ∀ b cap w', AllS (ownZ e size v n L).has w w' → Hold W w' (l.set j (ownZ e size (.slice (some ⟨b, 0, none⟩) (n + 1) cap) (n + 1) (L ++ news))) → wpList P ops Q rest (a.put o.dst (.slice (some ⟨b, 0, none⟩) (n + 1) cap)) w') :
    wpList P ops Q (o :: rest) a w := by
  refine wpList_append_own_at w hgd s x t ho 0 e i z size bytes ht hi hz hsize hby hzs hsz v n L hs (hH.get j hj) ad 1 c news hx hl hnews hu h63 hbytes (Nat.zero_le _) ?_
  intro v' w' how hgrow _ hloc
  obtain ⟨b, cap, rfl⟩ : ∃ b cap, v' = .slice (some ⟨b, 0, none⟩) (n + 1) cap := by
    rcases how.2 with ⟨_, h0⟩ | ⟨g, cap, cur, rfl, _⟩
    · omega
    · exact ⟨g, cap, rfl⟩
  have hA : AllS (ownZ e size v n L).has w w' := (AllS.refl _ w).grown hgrow (fun k hk => .inl hk)
  refine h b cap w' hA (hH.step j hj (ownZ e size _ _ _) how ?_ hA)
  intro k hk
  have hk' : (Value.slice (some ⟨b, 0, none⟩) (n + 1) cap).ownBlock = some k := hk
  rcases hloc with e1 | e1
  · exact .inl (e1.symm.trans hk')
  · rw [hk'] at e1
    injection e1 with e1
    exact .inr (by omega)
end
end Go.RowKit
namespace Go.Proofs.Ytdlcmbnbfghdmaa
open Go.RowKit Bw
set_option linter.unusedVariables false
theorem own_capZ {w : World} {e : TypeId} {size : Nat} {q : Option Addr} {n c : Nat} {xs : List Value} (h : (ownZ e size (.slice q n c) n xs).holds w) : n ≤ c := by
  have h' : w.ownsRow 0 e size (.slice q n c) n xs := h
  rcases h'.2 with ⟨h1, h2⟩ | ⟨g, cap, cur, h1, -, -, h2, -⟩
  · injection h1 with e1 e2 e3
    subst e1 e3
    omega
  · injection h1 with e1 e2 e3
    subst e1 e3
    exact h2
theorem hold_toSl' {W w : World} {T : List Res} {q : Option Addr} {n c : Nat} {e : TypeId} {xs : List Value} {l : List PairD} (h : Hold W w T) (j : Nat) (hj : T[j]? = some (ownZ e 2 (.slice q n c) n xs)) (he : xs = cellsP l) (hn : n = l.length) (hc : n ≤ c) (hq : q = none → c = 0) : Hold W w (T.set j (slR q c l)) := by
  subst he
  exact h.step j hj (slR q c l) (slR_own h hj hn hc hq).1 (fun k hk => .inl (by obtain ⟨a, ha, rfl⟩ := hk; subst ha; rfl)) (AllS.refl _ w)
set_option maxHeartbeats 4000000 in
set_option maxRecDepth 100000 in
theorem leaf_Cut (x : LfD) (q : Option Addr) (c : Nat) (w : World) (hP : PairsAt w q x.l) (hl : x.l.length ≤ maxLen) (hE : ∀ p ∈ x.l, p.1.size ≤ maxLen ∧ p.2.size ≤ maxLen) (hH : x.high.size ≤ maxLen) :
    Calls Try.prog 10 #[lfV x q c] w fun e w' => ∃ g c', e = .returned (lfV (lcutD x) (some ⟨g, 0, none⟩) c') ∧ (slR (some ⟨g, 0, none⟩) c' (lcutD x).l).holds w' ∧ NewQ w (some ⟨g, 0, none⟩) ∧ Below w.heap.size w w' := by
  obtain ⟨L, H, N⟩ := x
  simp only [lfV, lcutD] at *
  unfold maxLen at hl hE hH
  have HPA := Lib.hid hP
  have HEA := Lib.hid hE
  clear hP hE
  have hLL : lcutL L = (L.take 60).map lcutP := rfl
  generalize lcutL L = L' at *
  have HLL := Lib.hid hLL
  clear hLL
  have hC4 : cut40 H = H.extract 0 (min (H.size : Int) 40).toNat := rfl
  rw [hC4]
  clear hC4
  go_enter Try.func10, Try.ntmps10
  go_upto_region 1 with fail
  have hD := ((Hold.start w).madeRow (.slice q L.length c) [.string H, .int .i64 N] 24).madeRow (.slice none 0 0) [.string ⟨#[]⟩, .int .i64 0] 24
  simp only [World.size_alloc, List.nil_append] at hD
  generalize hw0 : (w.alloc (.cells #[.slice q L.length c, .string H, .int .i64 N] 24)).alloc (.cells #[.slice none 0 0, .string ⟨#[]⟩, .int .i64 0] 24) = w0 at *
  replace hD : Hold w (w0.alloc (.cells #[] 44)) [rowR w.heap.size (.slice (q) L.length c) [.string H, .int .i64 N], rowR (w.heap.size + 1) (.slice none 0 0) [.string ⟨#[]⟩, .int .i64 0], ownZ 44 2 (.slice (some ⟨w0.heap.size, 0, none⟩) 0 0) 0 []] := Hold.madeZ hD 44 2
  clear hw0
  obtain ⟨inf, hi0', hz0, hz1, hz2⟩ := infoPair
  go_wp2_with fail
  go_loopw [3, 4] (fun v3 v4 wr => ∃ (n : Nat) (g cc : Nat), n ≤ 60 ∧ n ≤ L.length ∧ v4 = .int .i64 n ∧ v3 = .slice (some ⟨g, 0, none⟩) n cc ∧ Hold w wr [rowR w.heap.size (.slice (q) L.length c) [.string H, .int .i64 N], rowR (w.heap.size + 1) (.slice none 0 0) [.string ⟨#[]⟩, .int .i64 0], ownZ 44 2 (.slice (some ⟨g, 0, none⟩) n cc) n (cellsP ((L.take n).map lcutP))]) (fun _ v _ => 60 - (intOf v).toNat)
  case atStart => exact ⟨0, _, 0, by omega, by omega, rfl, rfl, hD⟩
  case round =>
  clear hD
  obtain ⟨n, g, cc, hn6, hnl, rfl, rfl, hD⟩ := hrel
  obtain ⟨t0, t1, t2, -⟩ := RowAt.c3 (hD.get 0 rfl)
  have i0 : (0 : Int) ≤ (n : Int) := by omega
  have i1 : (n : Int) ≤ 60 := by omega
  have i2 : (L.length : Int) ≤ 9223372036854775807 := by omega
  by_cases hgo : n < L.length ∧ n < 60
  · obtain ⟨hg1, hg2⟩ := hgo
    have b1 : (n : Int) < (L.length : Int) := by omega
    have b2 : (n : Int) < 60 := by omega
    obtain ⟨ga, oa, hq, a1, a2⟩ := (HPA.out.up hD.up) n hg1
    have hs := HEA.out _ (List.getElem_mem hg1)
    have HT := Lib.hid (show cellsP ((L.take n).map lcutP) ++ [.string (cut40 L[n].1), .string (cut60 L[n].2)] = cellsP ((L.take (n + 1)).map lcutP) by
      rw [List.take_succ_eq_append_getElem hg1, List.map_append, cellsP_append]; simp [cellsP, lcutP])
    generalize L[n] = p at *
    obtain ⟨pk, pv⟩ := p
    simp only at a1 a2 hs HT
    subst hq
    clear i2 hg1 hg2
    have i2 : (L.length : Int) ≤ 9223372036854775807 := by omega
    go_upto_region 6 with fail
    have hE : Hold w (wr.alloc (.cells #[.string pk, .string pv] 44)) [rowR w.heap.size (.slice (some ⟨ga, oa, none⟩) L.length c) [.string H, .int .i64 N], rowR (w.heap.size + 1) (.slice none 0 0) [.string ⟨#[]⟩, .int .i64 0], ownZ 44 2 (.slice (some ⟨g, 0, none⟩) n cc) n (cellsP ((L.take n).map lcutP)), rowR wr.heap.size (.string pk) [.string pv]] := hD.madeRow (.string pk) [.string pv] 44
    clear t0 t1 t2 a1 a2
    have hD := hE
    clear hE
    generalize wr.heap.size = g5 at *
    generalize wr.alloc _ = w5 at *
    have hs1 := hs.1
    have hs2 := hs.2
    clear hs
    refine wp_region_two Eq (AllS (ownZ 44 2 (.slice (some ⟨g, 0, none⟩) n cc) n (cellsP ((L.take n).map lcutP))).has) (allS_ok _) (by kernel_rfl) (by kernel_rfl) (by kernel_rfl) ?_
    replace hD := hD.next ((Below.refl _ w5).drew)
    generalize w5.drew = wa at *
    have hg5 : ¬ (ownZ 44 2 (.slice (some ⟨g, 0, none⟩) n cc) n (cellsP ((L.take n).map lcutP))).has g5 := hD.apart' 3 2 rfl rfl (by decide) g5 rfl
    obtain ⟨t0, t1, -⟩ := RowAt.c2 (hD.get 3 rfl)
    refine wpAnyTS_quiet 0 16 3 52 (by rfl) (by kernel_rfl) (fun _ _ _ _ _ h => h) (by kernel_rfl) (by kernel_rfl) ?_
    apply Exists.intro
    refine ⟨fun w2 hw2 => ?_, ?_⟩
    · have hne := laterR_ne (R := Eq) eqOK w2
      obtain ⟨l0, l1⟩ := And.intro (laterS t0 hg5 hw2) (laterS t1 hg5 hw2)
      simp only [List.drop_zero, List.take_succ_cons, List.take_zero]
      repeat (go_big_quiet_step (fail))
      exact wpQuiet_nil rfl
    clear t0 t1
    refine wpAnyTS_some 16 [] 2 (by rfl) (by kernel_rfl) (by kernel_rfl) ?_
    rintro w2 rfl
    refine ⟨?_, trivial⟩
    simp only [List.drop_succ_cons, List.drop_zero, List.take_succ_cons, List.take_zero]
    go_wp2_with fail
    refine ⟨.inr (AllS.of_up ((Up.refl _).alloc _)), ?_⟩
    have hF : Hold w (wa.alloc (.cells #[.string (cut40 pk), .string (cut60 pv)] 44)) [rowR w.heap.size (.slice (some ⟨ga, oa, none⟩) L.length c) [.string H, .int .i64 N], rowR (w.heap.size + 1) (.slice none 0 0) [.string ⟨#[]⟩, .int .i64 0], ownZ 44 2 (.slice (some ⟨g, 0, none⟩) n cc) n (cellsP ((L.take n).map lcutP)), rowR g5 (.string pk) [.string pv], rowR wa.heap.size (.string (cut40 pk)) [.string (cut60 pv)]] := hD.madeRow (.string (cut40 pk)) [.string (cut60 pv)] 44
    clear hD
    have r7 : RowAt _ wa.heap.size [.string (cut40 pk), .string (cut60 pv)] := hF.get 4 rfl
    refine wpAnyTS_some 17 [] 1 (by rfl) (by kernel_rfl) (by kernel_rfl) ?_
    rintro w2 rfl
    refine ⟨?_, trivial⟩
    simp only [List.drop_succ_cons, List.drop_zero, List.take_succ_cons, List.take_zero]
    go_wp2_with ((with_reducible refine wpList_at 40 ?_); refine wpList_appendA rfl _ _ 22 rfl 44 inf (.agg #[.string ⟨#[]⟩, .string ⟨#[]⟩]) 2 32 (by kernel_rfl) hi0' hz0 hz1 hz2 rfl (by decide) hF 2 _ (cellsP ((L.take n).map lcutP)) n rfl rfl ⟨wa.heap.size, 0, none⟩ 1 [.string (cut40 pk), .string (cut60 pv)] rfl rfl r7.addsAt (fun x hx => by simp at hx; rcases hx with rfl | rfl <;> rfl) (by unfold maxLen; omega) (by omega) ?_; intro b5 c5 w6 hA6 hw)
    refine ⟨.inr hA6, ?_⟩
    rw [HT.out] at hw
    refine wpAnyTS_quiet 18 1 0 52 (by rfl) (by kernel_rfl) (fun _ _ _ _ _ h => h) (by kernel_rfl) (by kernel_rfl) ?_
    apply Exists.intro
    refine ⟨fun w2 hw2 => ?_, ?_⟩
    · have hne := laterR_ne (R := Eq) eqOK w2
      skip
      simp only [List.drop_succ_cons, List.drop_zero, List.take_succ_cons, List.take_zero]
      repeat (go_big_quiet_step (fail))
      exact wpQuiet_nil rfl
    refine wpAnyTS_done (by kernel_rfl) ?_
    rintro w2 rfl
    go_wp2_with fail
    refine ⟨⟨n + 1, b5, c5, by omega, by omega, by go_num, rfl, hw.sub (List.sublist_append_left [_, _, _] [_, _])⟩, by simp [intOf]; omega⟩
  · have hT : L.take n = L.take 60 := by
      by_cases h : n = 60
      · rw [h]
      · have : n = L.length := by omega
        rw [List.take_of_length_le (by omega), List.take_of_length_le (by omega)]
    have key : ¬ (n : Int) < (L.length : Int) ∨ ((n : Int) < (L.length : Int) ∧ ¬ (n : Int) < 60) := by omega
    have hlen : n = L'.length := by rw [HLL.out]; simp; omega
    have hc1 := own_capZ (hD.get 2 rfl)
    have hD2 : Hold w wr [rowR w.heap.size (.slice (q) L.length c) [.string H, .int .i64 N], rowR (w.heap.size + 1) (.slice none 0 0) [.string ⟨#[]⟩, .int .i64 0], slR (some ⟨g, 0, none⟩) cc L'] := hold_toSl' hD 2 rfl (by rw [hT, ← HLL.out]) hlen hc1 (fun h => by cases h)
    rw [hlen] at key i0 i1 ⊢
    clear hD hT hc1 hnl hn6 hgo
    clear hlen HPA HEA HLL
    rcases key with k1 | ⟨k1, k2⟩
    all_goals
      have hD := hD2
      go_upto_region 7 with fail
      refine wp_region_two Eq (AllS NoS) (allS_ok NoS) (by kernel_rfl) (by kernel_rfl) (by kernel_rfl) ?_
      replace hD := hD.next ((Below.refl _ wr).drew)
      clear t0 t1 t2 hD2
      generalize wr.drew = wa at *
      obtain ⟨t0, t1, t2, -⟩ := RowAt.c3 (hD.get 0 rfl)
      refine wpAnyTS_quiet 0 11 1 52 (by rfl) (by kernel_rfl) (fun _ _ _ _ _ h => h) (by kernel_rfl) (by kernel_rfl) ?_
      apply Exists.intro
      refine ⟨fun w2 hw2 => ?_, ?_⟩
      · have hne := laterR_ne (R := Eq) eqOK w2
        obtain ⟨l0, l1⟩ := And.intro (laterS t1 id hw2) (laterS t2 id hw2)
        simp only [List.drop_zero, List.take_succ_cons, List.take_zero]
        repeat (go_big_quiet_step (fail))
        exact wpQuiet_nil rfl
      refine wpAnyTS_some 11 [] 0 (by rfl) (by kernel_rfl) (by kernel_rfl) ?_
      rintro w2 rfl
      refine ⟨?_, trivial⟩
      obtain ⟨x0, x1, x2, y0, y1, y2⟩ := RowAt.c3 (hD.get 1 rfl)
      simp only [List.drop_succ_cons, List.drop_zero, List.take_succ_cons, List.take_zero]
      go_wp2_with fail
      refine ⟨.inl (by kernel_rfl), ?_⟩
      replace hD := ((hD.putRow 1 (g := w.heap.size + 1) rfl 0 (.slice (some ⟨g, 0, none⟩) L'.length cc) (.slice (some ⟨g, 0, none⟩) L'.length cc) [.string ⟨#[]⟩, .int .i64 0] (by simp) rfl).putRow 1 (g := w.heap.size + 1) rfl 1 (.string (H.extract 0 (min (H.size : Int) 40).toNat)) (.slice (some ⟨g, 0, none⟩) L'.length cc) [.string (H.extract 0 (min (H.size : Int) 40).toNat), .int .i64 0] (by simp) rfl).putRow 1 (g := w.heap.size + 1) rfl 2 (.int .i64 N) (.slice (some ⟨g, 0, none⟩) L'.length cc) [.string (H.extract 0 (min (H.size : Int) 40).toNat), .int .i64 N] (by simp) rfl
      clear t0 t1 t2 x0 x1 x2 y0 y1 y2
      refine wpAnyTS_done (by kernel_rfl) ?_
      rintro w2 rfl
      obtain ⟨x0, x1, x2, -⟩ := RowAt.c3 (hD.get 1 rfl)
      go_wp2_with fail
      exact bodyPost_ret (v := .agg #[.slice (some ⟨g, 0, none⟩) L'.length cc, .string (H.extract 0 (min (H.size : Int) 40).toNat), .int .i64 N]) (by simp [results, Try.results10, go_sem, *]) rfl ⟨g, cc, rfl, hD.get 2 rfl, slR_new hD (j := 2) rfl, hD.up⟩
end Go.Proofs.Ytdlcmbnbfghdmaa
