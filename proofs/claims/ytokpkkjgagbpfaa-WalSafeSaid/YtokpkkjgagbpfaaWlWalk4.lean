/- Layer 6: a half, gone through. -/
import Derived.Test.YtokpkkjgagbpfaaWlWalk3
namespace Bw
set_option linter.unusedVariables false
theorem leafW_size {d : DiskD} {half : Int} {i : Nat} {l : LeafW} (h : d.leafW half i = some l) : l.bytes.size ≤ 234 := by
  unfold DiskD.leafW at h
  by_cases ho : d.readE (half * (d.halfN : Int) + i) = 0
  · rw [if_pos ho] at h
    generalize d.readS (half * (d.halfN : Int) + i) = x at *
    unfold leafOf at h
    by_cases hc : getV x 0 6 = getV x 244 6 ∧ getV x 6 2 = getV x 250 2 ∧ getV x 0 6 ≠ 0 ∧ getV x 6 2 = i ∧ getV x 8 1 ≤ 1 ∧ getV x 9 1 ≤ 234
    · rw [if_pos hc] at h
      injection h with h
      obtain ⟨-, -, -, -, -, c6⟩ := hc
      subst h
      show (x.extract 10 (10 + (getV x 9 1).toNat)).size ≤ 234
      rw [ByteArray.size_extract]; omega
    · rw [if_neg hc] at h; cases h
  · rw [if_neg ho] at h; cases h
end Bw
namespace Go.Proofs.Ytokpkkjgagbpfaa
open Go.RowKit Bw
set_option linter.unusedVariables false
set_option maxRecDepth 100000
/-- What scan hands back. -/
def ScanPost (w : World) (st : ScanW) (e : Ending) (w' : World) : Prop := ∃ (q : Option Addr) (c : Nat), e = .returned (.agg #[.int .i64 st.age, .slice q st.recs.length c, .int .i64 (st.pages : Int)]) ∧ Hold w w' [ownZ 9 1 (.slice q st.recs.length c) st.recs.length (strC st.recs)]
/-- The row that scan hands back, as it begins. -/
abbrev rowP (g : Nat) : List Res := [rowR g (.int .i64 0) [.slice none 0 0, .int .i64 0]]
variable {W w : World} {l : List Res} {g a c : Nat} {q : Option Nat} {d : DiskD}
set_option maxHeartbeats 2000000 in
theorem wal_scan (h : Hold W w l) (j : Nat) (hj : l[j]? = some (diskR g a q c d)) (hc : c ≤ 1099511627776) (hok : d.Ok) (half : Nat) (hh : half ≤ 1) :
    Calls Try.prog 38 #[.pointer (some ⟨g, 0, none⟩), .int .i64 half] w (ScanPost w (d.scan half)) := by
  have hn2 := hok.n2
  have CR := Lib.hid (fun w1 (hh' : Hold W w1 l) i hi => wal_read hh' j hj hc hok half i hh hi)
  have CL := Lib.hid (fun w1 (hh' : Hold W w1 l) => hLen hh' j hj)
  obtain ⟨D, hDn⟩ : ∃ D : Nat, d.n = D := ⟨_, rfl⟩
  obtain ⟨H, hH⟩ : ∃ H : Nat, d.halfN = H := ⟨_, rfl⟩
  have hQ2 : (D : Int) / 2 = (H : Int) := by unfold DiskD.halfN at hH; omega
  have hH512 : H ≤ 512 := by unfold DiskD.halfN at hH; omega
  have CL2 := Lib.hid (fun w1 hh => hDn ▸ CL.out w1 hh)
  obtain ⟨FIN, hF⟩ : ∃ FIN, d.scan half = FIN := ⟨_, rfl⟩
  have hF2 : scanN (d.leafW half) H 0 scan0 = FIN := by rw [← hF, ← hH]; rfl
  have hsz := fun i lf (h : d.leafW half i = some lf) => leafW_size h
  rw [hF]
  have HF := Lib.hid hF2
  have HSZ := Lib.hid hsz
  have HH := Lib.hid hH
  have H0 := Lib.hid h
  clear hF hF2 hsz hH CL hDn hn2 h
  generalize d.leafW half = rd at *
  go_enter Try.func38, Try.ntmps38
  go_wp2_with fail
  go_step3
  go_upto_region 2 with fail
  have hD := (((Hold.start w).madeRow (.int .i64 0) [.slice none 0 0, .int .i64 0] 70).madeRow (.int .i64 0) [.slice none 0 0, .int .i64 0] 70).nilZ 9 1
  simp only [World.size_alloc, List.nil_append, List.cons_append] at hD
  generalize hgg : w.heap.size = g4 at *
  generalize (w.alloc _).alloc _ = w1 at *
  replace hD : Hold w w1 (hsR (g4 + 1) 0 none 0 0 [] (rowP g4)) := hD.perm (List.perm_append_comm (l₁ := [rowR g4 (.int .i64 0) [.slice none 0 0, .int .i64 0]]) (l₂ := [rowR (g4 + 1) (.int .i64 0) [.slice none 0 0, .int .i64 0], ownZ 9 1 (.slice none 0 0) 0 []]))
  have h1 := H0.out.next hD.up
  go_step3
  go_wp2_with ((with_reducible refine (CL2.out _ h1).mono ?_); rintro e wn ⟨rfl, rfl⟩)
  clear CL2
  go_loopw [6, 7, 15] (fun v6 v7 v15 wr => ∃ (n : Nat) (st : ScanW) (q : Option Addr) (c : Nat), v15 = .int .i64 (n : Int) ∧ v6 = .string st.left ∧ v7 = .int .i64 st.last ∧ n ≤ H ∧ st.pages = n ∧ Hold w wr (hsR (g4 + 1) st.age q c st.pages st.recs (rowP g4)) ∧ scanN rd (H - n) n st = FIN ∧ st.left.size + 3 * st.recs.length ≤ 234 * n) (fun v6 v7 v15 _ => H - (intOf v15).toNat)
  case atStart => exact ⟨0, scan0, none, 0, rfl, rfl, rfl, by omega, rfl, hD, HF.out, by decide⟩
  case round =>
  obtain ⟨n, st, q, c, rfl, rfl, rfl, hn, hp, hD, hs, hz⟩ := hrel
  by_cases hlt : n < H
  · have hlt' : (n : Int) < (H : Int) := by omega
    have CRn := Lib.hid (CR.out wr (H0.out.next hD.up) n (by rw [HH.out]; exact hlt))
    cases hrd : rd n with
    | none =>
      rw [hrd, leafV, Option.isSome_none] at CRn
      have hfin : st = FIN := by rw [← hs, show H - n = (H - n - 1) + 1 by omega, scanN, hrd]
      clear hs CR
      subst hfin
      go_upto_region 6 with ((with_reducible refine CRn.out.mono ?_); rintro e wm ⟨rfl, hb⟩; replace hD := hD.next hb; clear hb)
      replace hD := hD.next ((Below.refl _ wm).alloc (Nat.le_refl _) (.cells #[.int .i64 0, .int .i64 0, .bool false, .string ⟨#[]⟩] 100))
      generalize wm.alloc _ = w6 at *
      obtain ⟨p0, p1, p2, y0, y1, y2⟩ := RowAt.c3 (hD.get 0 rfl)
      obtain ⟨r0, r1, r2, s0, s1, s2⟩ := RowAt.c3 (hD.get 2 rfl)
      go_wp2_with fail
      have hE := ((hD.putRow 2 (g := g4) rfl 0 (.int .i64 st.age) (.int .i64 st.age) [.slice none 0 0, .int .i64 0] (by simp) rfl).putRow 2 (g := g4) rfl 1 (.slice q st.recs.length c) (.int .i64 st.age) [.slice q st.recs.length c, .int .i64 0] (by simp) rfl).putRow 2 (g := g4) rfl 2 (.int .i64 (st.pages : Int)) (.int .i64 st.age) [.slice q st.recs.length c, .int .i64 (st.pages : Int)] (by simp) rfl
      clear p0 p1 p2 y0 y1 y2 r0 r1 r2 s0 s1 s2 hD
      subst hp
      generalize ((World.setCell _ _ _).setCell _ _).setCell _ _ = w9 at *
      obtain ⟨p0, p1, p2, y0, y1, y2⟩ := RowAt.c3 (hE.get 2 rfl)
      refine bodyPost_ret (v := .agg #[.int .i64 st.age, .slice q st.recs.length c, .int .i64 (st.pages : Int)]) (by simp [results, Try.results38, go_sem, p0, p1, p2]) rfl ⟨q, c, rfl, hE.sub (l' := [ownZ 9 1 (.slice q st.recs.length c) st.recs.length (strC st.recs)]) (.cons _ (.cons_cons _ (List.nil_sublist _)))⟩
    | some lf =>
      rw [hrd, leafV, Option.isSome_some] at CRn
      go_upto_region 6 with ((with_reducible refine CRn.out.mono ?_); rintro e wm ⟨rfl, hb⟩; replace hD := hD.next hb; clear hb)
      have hgl : g4 + 1 < wm.heap.size := RowAt.lt (hD.get 0 rfl)
      replace hD := hD.madeRow (.int .i64 lf.age) [.int .i64 (n : Int), .bool lf.begins, .string lf.bytes] 100
      simp only [List.nil_append, List.cons_append] at hD
      have hLs := HSZ.out n lf hrd
      generalize hgm : wm.heap.size = gm at *
      generalize wm.alloc _ = w6 at *
      have hne1 : ¬ g4 + 1 = gm := by omega
      have hne2 : ¬ gm = g4 + 1 := by omega
      obtain ⟨la, lb, lby⟩ := lf
      by_cases hs1 : la < st.last
      · have hfin : st = FIN := by rw [← hs, show H - n = (H - n - 1) + 1 by omega, scanN, hrd]; simp [scanStop, hs1]
        clear hs CR hrd CRn HF
        subst hfin
        obtain ⟨⟨x0, x1, x2, x3⟩, x4, x5, x6, x7⟩ := RowAt.c4 (hD.get 3 rfl)
        go_upto_region 7 with fail
        replace hD := hD.sub (l' := hsR (g4 + 1) st.age q c st.pages st.recs (rowP g4)) (List.sublist_append_left _ [_])
        obtain ⟨p0, p1, p2, y0, y1, y2⟩ := RowAt.c3 (hD.get 0 rfl)
        obtain ⟨r0, r1, r2, s0, s1, s2⟩ := RowAt.c3 (hD.get 2 rfl)
        go_wp2_with fail
        have hE := ((hD.putRow 2 (g := g4) rfl 0 (.int .i64 st.age) (.int .i64 st.age) [.slice none 0 0, .int .i64 0] (by simp) rfl).putRow 2 (g := g4) rfl 1 (.slice q st.recs.length c) (.int .i64 st.age) [.slice q st.recs.length c, .int .i64 0] (by simp) rfl).putRow 2 (g := g4) rfl 2 (.int .i64 (st.pages : Int)) (.int .i64 st.age) [.slice q st.recs.length c, .int .i64 (st.pages : Int)] (by simp) rfl
        clear p0 p1 p2 y0 y1 y2 r0 r1 r2 s0 s1 s2 hD
        subst hp
        generalize ((World.setCell _ _ _).setCell _ _).setCell _ _ = w9 at *
        obtain ⟨p0, p1, p2, y0, y1, y2⟩ := RowAt.c3 (hE.get 2 rfl)
        refine bodyPost_ret (v := .agg #[.int .i64 st.age, .slice q st.recs.length c, .int .i64 (st.pages : Int)]) (by simp [results, Try.results38, go_sem, p0, p1, p2]) rfl ⟨q, c, rfl, hE.sub (l' := [ownZ 9 1 (.slice q st.recs.length c) st.recs.length (strC st.recs)]) (.cons _ (.cons_cons _ (List.nil_sublist _)))⟩
      · have hs1' : st.last ≤ la := by omega
        by_cases hs2 : st.last < la ∧ lb = false
        · obtain ⟨hs2, rfl⟩ := hs2
          have hfin : st = FIN := by rw [← hs, show H - n = (H - n - 1) + 1 by omega, scanN, hrd]; simp [scanStop, hs2]
          clear hs CR hrd CRn HF
          subst hfin
          obtain ⟨⟨x0, x1, x2, x3⟩, x4, x5, x6, x7⟩ := RowAt.c4 (hD.get 3 rfl)
          go_upto_region 8 with fail
          replace hD := hD.sub (l' := hsR (g4 + 1) st.age q c st.pages st.recs (rowP g4)) (List.sublist_append_left _ [_])
          obtain ⟨p0, p1, p2, y0, y1, y2⟩ := RowAt.c3 (hD.get 0 rfl)
          obtain ⟨r0, r1, r2, s0, s1, s2⟩ := RowAt.c3 (hD.get 2 rfl)
          go_wp2_with fail
          have hE := ((hD.putRow 2 (g := g4) rfl 0 (.int .i64 st.age) (.int .i64 st.age) [.slice none 0 0, .int .i64 0] (by simp) rfl).putRow 2 (g := g4) rfl 1 (.slice q st.recs.length c) (.int .i64 st.age) [.slice q st.recs.length c, .int .i64 0] (by simp) rfl).putRow 2 (g := g4) rfl 2 (.int .i64 (st.pages : Int)) (.int .i64 st.age) [.slice q st.recs.length c, .int .i64 (st.pages : Int)] (by simp) rfl
          clear p0 p1 p2 y0 y1 y2 r0 r1 r2 s0 s1 s2 hD
          subst hp
          generalize ((World.setCell _ _ _).setCell _ _).setCell _ _ = w9 at *
          obtain ⟨p0, p1, p2, y0, y1, y2⟩ := RowAt.c3 (hE.get 2 rfl)
          refine bodyPost_ret (v := .agg #[.int .i64 st.age, .slice q st.recs.length c, .int .i64 (st.pages : Int)]) (by simp [results, Try.results38, go_sem, p0, p1, p2]) rfl ⟨q, c, rfl, hE.sub (l' := [ownZ 9 1 (.slice q st.recs.length c) st.recs.length (strC st.recs)]) (.cons _ (.cons_cons _ (List.nil_sublist _)))⟩
        · have hnx : scanN rd (H - (n + 1)) (n + 1) (scanStep n ⟨la, lb, lby⟩ st) = FIN := by
            rw [← hs, show H - n = (H - (n + 1)) + 1 by omega, scanN, hrd]
            have : scanStop ⟨la, lb, lby⟩ st = false := by
              unfold scanStop
              cases lb with
              | false => simp only [Bool.or_eq_false_iff, decide_eq_false_iff_not, Bool.and_eq_false_iff]; exact ⟨hs1, .inl fun h => hs2 ⟨h, rfl⟩⟩
              | true => simp only [Bool.or_eq_false_iff, decide_eq_false_iff_not, Bool.and_eq_false_iff]; exact ⟨hs1, .inr rfl⟩
            simp [this]
          have HN := Lib.hid hnx
          clear hnx hs CR hrd CRn HF
          obtain ⟨⟨x0, x1, x2, x3⟩, x4, x5, x6, x7⟩ := RowAt.c4 (hD.get 3 rfl)
          by_cases hl : st.last < la
          · have hb : lb = true := by
              cases lb with
              | false => exact absurd ⟨hl, rfl⟩ hs2
              | true => rfl
            subst hb
            clear hs2
            have hw0 := whole_left _ ((⟨#[]⟩ : ByteArray) ++ lby) (Nat.le_refl _)
            rw [ByteArray.size_append] at hw0
            have hLz : ByteArray.size (⟨#[]⟩ : ByteArray) ≤ st.left.size := by first | exact Nat.le_refl _ | exact Nat.zero_le _
            have hLs' : lby.size ≤ 234 := hLs
            have CW := Lib.hid (fun (w1 : World) (A : Int) (hh : Hold w w1 (hsR (g4 + 1) A q c (n + 1) st.recs (rowP g4 ++ [rowR gm (.int .i64 la) [.int .i64 n, .bool true, .string lby]]))) => wal_whole hh ((⟨#[]⟩ : ByteArray) ++ lby) (by rw [ByteArray.size_append]; omega) (by rw [ByteArray.size_append]; omega))
            have HW0 := Lib.hid hw0
            have HLZ := Lib.hid hLz
            clear hw0 hLz
            obtain ⟨p0, p1, p2, y0, y1, y2⟩ := RowAt.c3 (hD.get 0 rfl)
            by_cases hn0 : n = 0
            · subst hn0
              go_upto_region 14 with fail
              have hE := (hD.putRow 0 (g := g4 + 1) rfl 0 (.int .i64 la) (.int .i64 la) [.slice q st.recs.length c, .int .i64 (st.pages : Int)] (by simp) rfl).putRow 0 (g := g4 + 1) rfl 2 (.int .i64 1) (.int .i64 la) [.slice q st.recs.length c, .int .i64 1] (by simp) rfl
              clear p0 p1 p2 y0 y1 y2 x0 x1 x2 x3 x4 x5 x6 x7
              replace hE : Hold w _ (hsR (g4 + 1) la q c (0 + 1) st.recs (rowP g4 ++ [rowR gm (.int .i64 la) [.int .i64 (0 : Int), .bool true, .string lby]])) := hE
              generalize World.setCell _ _ _ = w8 at *
              obtain ⟨⟨x0, x1, x2, x3⟩, x4, x5, x6, x7⟩ := RowAt.c4 (hE.get 3 rfl)
              go_upto_region 15 with ((with_reducible refine (CW.out _ _ hE).mono ?_); rintro e wn ⟨rfl, q1, c1, hE1⟩)
              clear CW hE hD x0 x1 x2 x3 x4 x5 x6 x7
              replace hE1 := hE1.sub (l' := hsR (g4 + 1) la q1 c1 (0 + 1) (st.recs ++ (wholeW ((⟨#[]⟩ : ByteArray) ++ lby)).1) (rowP g4)) (List.sublist_append_left _ [_])
              have hw0 := HW0.out
              have hLz := HLZ.out
              go_wp2_with fail
              refine ⟨⟨0 + 1, scanStep 0 ⟨la, true, lby⟩ st, q1, c1, rfl, ?_, rfl, by omega, rfl, ?_, HN.out, ?_⟩, ?_⟩
              · show Value.string _ = Value.string (wholeW ((if st.last < la then ByteArray.empty else st.left) ++ lby)).2
                rw [if_pos hl]; try rfl
              · show Hold w _ (hsR (g4 + 1) (if 0 = 0 then la else st.age) q1 c1 (0 + 1) (st.recs ++ (wholeW ((if st.last < la then ByteArray.empty else st.left) ++ lby)).1) (rowP g4))
                rw [if_pos hl, if_pos rfl]; exact hE1
              · show (wholeW ((if st.last < la then ByteArray.empty else st.left) ++ lby)).2.size + 3 * (st.recs ++ (wholeW ((if st.last < la then ByteArray.empty else st.left) ++ lby)).1).length ≤ _
                rw [if_pos hl, List.length_append]
                change (wholeW ((⟨#[]⟩ : ByteArray) ++ lby)).2.size + 3 * (st.recs.length + (wholeW ((⟨#[]⟩ : ByteArray) ++ lby)).1.length) ≤ _
                omega
              · simp only [intOf]; omega
            · have hn1 : ((n : Int) == 0) = false := by simpa using hn0
              go_upto_region 14 with fail
              have hE := hD.putRow 0 (g := g4 + 1) rfl 2 (.int .i64 ((n : Int) + 1)) (.int .i64 st.age) [.slice q st.recs.length c, .int .i64 ((n : Int) + 1)] (by simp) rfl
              clear p0 p1 p2 y0 y1 y2 x0 x1 x2 x3 x4 x5 x6 x7
              replace hE : Hold w _ (hsR (g4 + 1) st.age q c (n + 1) st.recs (rowP g4 ++ [rowR gm (.int .i64 la) [.int .i64 (n : Int), .bool true, .string lby]])) := hE
              generalize World.setCell _ _ _ = w8 at *
              obtain ⟨⟨x0, x1, x2, x3⟩, x4, x5, x6, x7⟩ := RowAt.c4 (hE.get 3 rfl)
              go_upto_region 15 with ((with_reducible refine (CW.out _ _ hE).mono ?_); rintro e wn ⟨rfl, q1, c1, hE1⟩)
              clear CW hE hD x0 x1 x2 x3 x4 x5 x6 x7
              replace hE1 := hE1.sub (l' := hsR (g4 + 1) st.age q1 c1 (n + 1) (st.recs ++ (wholeW ((⟨#[]⟩ : ByteArray) ++ lby)).1) (rowP g4)) (List.sublist_append_left _ [_])
              have hw0 := HW0.out
              have hLz := HLZ.out
              go_wp2_with fail
              refine ⟨⟨n + 1, scanStep n ⟨la, true, lby⟩ st, q1, c1, rfl, ?_, rfl, by omega, rfl, ?_, HN.out, ?_⟩, ?_⟩
              · show Value.string _ = Value.string (wholeW ((if st.last < la then ByteArray.empty else st.left) ++ lby)).2
                rw [if_pos hl]; try rfl
              · show Hold w _ (hsR (g4 + 1) (if n = 0 then la else st.age) q1 c1 (n + 1) (st.recs ++ (wholeW ((if st.last < la then ByteArray.empty else st.left) ++ lby)).1) (rowP g4))
                rw [if_pos hl, if_neg hn0]; exact hE1
              · show (wholeW ((if st.last < la then ByteArray.empty else st.left) ++ lby)).2.size + 3 * (st.recs ++ (wholeW ((if st.last < la then ByteArray.empty else st.left) ++ lby)).1).length ≤ _
                rw [if_pos hl, List.length_append]
                change (wholeW ((⟨#[]⟩ : ByteArray) ++ lby)).2.size + 3 * (st.recs.length + (wholeW ((⟨#[]⟩ : ByteArray) ++ lby)).1.length) ≤ _
                omega
              · simp only [intOf]; omega
          · clear hs2
            have hw0 := whole_left _ (st.left ++ lby) (Nat.le_refl _)
            rw [ByteArray.size_append] at hw0
            have hLz : ByteArray.size st.left ≤ st.left.size := by first | exact Nat.le_refl _ | exact Nat.zero_le _
            have hLs' : lby.size ≤ 234 := hLs
            have CW := Lib.hid (fun (w1 : World) (A : Int) (hh : Hold w w1 (hsR (g4 + 1) A q c (n + 1) st.recs (rowP g4 ++ [rowR gm (.int .i64 la) [.int .i64 n, .bool lb, .string lby]]))) => wal_whole hh (st.left ++ lby) (by rw [ByteArray.size_append]; omega) (by rw [ByteArray.size_append]; omega))
            have HW0 := Lib.hid hw0
            have HLZ := Lib.hid hLz
            clear hw0 hLz
            obtain ⟨p0, p1, p2, y0, y1, y2⟩ := RowAt.c3 (hD.get 0 rfl)
            by_cases hn0 : n = 0
            · subst hn0
              go_upto_region 14 with fail
              have hE := (hD.putRow 0 (g := g4 + 1) rfl 0 (.int .i64 la) (.int .i64 la) [.slice q st.recs.length c, .int .i64 (st.pages : Int)] (by simp) rfl).putRow 0 (g := g4 + 1) rfl 2 (.int .i64 1) (.int .i64 la) [.slice q st.recs.length c, .int .i64 1] (by simp) rfl
              clear p0 p1 p2 y0 y1 y2 x0 x1 x2 x3 x4 x5 x6 x7
              replace hE : Hold w _ (hsR (g4 + 1) la q c (0 + 1) st.recs (rowP g4 ++ [rowR gm (.int .i64 la) [.int .i64 (0 : Int), .bool lb, .string lby]])) := hE
              generalize World.setCell _ _ _ = w8 at *
              obtain ⟨⟨x0, x1, x2, x3⟩, x4, x5, x6, x7⟩ := RowAt.c4 (hE.get 3 rfl)
              go_upto_region 15 with ((with_reducible refine (CW.out _ _ hE).mono ?_); rintro e wn ⟨rfl, q1, c1, hE1⟩)
              clear CW hE hD x0 x1 x2 x3 x4 x5 x6 x7
              replace hE1 := hE1.sub (l' := hsR (g4 + 1) la q1 c1 (0 + 1) (st.recs ++ (wholeW (st.left ++ lby)).1) (rowP g4)) (List.sublist_append_left _ [_])
              have hw0 := HW0.out
              have hLz := HLZ.out
              go_wp2_with fail
              refine ⟨⟨0 + 1, scanStep 0 ⟨la, lb, lby⟩ st, q1, c1, rfl, ?_, rfl, by omega, rfl, ?_, HN.out, ?_⟩, ?_⟩
              · show Value.string _ = Value.string (wholeW ((if st.last < la then ByteArray.empty else st.left) ++ lby)).2
                rw [if_neg (Int.not_lt.2 hl)]; try rfl
              · show Hold w _ (hsR (g4 + 1) (if 0 = 0 then la else st.age) q1 c1 (0 + 1) (st.recs ++ (wholeW ((if st.last < la then ByteArray.empty else st.left) ++ lby)).1) (rowP g4))
                rw [if_neg (Int.not_lt.2 hl), if_pos rfl]; exact hE1
              · show (wholeW ((if st.last < la then ByteArray.empty else st.left) ++ lby)).2.size + 3 * (st.recs ++ (wholeW ((if st.last < la then ByteArray.empty else st.left) ++ lby)).1).length ≤ _
                rw [if_neg (Int.not_lt.2 hl), List.length_append]
                change (wholeW (st.left ++ lby)).2.size + 3 * (st.recs.length + (wholeW (st.left ++ lby)).1.length) ≤ _
                omega
              · simp only [intOf]; omega
            · have hn1 : ((n : Int) == 0) = false := by simpa using hn0
              go_upto_region 14 with fail
              have hE := hD.putRow 0 (g := g4 + 1) rfl 2 (.int .i64 ((n : Int) + 1)) (.int .i64 st.age) [.slice q st.recs.length c, .int .i64 ((n : Int) + 1)] (by simp) rfl
              clear p0 p1 p2 y0 y1 y2 x0 x1 x2 x3 x4 x5 x6 x7
              replace hE : Hold w _ (hsR (g4 + 1) st.age q c (n + 1) st.recs (rowP g4 ++ [rowR gm (.int .i64 la) [.int .i64 (n : Int), .bool lb, .string lby]])) := hE
              generalize World.setCell _ _ _ = w8 at *
              obtain ⟨⟨x0, x1, x2, x3⟩, x4, x5, x6, x7⟩ := RowAt.c4 (hE.get 3 rfl)
              go_upto_region 15 with ((with_reducible refine (CW.out _ _ hE).mono ?_); rintro e wn ⟨rfl, q1, c1, hE1⟩)
              clear CW hE hD x0 x1 x2 x3 x4 x5 x6 x7
              replace hE1 := hE1.sub (l' := hsR (g4 + 1) st.age q1 c1 (n + 1) (st.recs ++ (wholeW (st.left ++ lby)).1) (rowP g4)) (List.sublist_append_left _ [_])
              have hw0 := HW0.out
              have hLz := HLZ.out
              go_wp2_with fail
              refine ⟨⟨n + 1, scanStep n ⟨la, lb, lby⟩ st, q1, c1, rfl, ?_, rfl, by omega, rfl, ?_, HN.out, ?_⟩, ?_⟩
              · show Value.string _ = Value.string (wholeW ((if st.last < la then ByteArray.empty else st.left) ++ lby)).2
                rw [if_neg (Int.not_lt.2 hl)]; try rfl
              · show Hold w _ (hsR (g4 + 1) (if n = 0 then la else st.age) q1 c1 (n + 1) (st.recs ++ (wholeW ((if st.last < la then ByteArray.empty else st.left) ++ lby)).1) (rowP g4))
                rw [if_neg (Int.not_lt.2 hl), if_neg hn0]; exact hE1
              · show (wholeW ((if st.last < la then ByteArray.empty else st.left) ++ lby)).2.size + 3 * (st.recs ++ (wholeW ((if st.last < la then ByteArray.empty else st.left) ++ lby)).1).length ≤ _
                rw [if_neg (Int.not_lt.2 hl), List.length_append]
                change (wholeW (st.left ++ lby)).2.size + 3 * (st.recs.length + (wholeW (st.left ++ lby)).1.length) ≤ _
                omega
              · simp only [intOf]; omega
  · have hlt' : ¬ (n : Int) < (H : Int) := by omega
    have hfin : st = FIN := by rw [← hs, show H - n = 0 by omega]; rfl
    subst hfin
    clear CR hs
    obtain ⟨p0, p1, p2, y0, y1, y2⟩ := RowAt.c3 (hD.get 0 rfl)
    obtain ⟨r0, r1, r2, s0, s1, s2⟩ := RowAt.c3 (hD.get 2 rfl)
    go_wp2_with fail
    have hE := ((hD.putRow 2 (g := g4) rfl 0 (.int .i64 st.age) (.int .i64 st.age) [.slice none 0 0, .int .i64 0] (by simp) rfl).putRow 2 (g := g4) rfl 1 (.slice q st.recs.length c) (.int .i64 st.age) [.slice q st.recs.length c, .int .i64 0] (by simp) rfl).putRow 2 (g := g4) rfl 2 (.int .i64 (st.pages : Int)) (.int .i64 st.age) [.slice q st.recs.length c, .int .i64 (st.pages : Int)] (by simp) rfl
    clear p0 p1 p2 y0 y1 y2 r0 r1 r2 s0 s1 s2 hD
    subst hp
    generalize ((World.setCell _ _ _).setCell _ _).setCell _ _ = w9 at *
    obtain ⟨p0, p1, p2, y0, y1, y2⟩ := RowAt.c3 (hE.get 2 rfl)
    refine bodyPost_ret (v := .agg #[.int .i64 st.age, .slice q st.recs.length c, .int .i64 (st.pages : Int)]) (by simp [results, Try.results38, go_sem, p0, p1, p2]) rfl ⟨q, c, rfl, hE.sub (l' := [ownZ 9 1 (.slice q st.recs.length c) st.recs.length (strC st.recs)]) (.cons _ (.cons_cons _ (List.nil_sublist _)))⟩
end Go.Proofs.Ytokpkkjgagbpfaa
