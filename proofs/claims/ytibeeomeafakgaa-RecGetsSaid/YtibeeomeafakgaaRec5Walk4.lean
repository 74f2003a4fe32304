import Derived.Test.YtibeeomeafakgaaRecWalk6
import Derived.Test.YtibeeomeafakgaaRec5Cut0
import Derived.Test.YtibeeomeafakgaaUpTail
import Derived.OwnWalk
namespace Go.Proofs.Ytibeeomeafakgaa
open Go.RowKit Bw
set_option linter.unusedVariables false

/-- What Cut wants of a record's texts. -/
def ShortR (r : RecD) : Prop := r.key.size ≤ maxLen ∧ r.val.size ≤ maxLen ∧ ∀ p ∈ r.l, p.1.size ≤ maxLen ∧ p.2.size ≤ maxLen


/-- Where a slice lies: in blocks from lo to hi - 1. -/
def InB (lo hi : Nat) (p : Option Addr) : Prop := ∀ a, p = some a → lo ≤ a.block ∧ a.block < hi
theorem pairs_owned {w : World} {base lo : Nat} {e : TypeId} {b3 : Option Addr} {k c3 : Nat} {l L : List PairD} (hlo : lo ≤ base) (h : w.ownsRow base e 2 (.slice b3 k c3) k (cellsP L)) (hL : l = L) (hn : l.length = k) : PairsAt w b3 l ∧ InB lo w.heap.size b3 := by
  subst hL
  obtain ⟨q, c, hq, hp⟩ := owned_pairs h hn.symm
  injection hq with e1 _ _
  subst e1
  refine ⟨hp, ?_⟩
  intro a ha
  subst ha
  have := h.lt a.block rfl
  omega

set_option maxHeartbeats 2000000 in
theorem law5_Cut (r : RecD) (pa : Option Addr) (ca : Nat) (w : World) (hA : PairsAt w pa r.l) (la : r.l.length ≤ maxLen) (hs : ShortR r) :
    Calls Try.prog 10 #[recV r (.slice pa r.l.length ca)] w fun e w' => ∃ p c, e = .returned (recV (cutR r) (.slice p (cutR r).l.length c)) ∧ PairsAt w' p (cutR r).l ∧ InB w.heap.size w'.heap.size p ∧ Below w.heap.size w w' := by
  obtain ⟨i0, hi0, hz0, hz1, hz2⟩ := info_parts (P := Try.prog) (e := 47) (z := .agg #[.string ⟨#[]⟩, .string ⟨#[]⟩]) (size := 2) (bytes := 32) (by kernel_rfl)
  obtain ⟨K, T, key, val, p, u, n, l⟩ := r
  obtain ⟨hk, hv, hl⟩ := hs
  simp only at hA la hk hv hl
  unfold maxLen at hk hv hl la
  have HA := Lib.hid hA; have HS := Lib.hid hl; clear hA hl
  have hck := cutS_eq key
  have hcv := cutS_eq val
  have HF := Lib.hid (show ∀ pv, recV (cutR ⟨K, T, key, val, p, u, n, l⟩) pv = .agg #[.int .i64 K, .int .i64 T, .string (cutS key), .string (cutS val), .int .i64 p, .int .i64 u, .int .i64 n, pv] from fun _ => rfl)
  have HL := Lib.hid (show (cutR ⟨K, T, key, val, p, u, n, l⟩).l = (l.take 40).map cutP from rfl)
  generalize cutR ⟨K, T, key, val, p, u, n, l⟩ = R at *
  generalize cutS key = ck at *
  generalize cutS val = cv at *
  rw [show recV ⟨K, T, key, val, p, u, n, l⟩ (.slice pa l.length ca) = .agg #[.int .i64 K, .int .i64 T, .string key, .string val, .int .i64 p, .int .i64 u, .int .i64 n, .slice pa l.length ca] from rfl]
  have hu := Up.refl w
  go_enter Try.func10, Try.ntmps10
  go_upto_region 1 with fail
  have rp := (RowAt.made w 24 [.int .i64 K, .int .i64 T, .string key, .string val, .int .i64 p, .int .i64 u, .int .i64 n, .slice pa l.length ca]).alloc (.cells #[.int .i64 0, .int .i64 0, .string ⟨#[]⟩, .string ⟨#[]⟩, .int .i64 0, .int .i64 0, .int .i64 0, .slice none 0 0] 24)
  have rr := RowAt.made (w.alloc (.cells #[.int .i64 K, .int .i64 T, .string key, .string val, .int .i64 p, .int .i64 u, .int .i64 n, .slice pa l.length ca] 24)) 24 [.int .i64 0, .int .i64 0, .string ⟨#[]⟩, .string ⟨#[]⟩, .int .i64 0, .int .i64 0, .int .i64 0, .slice none 0 0]
  simp at rp rr
  replace hu := (hu.alloc (.cells #[.int .i64 K, .int .i64 T, .string key, .string val, .int .i64 p, .int .i64 u, .int .i64 n, .slice pa l.length ca] 24)).alloc (.cells #[.int .i64 0, .int .i64 0, .string ⟨#[]⟩, .string ⟨#[]⟩, .int .i64 0, .int .i64 0, .int .i64 0, .slice none 0 0] 24)
  generalize hw3 : (w.alloc (.cells #[.int .i64 K, .int .i64 T, .string key, .string val, .int .i64 p, .int .i64 u, .int .i64 n, .slice pa l.length ca] 24)).alloc (.cells #[.int .i64 0, .int .i64 0, .string ⟨#[]⟩, .string ⟨#[]⟩, .int .i64 0, .int .i64 0, .int .i64 0, .slice none 0 0] 24) = w3 at *
  clear hw3
  go_cut [12] (fun v wx => v = .string ck ∧ RowAt wx w.heap.size [.int .i64 K, .int .i64 T, .string ck, .string val, .int .i64 p, .int .i64 u, .int .i64 n, .slice pa l.length ca] ∧ RowAt wx (w.heap.size + 1) [.int .i64 0, .int .i64 0, .string ⟨#[]⟩, .string ⟨#[]⟩, .int .i64 0, .int .i64 0, .int .i64 0, .slice none 0 0] ∧ Up w wx)
  case first =>
    obtain ⟨p0, p1, p2, p3, p4, p5, p6, p7, z0, z1, z2, z3, z4, z5, z6, z7⟩ := rp.c8
    have HCK := Lib.hid hck
    clear hcv hck
    go_wp2_with fail
    go_meet
    rw [HCK.out]
    exact ⟨rfl, rp.set 2 _ (by simp), rr.other _ 2 _ (by omega), Up.setCell hu _ _ _ (by omega)⟩
  case rest =>
  clear rp rr hu hck
  obtain ⟨rfl, rp, rr, hu⟩ := hcut
  go_upto_region 2 with fail
  go_cut [20] (fun v wx => v = .string cv ∧ RowAt wx w.heap.size [.int .i64 K, .int .i64 T, .string ck, .string cv, .int .i64 p, .int .i64 u, .int .i64 n, .slice pa l.length ca] ∧ RowAt wx (w.heap.size + 1) [.int .i64 0, .int .i64 0, .string ⟨#[]⟩, .string ⟨#[]⟩, .int .i64 0, .int .i64 0, .int .i64 0, .slice none 0 0] ∧ Up w wx)
  case first =>
    obtain ⟨p0, p1, p2, p3, p4, p5, p6, p7, z0, z1, z2, z3, z4, z5, z6, z7⟩ := rp.c8
    have HCK := Lib.hid hcv
    clear hcv
    go_wp2_with fail
    go_meet
    rw [HCK.out]
    exact ⟨rfl, rp.set 3 _ (by simp), rr.other _ 3 _ (by omega), Up.setCell hu _ _ _ (by omega)⟩
  case rest =>
  clear rp rr hu hcv
  obtain ⟨rfl, rp, rr, hu⟩ := hcut
  clear hk hv
  go_upto_region 4 with fail
  have how := World.ownsRow_made (base := w.heap.size + 2) (e := 47) (size := 2) wc #[] 0 (by have := rr.lt; omega) (by decide) (by rfl)
  replace hu := hu.alloc (.cells #[] 47)
  replace rp := rp.alloc (.cells #[] 47)
  replace rr := rr.alloc (.cells #[] 47)
  generalize wc.heap.size = g4 at *
  generalize wc.alloc (.cells #[] 47) = w4 at *
  go_wp2_with fail
  go_loopw [3, 4] (fun v3 v4 wr => ∃ (k : Nat) (b3 : Option Addr) (c3 : Nat), k ≤ l.length ∧ k ≤ 40 ∧ v3 = .slice b3 k c3 ∧ v4 = .int .i64 k ∧ wr.ownsRow (w.heap.size + 2) 47 2 v3 k (cellsP ((l.take k).map cutP)) ∧ RowAt wr w.heap.size [.int .i64 K, .int .i64 T, .string ck, .string cv, .int .i64 p, .int .i64 u, .int .i64 n, .slice pa l.length ca] ∧ RowAt wr (w.heap.size + 1) [.int .i64 0, .int .i64 0, .string ⟨#[]⟩, .string ⟨#[]⟩, .int .i64 0, .int .i64 0, .int .i64 0, .slice none 0 0] ∧ Up w wr) (fun _ v4 _ => l.length - (intOf v4).toNat)
  case atStart => exact ⟨0, _, _, by omega, by omega, rfl, rfl, how, rp, rr, hu⟩
  case round =>
    clear how rp rr hu
    obtain ⟨k, b3, c3, hk, hk2, rfl, rfl, how, rp, rr, hu⟩ := hrel
    obtain ⟨p0, p1, p2, p3, p4, p5, p6, p7, z0, z1, z2, z3, z4, z5, z6, z7⟩ := rp.c8
    obtain ⟨t0, t1, t2, t3, t4, t5, t6, t7, y0, y1, y2, y3, y4, y5, y6, y7⟩ := rr.c8
    by_cases hlt : k < l.length
    · by_cases hlt2 : k < 40
      · obtain ⟨ga, oa, rfl, a1, a2⟩ := (HA.out.up hu) k hlt
        obtain ⟨s1, s2⟩ := HS.out _ (List.getElem_mem hlt)
        have hT : cellsP ((l.take (k + 1)).map cutP) = cellsP ((l.take k).map cutP) ++ [.string (cutS l[k].1), .string (cutS l[k].2)] := by
          rw [List.take_succ_eq_append_getElem hlt, List.map_append, cellsP_append]; rfl
        generalize l[k] = x at *
        obtain ⟨x1, x2⟩ := x
        simp only at hT s1 s2 a1 a2
        have HT := Lib.hid hT; clear hT
        have HX := Lib.hid (cutS_eq x1)
        have HY := Lib.hid (cutS_eq x2)
        have j0 : (0 : Int) ≤ (k : Int) := by omega
        have j1 : (k : Int) < (l.length : Int) := by omega
        have j2 : (k : Int) < 40 := by omega
        go_upto_region 8 with fail
        have r5 := RowAt.made wr 47 [.string x1, .string x2]
        replace how := how.alloc (.cells #[.string x1, .string x2] 47)
        replace hu := hu.alloc (.cells #[.string x1, .string x2] 47)
        replace rp := rp.alloc (.cells #[.string x1, .string x2] 47)
        replace rr := rr.alloc (.cells #[.string x1, .string x2] 47)
        clear p0 p1 p2 p3 p4 p5 p6 p7 z0 z1 z2 z3 z4 z5 z6 z7 t0 t1 t2 t3 t4 t5 t6 t7 y0 y1 y2 y3 y4 y5 y6 y7 a1 a2
        generalize wr.heap.size = g5 at *
        generalize wr.alloc (.cells #[.string x1, .string x2] 47) = wx at *
        obtain ⟨q0, q1, -⟩ := r5.c2
        refine wp_region_tail 17 (by kernel_rfl) (by kernel_rfl) (by kernel_rfl) (by kernel_rfl) ?_
        refine wpHeadS_quiet 0 16 1 60 (by rfl) (by kernel_rfl) (fun _ _ _ _ _ h => h) (by kernel_rfl) (by kernel_rfl) ?_
        apply Exists.intro
        refine ⟨fun w1 hw1 => ?_, ?_⟩
        · have l_q0 := Later.of_base q0 hw1
          have l_q1 := Later.of_base q1 hw1
          have hne := later_ne w1
          simp only [List.drop_zero, List.take_succ_cons, List.take_zero]
          repeat (go_big_quiet_step (fail))
          exact wpQuiet_nil rfl
        clear q0 q1
        rw [HX.out, HY.out]
        generalize cutS x1 = d1 at *
        generalize cutS x2 = d2 at *
        refine wpHeadS_one 16 0 (by rfl) (by kernel_rfl) (by kernel_rfl) ?_
        intro w1 hw1
        simp only [List.drop_succ_cons, List.drop_zero, List.take_succ_cons, List.take_zero]
        go_wp2_with fail
        refine ⟨(Up.refl w1).alloc _, ?_⟩
        have r6 := RowAt.made w1 47 [.string d1, .string d2]
        replace how := (ownsRow_up how hw1).alloc (.cells #[.string d1, .string d2] 47)
        replace hu := (hu.trans hw1).alloc (.cells #[.string d1, .string d2] 47)
        replace rp := (rp.up hw1).alloc (.cells #[.string d1, .string d2] 47)
        replace rr := (rr.up hw1).alloc (.cells #[.string d1, .string d2] 47)
        generalize w1.heap.size = g6 at *
        generalize w1.alloc (.cells #[.string d1, .string d2] 47) = w2 at *
        refine wpHeadS_tail (by rfl) (by kernel_rfl) ?_
        intro w4' hw4
        replace how := ownsRow_up how hw4
        replace hu := hu.trans hw4
        replace rp := rp.up hw4
        replace rr := rr.up hw4
        replace r6 := r6.up hw4
        have hsz := rr.lt
        simp only [List.drop_succ_cons, List.drop_zero]
        go_wp2_with (first
          | (at_builtin; refine wpList_append_own _ rfl _ _ 22 rfl (w.heap.size + 2) 47 i0 (.agg #[.string ⟨#[]⟩, .string ⟨#[]⟩]) 2 32 (by kernel_rfl) hi0 hz0 hz1 hz2 rfl (by decide) _ _ _ rfl how ⟨g6, 0, none⟩ 1 1 [.string d1, .string d2] rfl rfl r6.adds (fun x hx => by simp at hx; rcases hx with rfl | rfl <;> rfl) (by unfold maxLen; omega) (by omega) (by omega) ?_; intro v' w5 how' hgrow _; obtain ⟨b5, c5, rfl⟩ := own_form how'; rw [← HT.out] at how'; replace hu := hu.grown hgrow (fun q hq => by have := (how.lt q hq).1; omega); replace rp := rp.grown hgrow (fun q hq => by have := (how.lt q hq).1; omega); replace rr := rr.grown hgrow (fun q hq => by have := (how.lt q hq).1; omega); clear hgrow how r6))
        refine ⟨⟨k + 1, b5, c5, by omega, by omega, rfl, by go_num, how', rp, rr, hu⟩, by simp [intOf]; omega⟩
      · have j1 : (k : Int) < (l.length : Int) := by omega
        have j2 : ¬ (k : Int) < 40 := by omega
        have HK := Lib.hid (show R.l = (l.take k).map cutP by rw [HL.out]; congr 1; symm; rw [show k = 40 by omega])
        have HN := Lib.hid (show R.l.length = k by rw [HL.out, List.length_map, List.length_take]; omega)
        clear hlt hlt2 hk hk2
        go_wp2_with fail
        refine bodyPost_ret (v := .agg #[.int .i64 K, .int .i64 T, .string ck, .string cv, .int .i64 p, .int .i64 u, .int .i64 n, .slice b3 k c3]) (by simp [results, Try.results10, go_sem, *]) rfl ⟨b3, ⟨c3, by rw [HN.out, HF.out]⟩, ?_⟩
        refine and_assoc.1 ⟨pairs_owned (base := w.heap.size + 2) (e := 47) (k := k) (c3 := c3) (by omega) ?_ HK.out HN.out, ?_⟩
        · repeat (refine ownsRow_set ?_ _ _ _ (by omega))
          exact how
        · repeat (refine Up.setCell ?_ _ _ _ (by omega))
          exact hu
    · have j1 : ¬ (k : Int) < (l.length : Int) := by omega
      have HK := Lib.hid (show R.l = (l.take k).map cutP by rw [HL.out]; congr 1; symm; rw [List.take_of_length_le (by omega), List.take_of_length_le (by omega)])
      have HN := Lib.hid (show R.l.length = k by rw [HL.out, List.length_map, List.length_take]; omega)
      clear hlt hk hk2
      go_wp2_with fail
      refine bodyPost_ret (v := .agg #[.int .i64 K, .int .i64 T, .string ck, .string cv, .int .i64 p, .int .i64 u, .int .i64 n, .slice b3 k c3]) (by simp [results, Try.results10, go_sem, *]) rfl ⟨b3, ⟨c3, by rw [HN.out, HF.out]⟩, ?_⟩
      refine and_assoc.1 ⟨pairs_owned (base := w.heap.size + 2) (e := 47) (k := k) (c3 := c3) (by omega) ?_ HK.out HN.out, ?_⟩
      · repeat (refine ownsRow_set ?_ _ _ _ (by omega))
        exact how
      · repeat (refine Up.setCell ?_ _ _ _ (by omega))
        exact hu
end Go.Proofs.Ytibeeomeafakgaa
