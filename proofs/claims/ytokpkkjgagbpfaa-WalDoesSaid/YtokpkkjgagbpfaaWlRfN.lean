/- Layer 6, the document: lay. -/
import Derived.Test.YtokpkkjgagbpfaaWlRfM
namespace Bw
open Go Go.RowKit
set_option linter.unusedVariables false
theorem layN_W (d : DiskD) (age : Int) (which start : Nat) (s : ByteArray) : ∀ k, (layN d age which start s k).W.length ≤ d.W.length + k
  | 0 => Nat.le_refl _
  | k + 1 => by
    have h := layN_W d age which start s k
    show ((layN d age which start s k).writeD _ _).W.length ≤ _
    unfold DiskD.writeD
    split
    · show ((layN d age which start s k).W ++ [_]).length ≤ _
      rw [List.length_append, List.length_singleton]; omega
    · omega
theorem lay_cut {k : Nat} (hk : k ≤ 60000) : wrap64 (234 * (k : Int)) = 234 * (k : Int) ∧ wrap64 (234 * (k : Int) + 234) = 234 * (k : Int) + 234 :=
  ⟨IntWalk.wrap64_in _ (by omega), IntWalk.wrap64_in _ (by omega)⟩
theorem lay_place {P start k : Nat} (hP : P ≤ 512) (hs : start ≤ 1000) (hk : k ≤ 60000) : wrap64 ((P : Int) + (start : Int)) = (P : Int) + (start : Int) ∧ wrap64 ((P : Int) + (start : Int) + (k : Int)) = (P : Int) + (start : Int) + (k : Int) ∧ wrap64 ((start : Int) + (k : Int)) = (start : Int) + (k : Int) :=
  ⟨IntWalk.wrap64_in _ (by omega), IntWalk.wrap64_in _ (by omega), IntWalk.wrap64_in _ (by omega)⟩
end Bw
namespace Go.Proofs.Ytokpkkjgagbpfaa
open Go.RowKit Bw
set_option linter.unusedVariables false
set_option maxRecDepth 100000
variable {W w : World} {X : Res} {rest : List Res} {g gr cl : Nat} {vL vW : Value} {d : DiskD} {L : LogD} {ql : Option Addr}
set_option maxHeartbeats 2000000 in
theorem ref6_lay (h : Hold W w (rtrio X g vL vW d gr L ql cl rest)) (hok : d.Ok) (hA : 0 ≤ L.age ∧ L.age < 281474976710656) (which start : Nat) (hw : which ≤ 1) (hst : start ≤ 1000) (s : ByteArray) (hs : s.size ≤ 100000000) (hfit : start + needW s.size ≤ 60000) (hl : d.W.length + needW s.size ≤ 1000) :
    Calls Try.prog 50 #[.pointer (some ⟨gr, 0, none⟩), .string s, .int .i64 (which : Int), .int .i64 (start : Int)] w fun e w' => e = .returned (.tuple #[]) ∧ ∃ vW', Hold W w' (rtrio X g vL vW' (layD d L.age which start s) gr L ql cl rest) := by
  obtain ⟨N, hN⟩ : ∃ N, needW s.size = N := ⟨_, rfl⟩
  have hn2 := hok.n2
  have HD0 := Lib.hid h
  have HN := Lib.hid hN
  have CN := Lib.hid (hN ▸ ref6_Need s (by omega) w)
  unfold layD
  rw [hN]
  rw [hN] at hfit hl
  obtain ⟨D, hDn⟩ : ∃ D : Nat, d.n = D := ⟨_, rfl⟩
  obtain ⟨H, hH⟩ : ∃ H : Nat, d.halfN = H := ⟨_, rfl⟩
  have hQ2 : (D : Int) / 2 = (H : Int) := by unfold DiskD.halfN at hH; omega
  have hH512 : H ≤ 512 := by unfold DiskD.halfN at hH; omega
  obtain ⟨P, hP⟩ : ∃ P : Nat, which * H = P := ⟨_, rfl⟩
  have hP2 : P ≤ 512 := by
    rcases Nat.le_one_iff_eq_zero_or_eq_one.1 hw with h | h <;> subst h <;> omega
  have hm1 : (which : Int) * (H : Int) = (P : Int) := by rw [← Int.natCast_mul, hP]
  have hvl : ∃ b cap, vL = .slice (some ⟨b, 0, none⟩) D cap := by
    obtain ⟨b, cap, hv, -⟩ := refs_n h hok
    exact ⟨b, cap, by rw [hv, hDn]⟩
  obtain ⟨b, cap, hvL⟩ := hvl
  have HP := Lib.hid (show ∀ k : Nat, ((which * d.halfN + start + k : Nat) : Int) = (P : Int) + (start : Int) + (k : Int) from fun k => by rw [hH, hP]; omega)
  obtain ⟨A, hAn⟩ : ∃ A : Nat, L.age = (A : Int) := ⟨L.age.toNat, by omega⟩
  have HL := Lib.hid hl
  have HOK := Lib.hid hok
  have HA := Lib.hid hAn
  have HVL := Lib.hid hvL
  have hA2 : A < 281474976710656 := by omega
  clear hvL hAn hA h hN hDn hH hP hn2 hok hl
  go_enter Try.func50, Try.ntmps50
  go_wp2_with ((with_reducible refine CN.out.mono ?_); rintro e wn ⟨rfl, rfl⟩)
  clear CN
  go_loopw [9] (fun v wr => ∃ (k : Nat) (vW' : Value), v = .int .i64 (k : Int) ∧ k ≤ N ∧ Hold W wr (rtrio X g vL vW' (layN d L.age which start s k) gr L ql cl rest)) (fun v _ => N - (intOf v).toNat)
  case atStart => exact ⟨0, vW, rfl, Nat.zero_le _, HD0.out⟩
  case round =>
  obtain ⟨k, vW', rfl, hk, hD⟩ := hrel
  by_cases hkn : k < N
  · have hkn' : (k : Int) < (N : Int) := by omega
    have hlt : 234 * k < s.size := by have := HN.out; unfold needW at this; omega
    obtain ⟨M, hM⟩ : ∃ M, min s.size (234 * k + 234) = M := ⟨_, rfl⟩
    have hMI : min (s.size : Int) (234 * (k : Int) + 234) = (M : Int) := by omega
    have m1 : (M : Int) ≤ (s.size : Int) := by omega
    have m2 : 234 * (k : Int) ≤ (M : Int) := by omega
    have m3 : M - 234 * k ≤ 234 := by omega
    have w3 : (234 * (k : Int)).toNat = 234 * k := by omega
    have hk6 : k ≤ 60000 := by omega
    have PL := Lib.hid (lay_place hP2 hst hk6)
    have HXB := Lib.hid (show (s.extract (234 * k) M).size ≤ 234 by rw [ByteArray.size_extract]; omega)
    obtain ⟨w1, w2⟩ := lay_cut hk6
    go_upto_region 5 with fail
    have hXB := HXB.out
    have HLay := Lib.hid (show layN d L.age which start s (k + 1) = (layN d L.age which start s k).writeD ((P : Int) + (start : Int) + (k : Int)) (leafS L.age.toNat (start + k) (decide (k = 0)) (s.extract (234 * k) M)) by
      rw [← HP.out k, ← hM]; rfl)
    generalize s.extract (234 * k) M = XB at *
    have hkb : ((k : Int) == 0) = decide (k = 0) := by rw [Bool.eq_iff_iff]; simp
    have LT := Lib.hid (fun w => show Calls Try.prog 75 #[.agg #[.int .i64 (A : Int), .int .i64 ((start : Int) + (k : Int)), .bool ((k : Int) == 0), .string XB]] w fun e w' => e = .returned (.string (leafS L.age.toNat (start + k) (decide (k = 0)) XB)) ∧ Up w w' from by
      have := ref6_Text A (start + k) (decide (k = 0)) XB hA2 (by omega) hXB w
      rw [HA.out, Int.toNat_natCast]
      rw [← hkb] at this
      rw [hkb] at this ⊢
      exact this)
    have hLF : (leafS L.age.toNat (start + k) (decide (k = 0)) XB).size ≤ 1099511627776 := by
      show (str (leafL _ _ _ (lst XB))).size ≤ _
      rw [size_str, leafL_len _ _ _ _ (by rw [lst_length]; exact hXB)]; decide
    generalize leafS L.age.toNat (start + k) (decide (k = 0)) XB = LF at *
    clear hkb
    obtain ⟨a0, a1, a2, a3, a4, a5, a6, a7, e0, e1, e2, e3, e4, e5, e6, e7⟩ := RowAt.c8 (hD.get 4 rfl)
    have x0 := (refs_row hD).1
    rw [HVL.out] at x0
    have HWr := Lib.hid (fun (u : Later wr) => ref4_Write (hD.next u.up) (layN_ok HOK.out L.age which start s k) (by have := layN_W d L.age which start s k; have := HL.out; omega) ((P : Int) + (start : Int) + (k : Int)) LF hLF)
    rw [HA.out] at a2
    clear hD hXB HXB hLF w1 w2 w3 m1 m2 m3 hM hMI hlt hk
    refine wp_region_later_tail 31 (by kernel_rfl) (by kernel_rfl) ?_
    have l0 := Later.cell_of a0
    have l1 := Later.cell_of a2
    have l2 := Later.cell_of x0
    have hne := later_ne wr
    clear a0 a1 a2 a3 a4 a5 a6 a7 e0 e1 e2 e3 e4 e5 e6 e7 x0
    simp only [List.take_succ_cons, List.take_zero]
    repeat (go_big_quiet_step (first | (go_at_call 75; with_reducible exact Calls.later (LT.out _))))
    refine wpQuiet_nil ?_
    rintro w9 ⟨u9, rfl⟩
    have HW9 := Lib.hid (HWr.out u9)
    clear l0 l1 l2 hne HWr LT
    generalize u9.world = w9 at *
    simp only [List.drop_succ_cons, List.drop_zero]
    go_wp2_with ((with_reducible refine HW9.out.mono ?_); rintro e w10 ⟨rfl, vW2, hE⟩)
    rw [← HLay.out] at hE
    exact ⟨⟨k + 1, vW2, rfl, by omega, hE⟩, by simp [intOf]; omega⟩
  · have hk3 : k = N := by omega
    have hkn' : ¬ (k : Int) < (N : Int) := by omega
    subst hk3
    go_wp2_with fail
    go_end0
    exact ⟨rfl, vW', hD⟩
end Go.Proofs.Ytokpkkjgagbpfaa
namespace Bw
open Go Go.RowKit
set_option linter.unusedVariables false
theorem recQ_none {W w : World} {l : List Res} {k : Nat} {e : TypeId} {q : Option Addr} {c : Nat} {rs : List ByteArray} (h : Hold W w l) (hk : l[k]? = some (ownZ e 1 (.slice q rs.length c) rs.length (strC rs))) (n : Nat) : recQ q c n = none → rs.length - n = 0 ∧ c - n = 0 := by
  have h' : w.ownsRow 0 e 1 (.slice q rs.length c) rs.length (strC rs) := h.get k hk
  intro hq
  rcases h'.2 with ⟨h0, h1⟩ | ⟨g, cap, cur, he, hb, hg, hnc, -⟩
  · injection h0 with _ h0 h2
    omega
  · injection he with h1 _ h3
    subst h1 h3
    unfold recQ at hq
    split at hq <;> cases hq
theorem why_parts {L : LogD} {s : ByteArray} (h : L.why s = 0) : ¬ s.size = 0 ∧ ¬ 100000 < s.size ∧ L.turned.size = 0 := by
  unfold LogD.why at h
  by_cases h1 : s.size = 0 ∨ 100000 < s.size
  · rw [if_pos h1] at h; cases h
  · rw [if_neg h1] at h
    by_cases h2 : L.turned.size ≠ 0
    · rw [if_pos h2] at h; cases h
    · exact ⟨fun e => h1 (.inl e), fun e => h1 (.inr e), by omega⟩
end Bw
namespace Go.Proofs.Ytokpkkjgagbpfaa
open Go.RowKit Bw
set_option linter.unusedVariables false
set_option maxRecDepth 100000
variable {W w : World} {X : Res} {rest : List Res} {g gr cl : Nat} {vL vW : Value} {d : DiskD} {L : LogD} {ql : Option Addr}
set_option maxHeartbeats 4000000 in
theorem ref6_Append (h : Hold W w (rtrio X g vL vW d gr L ql cl rest)) (hok : d.Ok) (hwr : L.written ≤ L.recs.length) (hn : L.recs.length ≤ 90000) (hsm : ∀ x ∈ L.recs.drop L.written, x.size ≤ 100000) (hp : L.pages ≤ 1000000) (s : ByteArray) (hs : s.size ≤ 1099511627776) :
    Calls Try.prog 15 #[.pointer (some ⟨gr, 0, none⟩), .string s] w fun e w' => e = .returned (.tuple #[.int .i64 (L.appendN d s), .int .i64 (L.appendE d s)]) ∧ ∃ ql' cl', Hold W w' (rtrio X g vL vW d gr (L.append d s) ql' cl' rest) := by
  by_cases hw0 : L.why s = 0
  · obtain ⟨z1, z2, z3⟩ := why_parts hw0
    have j1 : ¬ (s.size : Int) < 1 := by omega
    have j2 : ¬ (s.size : Int) > 100000 := by omega
    have hs2 : s.size ≤ 100000 := by omega
    obtain ⟨which, age, pages, recs, written, sure, turned⟩ := L
    have hb := ba_empty z3
    subst hb
    simp only at hwr hn hsm hp
    have hsl := fun w => slice_recs ql recs.length cl written hwr w
    have hdl : (recs.drop written).length = recs.length - written := List.length_drop
    have hall2 : (recs.drop written ++ [s]).length = recs.length - written + 1 := by rw [List.length_append, hdl]; rfl
    have hall : ∀ x ∈ recs.drop written ++ [s], x.size ≤ 100000 := fun x hx => by
      rcases List.mem_append.1 hx with hx | hx
      · exact hsm x hx
      · obtain rfl := List.mem_singleton.1 hx; exact hs2
    have hfz : (frameW (recs.drop written ++ [s])).size ≤ 100003 * (recs.length - written + 1) := hall2 ▸ frameW_size (recs.drop written ++ [s]) hall
    obtain ⟨R0, hR0⟩ : ∃ R0, LogD.room ⟨which, age, pages, recs, written, sure, ByteArray.empty⟩ d = R0 := ⟨_, rfl⟩
    obtain ⟨N0, hN0⟩ : ∃ N0, needW (frameW (recs.drop written ++ [s])).size = N0 := ⟨_, rfl⟩
    have CN := Lib.hid (fun w => hN0 ▸ ref6_Need (frameW (recs.drop written ++ [s])) (by omega) w)
    have CF := Lib.hid (fun (w : World) (q : Option Addr) (c : Nat) (hr : RecsAt w q (recs.drop written ++ [s])) => show Calls Try.prog 47 #[.slice q (recs.length - written + 1) c] w _ from hall2 ▸ ref6_Bytes (c := c) (recs.drop written ++ [s]) hr hall (by omega))
    have CRm := Lib.hid (fun (w : World) (R : Res) (hh : Hold W w (R :: rtrio X g vL vW d gr ⟨which, age, pages, recs, written, sure, ByteArray.empty⟩ ql cl rest)) => hR0 ▸ ref6_Room (hh.sub (List.sublist_cons_self _ _)) hok hp)
    obtain ⟨a0, a1, a2, a3, a4, a5, a6, a7, e0, e1, e2, e3, e4, e5, e6, e7⟩ := RowAt.c8 (h.get 4 rfl)
    obtain ⟨inf, hi0', hz0, hz1, hz2⟩ := infoStr
    have HX0 := Lib.hid h
    have HRow := Lib.hid (h.get 4 rfl)
    have HQN := Lib.hid (fun w' (hh : Hold W w' (rtrio X g vL vW d gr ⟨which, age, pages, recs, written, sure, ByteArray.empty⟩ ql cl rest)) => And.intro (recQ_none (rs := recs) hh (k := 5) rfl written) (recs_at (rs := recs) hh (k := 5) rfl written))
    have HDL := Lib.hid hdl
    have HALL := Lib.hid hall2
    have hlen : (strC (recs.drop written)).length = (recs.length - written) * 1 := by rw [strC_length, hdl, Nat.mul_one]
    have HLEN := Lib.hid hlen
    have hae : LogD.appendE ⟨which, age, pages, recs, written, sure, ByteArray.empty⟩ d s = if R0 < (N0 : Int) then 6 else 0 := by
      unfold LogD.appendE
      rw [if_neg (by rw [hw0]; simp), hR0]
      have hF2 : frameL (recs.drop written ++ [s]) = lst (frameW (recs.drop written ++ [s])) := by unfold frameW; rw [lst_str]
      rw [show (frameL (List.drop written recs ++ [s])).length = (frameW (recs.drop written ++ [s])).size by rw [hF2, lst_length], hN0]
    have HAE := Lib.hid hae
    clear h hdl hall2 hall hfz hR0 hN0 hsm hw0 z1 z2 z3 hlen hae
    by_cases hbig : R0 < (N0 : Int)
    · have hbig' : (N0 : Int) > R0 := by omega
      have hE0 := HAE.out
      rw [if_pos hbig] at hE0
      have hL : LogD.append ⟨which, age, pages, recs, written, sure, ByteArray.empty⟩ d s = ⟨which, age, pages, recs, written, sure, ByteArray.empty⟩ := by unfold LogD.append; rw [if_neg (by rw [hE0]; decide)]
      have hN : LogD.appendN ⟨which, age, pages, recs, written, sure, ByteArray.empty⟩ d s = 0 := by unfold LogD.appendN; rw [if_neg (by rw [hE0]; decide)]
      rw [hE0, hN, hL]
      clear hE0 hN hL hbig
      go_enter Try.func15, Try.ntmps15
      go_upto_region 5 with fail
      clear a0 a1 a2 a3 a4 a5 a6 a7 e0 e1 e2 e3 e4 e5 e6 e7
      refine wp_region_two Up (Keeps (RowIs gr (.pointer (some ⟨g, 0, none⟩)) [.int .i64 (which : Int), .int .i64 age, .int .i64 (pages : Int), .slice ql recs.length cl, .int .i64 (written : Int), .int .i64 (sure : Int), .string ByteArray.empty])) (keeps_ok rowIs_up) (by kernel_rfl) (by kernel_rfl) (by kernel_rfl) ?_
      have hp1 : RowIs gr (.pointer (some ⟨g, 0, none⟩)) [.int .i64 (which : Int), .int .i64 age, .int .i64 (pages : Int), .slice ql recs.length cl, .int .i64 (written : Int), .int .i64 (sure : Int), .string ByteArray.empty] w.drew := rowIs_up ((Up.refl w).drew) HRow.out
      have hX := HX0.out.next ((Up.refl w).drew)
      generalize w.drew = w1 at *
      refine wpAnyTS_quiet 1 9 3 56 (by rfl) (by kernel_rfl) (fun _ _ _ _ _ h => h) (by kernel_rfl) (by kernel_rfl) ?_
      apply Exists.intro
      refine ⟨fun w2' hw2 => ?_, ?_⟩
      · have hne := laterR_ne (R := Up) rok_upQ w2'
        obtain ⟨b0, b1, b2, b3, b4, b5, b6, b7, -⟩ := RowAt.c8 (hw2 hp1)
        have l4 := laterU b4
        have l5 := laterU b5
        clear b0 b1 b2 b3 b4 b5 b6 b7
        simp only [List.drop_succ_cons, List.drop_zero, List.take_succ_cons, List.take_zero]
        repeat (go_big_quiet_step (fail))
        exact wpQuiet_nil rfl
      refine wpAnyTS_some 0 [] 2 (by rfl) (by kernel_rfl) (by kernel_rfl) ?_
      intro w2 hu2
      replace hX := hX.next hu2
      replace hp1 := rowIs_up hu2 hp1
      clear hu2
      refine ⟨?_, trivial⟩
      simp only [List.drop_succ_cons, List.drop_zero, List.take_succ_cons, List.take_zero]
      have hY : Hold W (w2.alloc (.cells #[] 9)) (ownZ 9 1 (.slice (some ⟨w2.heap.size, 0, none⟩) 0 0) 0 [] :: rtrio X g vL vW d gr ⟨which, age, pages, recs, written, sure, ByteArray.empty⟩ ql cl rest) := (hX.madeZ 9 1).perm (List.perm_append_singleton _ _)
      have hp2 := rowIs_up ((Up.refl w2).alloc (.cells #[] 9)) hp1
      go_wp2_with fail
      refine ⟨.inr fun h => rowIs_up ((Up.refl _).alloc _) h, ?_⟩
      clear hp1 hX
      have hp1 := hp2
      have hX := hY
      clear hp2 hY
      generalize w2.heap.size = gs at *
      generalize w2.alloc _ = w4 at *
      refine wpAnyTS_some 10 [] 1 (by rfl) (by kernel_rfl) (by kernel_rfl) ?_
      intro w2 hu2
      replace hX := hX.next hu2
      replace hp1 := rowIs_up hu2 hp1
      clear hu2
      refine ⟨?_, trivial⟩
      simp only [List.drop_succ_cons, List.drop_zero, List.take_succ_cons, List.take_zero]
      obtain ⟨hqn, hra⟩ := HQN.out _ (hX.sub (List.sublist_cons_self _ _))
      have HRA := Lib.hid hra.cells
      clear hra
      go_wp2_with ((with_reducible refine wpList_at 30 ?_); refine wpList_appendIn rfl _ _ 49 rfl 9 inf (.string ⟨#[]⟩) 1 16 (by kernel_rfl) hi0' hz0 hz1 hz2 rfl (by decide) hX 0 0 _ [] rfl rfl (recQ ql cl written) (recs.length - written) (cl - written) (strC (recs.drop written)) rfl HLEN.out hqn HRA.out (strC_one (recs.drop written)) (by unfold maxLen; omega) (by omega) ?_; intro q9 c9 w9 _ _ hw)
      rw [Nat.zero_add] at hw
      replace hw : Hold W w9 (ownZ 9 1 (.slice q9 (recs.length - written) c9) (recs.length - written) (strC (recs.drop written)) :: rtrio X g vL vW d gr ⟨which, age, pages, recs, written, sure, ByteArray.empty⟩ ql cl rest) := hw
      have hp2 : RowIs gr (.pointer (some ⟨g, 0, none⟩)) [.int .i64 (which : Int), .int .i64 age, .int .i64 (pages : Int), .slice ql recs.length cl, .int .i64 (written : Int), .int .i64 (sure : Int), .string ByteArray.empty] w9 := hw.get 5 rfl
      refine ⟨.inr fun _ => hp2, ?_⟩
      clear hp1 hX HRA hqn
      have hp1 := hp2
      have hX := hw
      clear hp2 hw
      refine wpAnyTS_quiet 11 1 0 56 (by rfl) (by kernel_rfl) (fun _ _ _ _ _ h => h) (by kernel_rfl) (by kernel_rfl) ?_
      apply Exists.intro
      refine ⟨fun w2' hw2 => ?_, ?_⟩
      · have hne := laterR_ne (R := Up) rok_upQ w2'
        obtain ⟨b0, b1, b2, b3, b4, b5, b6, b7, -⟩ := RowAt.c8 (hw2 hp1)
        have l4 := laterU b4
        have l5 := laterU b5
        clear b0 b1 b2 b3 b4 b5 b6 b7
        simp only [List.drop_succ_cons, List.drop_zero, List.take_succ_cons, List.take_zero]
        repeat (go_big_quiet_step (fail))
        exact wpQuiet_nil rfl
      refine wpAnyTS_done (by kernel_rfl) ?_
      intro w7 hu7
      replace hX := hX.next hu7
      clear hu7 hp1
      go_upto_region 7 with ((with_reducible refine wpList_at 34 ?_); have hF := (hX.madeRow (.string s) [] 9).perm (List.perm_append_singleton _ _); have r7 : RowAt _ w7.heap.size [.string s] := hF.get (R := rowR w7.heap.size (.string s) []) 0 rfl; refine wpList_appendZ rfl _ _ 49 rfl 9 inf (.string ⟨#[]⟩) 1 16 (by kernel_rfl) hi0' hz0 hz1 hz2 rfl (by decide) hF 1 _ (strC (recs.drop written)) (recs.length - written) rfl rfl ⟨w7.heap.size, 0, none⟩ 1 [.string s] rfl rfl r7.addsAt (strC_one [s]) (by unfold maxLen; omega) (by omega) ?_; intro b9 c9 w6 hw; clear hF r7 hX)
      have hE : Hold W w6 (recsR (some ⟨b9, 0, none⟩) c9 (recs.drop written ++ [s]) :: rtrio X g vL vW d gr ⟨which, age, pages, recs, written, sure, ByteArray.empty⟩ ql cl rest) := by
        unfold recsR
        rw [HALL.out, show strC (recs.drop written ++ [s]) = strC (recs.drop written) ++ [.string s] by simp [strC]]
        exact hw.sub (List.sublist_cons_self _ _)
      clear hw
      have CFF := Lib.hid (CF.out _ _ c9 (recs_all hE (k := 0) (e := 9) (q := some ⟨b9, 0, none⟩) (c := c9) (rs := recs.drop written ++ [s]) rfl))
      go_wp2_with (first
        | ((with_reducible refine calls_at 47 ?_); (with_reducible refine CFF.out.mono ?_); rintro e w8 ⟨rfl, hu8⟩; replace hE := hE.next hu8; clear hu8 CFF)
        | ((with_reducible refine calls_at 46 ?_); (with_reducible refine (CN.out _).mono ?_); rintro e w9 ⟨rfl, rfl⟩)
        | ((with_reducible refine calls_at 48 ?_); (with_reducible refine (CRm.out _ _ hE).mono ?_); rintro e w10 ⟨rfl, hu10⟩; replace hE := hE.next hu10; clear hu10))
      refine bodyPost_ret (v := .tuple #[.int .i64 0, .int .i64 6]) (by simp [results, Try.results15, go_sem]) rfl ?_
      exact ⟨rfl, ql, cl, hE.sub (List.sublist_cons_self _ _)⟩
    · have hbig' : ¬ (N0 : Int) > R0 := by omega
      have hE0 := HAE.out
      rw [if_neg hbig] at hE0
      have hL : LogD.append ⟨which, age, pages, recs, written, sure, ByteArray.empty⟩ d s = ⟨which, age, pages, recs ++ [s], written, sure, ByteArray.empty⟩ := by unfold LogD.append; rw [if_pos hE0]
      have hN : LogD.appendN ⟨which, age, pages, recs, written, sure, ByteArray.empty⟩ d s = (recs.length : Int) + 1 := by unfold LogD.appendN; rw [if_pos hE0]; show ((recs.length + 1 : Nat) : Int) = _; omega
      rw [hE0, hN, hL]
      clear hE0 hN hL hbig
      go_enter Try.func15, Try.ntmps15
      go_upto_region 5 with fail
      clear a0 a1 a2 a3 a4 a5 a6 a7 e0 e1 e2 e3 e4 e5 e6 e7
      refine wp_region_two Up (Keeps (RowIs gr (.pointer (some ⟨g, 0, none⟩)) [.int .i64 (which : Int), .int .i64 age, .int .i64 (pages : Int), .slice ql recs.length cl, .int .i64 (written : Int), .int .i64 (sure : Int), .string ByteArray.empty])) (keeps_ok rowIs_up) (by kernel_rfl) (by kernel_rfl) (by kernel_rfl) ?_
      have hp1 : RowIs gr (.pointer (some ⟨g, 0, none⟩)) [.int .i64 (which : Int), .int .i64 age, .int .i64 (pages : Int), .slice ql recs.length cl, .int .i64 (written : Int), .int .i64 (sure : Int), .string ByteArray.empty] w.drew := rowIs_up ((Up.refl w).drew) HRow.out
      have hX := HX0.out.next ((Up.refl w).drew)
      generalize w.drew = w1 at *
      refine wpAnyTS_quiet 1 9 3 56 (by rfl) (by kernel_rfl) (fun _ _ _ _ _ h => h) (by kernel_rfl) (by kernel_rfl) ?_
      apply Exists.intro
      refine ⟨fun w2' hw2 => ?_, ?_⟩
      · have hne := laterR_ne (R := Up) rok_upQ w2'
        obtain ⟨b0, b1, b2, b3, b4, b5, b6, b7, -⟩ := RowAt.c8 (hw2 hp1)
        have l4 := laterU b4
        have l5 := laterU b5
        clear b0 b1 b2 b3 b4 b5 b6 b7
        simp only [List.drop_succ_cons, List.drop_zero, List.take_succ_cons, List.take_zero]
        repeat (go_big_quiet_step (fail))
        exact wpQuiet_nil rfl
      refine wpAnyTS_some 0 [] 2 (by rfl) (by kernel_rfl) (by kernel_rfl) ?_
      intro w2 hu2
      replace hX := hX.next hu2
      replace hp1 := rowIs_up hu2 hp1
      clear hu2
      refine ⟨?_, trivial⟩
      simp only [List.drop_succ_cons, List.drop_zero, List.take_succ_cons, List.take_zero]
      have hY : Hold W (w2.alloc (.cells #[] 9)) (ownZ 9 1 (.slice (some ⟨w2.heap.size, 0, none⟩) 0 0) 0 [] :: rtrio X g vL vW d gr ⟨which, age, pages, recs, written, sure, ByteArray.empty⟩ ql cl rest) := (hX.madeZ 9 1).perm (List.perm_append_singleton _ _)
      have hp2 := rowIs_up ((Up.refl w2).alloc (.cells #[] 9)) hp1
      go_wp2_with fail
      refine ⟨.inr fun h => rowIs_up ((Up.refl _).alloc _) h, ?_⟩
      clear hp1 hX
      have hp1 := hp2
      have hX := hY
      clear hp2 hY
      generalize w2.heap.size = gs at *
      generalize w2.alloc _ = w4 at *
      refine wpAnyTS_some 10 [] 1 (by rfl) (by kernel_rfl) (by kernel_rfl) ?_
      intro w2 hu2
      replace hX := hX.next hu2
      replace hp1 := rowIs_up hu2 hp1
      clear hu2
      refine ⟨?_, trivial⟩
      simp only [List.drop_succ_cons, List.drop_zero, List.take_succ_cons, List.take_zero]
      obtain ⟨hqn, hra⟩ := HQN.out _ (hX.sub (List.sublist_cons_self _ _))
      have HRA := Lib.hid hra.cells
      clear hra
      go_wp2_with ((with_reducible refine wpList_at 30 ?_); refine wpList_appendIn rfl _ _ 49 rfl 9 inf (.string ⟨#[]⟩) 1 16 (by kernel_rfl) hi0' hz0 hz1 hz2 rfl (by decide) hX 0 0 _ [] rfl rfl (recQ ql cl written) (recs.length - written) (cl - written) (strC (recs.drop written)) rfl HLEN.out hqn HRA.out (strC_one (recs.drop written)) (by unfold maxLen; omega) (by omega) ?_; intro q9 c9 w9 _ _ hw)
      rw [Nat.zero_add] at hw
      replace hw : Hold W w9 (ownZ 9 1 (.slice q9 (recs.length - written) c9) (recs.length - written) (strC (recs.drop written)) :: rtrio X g vL vW d gr ⟨which, age, pages, recs, written, sure, ByteArray.empty⟩ ql cl rest) := hw
      have hp2 : RowIs gr (.pointer (some ⟨g, 0, none⟩)) [.int .i64 (which : Int), .int .i64 age, .int .i64 (pages : Int), .slice ql recs.length cl, .int .i64 (written : Int), .int .i64 (sure : Int), .string ByteArray.empty] w9 := hw.get 5 rfl
      refine ⟨.inr fun _ => hp2, ?_⟩
      clear hp1 hX HRA hqn
      have hp1 := hp2
      have hX := hw
      clear hp2 hw
      refine wpAnyTS_quiet 11 1 0 56 (by rfl) (by kernel_rfl) (fun _ _ _ _ _ h => h) (by kernel_rfl) (by kernel_rfl) ?_
      apply Exists.intro
      refine ⟨fun w2' hw2 => ?_, ?_⟩
      · have hne := laterR_ne (R := Up) rok_upQ w2'
        obtain ⟨b0, b1, b2, b3, b4, b5, b6, b7, -⟩ := RowAt.c8 (hw2 hp1)
        have l4 := laterU b4
        have l5 := laterU b5
        clear b0 b1 b2 b3 b4 b5 b6 b7
        simp only [List.drop_succ_cons, List.drop_zero, List.take_succ_cons, List.take_zero]
        repeat (go_big_quiet_step (fail))
        exact wpQuiet_nil rfl
      refine wpAnyTS_done (by kernel_rfl) ?_
      intro w7 hu7
      replace hX := hX.next hu7
      clear hu7 hp1
      go_upto_region 7 with ((with_reducible refine wpList_at 34 ?_); have hF := (hX.madeRow (.string s) [] 9).perm (List.perm_append_singleton _ _); have r7 : RowAt _ w7.heap.size [.string s] := hF.get (R := rowR w7.heap.size (.string s) []) 0 rfl; refine wpList_appendZ rfl _ _ 49 rfl 9 inf (.string ⟨#[]⟩) 1 16 (by kernel_rfl) hi0' hz0 hz1 hz2 rfl (by decide) hF 1 _ (strC (recs.drop written)) (recs.length - written) rfl rfl ⟨w7.heap.size, 0, none⟩ 1 [.string s] rfl rfl r7.addsAt (strC_one [s]) (by unfold maxLen; omega) (by omega) ?_; intro b9 c9 w6 hw; clear hF r7 hX)
      have hE : Hold W w6 (recsR (some ⟨b9, 0, none⟩) c9 (recs.drop written ++ [s]) :: rtrio X g vL vW d gr ⟨which, age, pages, recs, written, sure, ByteArray.empty⟩ ql cl rest) := by
        unfold recsR
        rw [HALL.out, show strC (recs.drop written ++ [s]) = strC (recs.drop written) ++ [.string s] by simp [strC]]
        exact hw.sub (List.sublist_cons_self _ _)
      clear hw
      have CFF := Lib.hid (CF.out _ _ c9 (recs_all hE (k := 0) (e := 9) (q := some ⟨b9, 0, none⟩) (c := c9) (rs := recs.drop written ++ [s]) rfl))
      go_upto_region 9 with (first
        | ((with_reducible refine calls_at 47 ?_); (with_reducible refine CFF.out.mono ?_); rintro e w8 ⟨rfl, hu8⟩; replace hE := hE.next hu8; clear hu8 CFF)
        | ((with_reducible refine calls_at 46 ?_); (with_reducible refine (CN.out _).mono ?_); rintro e w9 ⟨rfl, rfl⟩)
        | ((with_reducible refine calls_at 48 ?_); (with_reducible refine (CRm.out _ _ hE).mono ?_); rintro e w10 ⟨rfl, hu10⟩; replace hE := hE.next hu10; clear hu10))
      replace hE := hE.sub (List.sublist_cons_self _ _)
      obtain ⟨a0, a1, a2, a3, a4, a5, a6, a7, e0, e1, e2, e3, e4, e5, e6, e7⟩ := RowAt.c8 (hE.get 4 rfl)
      go_upto_region 10 with ((with_reducible refine wpList_at 48 ?_); have hF := (hE.madeRow (.string s) [] 9).perm (List.perm_append_singleton _ _); have r7 : RowAt _ w10.heap.size [.string s] := hF.get (R := rowR w10.heap.size (.string s) []) 0 rfl; refine wpList_appendZ rfl _ _ 49 rfl 9 inf (.string ⟨#[]⟩) 1 16 (by kernel_rfl) hi0' hz0 hz1 hz2 rfl (by decide) hF 6 _ (strC recs) recs.length rfl rfl ⟨w10.heap.size, 0, none⟩ 1 [.string s] rfl rfl r7.addsAt (strC_one [s]) (by unfold maxLen; omega) (by omega) ?_; intro b8 c8 w12 hG; clear hF r7 hE a0 a1 a2 a3 a4 a5 a6 a7 e0 e1 e2 e3 e4 e5 e6 e7; replace hG := hG.sub (List.sublist_cons_self _ _); obtain ⟨a0, a1, a2, a3, a4, a5, a6, a7, e0, e1, e2, e3, e4, e5, e6, e7⟩ := RowAt.c8 (hG.get 4 rfl))
      replace hG := hG.putRow 4 (g := gr) rfl 4 (.slice (some ⟨b8, 0, none⟩) (recs.length + 1) c8) (.pointer (some ⟨g, 0, none⟩)) [.int .i64 (which : Int), .int .i64 age, .int .i64 (pages : Int), .slice (some ⟨b8, 0, none⟩) (recs.length + 1) c8, .int .i64 (written : Int), .int .i64 (sure : Int), .string ByteArray.empty] (by simp) rfl
      clear a0 a1 a2 a3 a4 a5 a6 a7 e0 e1 e2 e3 e4 e5 e6 e7
      generalize World.setCell _ _ _ = w13 at *
      obtain ⟨a0, a1, a2, a3, a4, a5, a6, a7, e0, e1, e2, e3, e4, e5, e6, e7⟩ := RowAt.c8 (hG.get 4 rfl)
      go_wp2_with fail
      refine bodyPost_ret (v := .tuple #[.int .i64 ((recs.length : Int) + 1), .int .i64 0]) (by simp [results, Try.results15, go_sem]) rfl ?_
      refine ⟨rfl, some ⟨b8, 0, none⟩, c8, ?_⟩
      have hl1 : (recs ++ [s]).length = recs.length + 1 := by simp
      show Hold W _ (X :: rowR g vL [vW] :: rL vL d :: rW vW d.W :: rowR gr _ [.int .i64 (which : Int), .int .i64 age, .int .i64 (pages : Int), .slice (some ⟨b8, 0, none⟩) (recs ++ [s]).length c8, .int .i64 (written : Int), .int .i64 (sure : Int), .string ByteArray.empty] :: ownZ _ 1 (.slice (some ⟨b8, 0, none⟩) (recs ++ [s]).length c8) (recs ++ [s]).length (strC (recs ++ [s])) :: rest)
      rw [hl1, show strC (recs ++ [s]) = strC recs ++ [.string s] by simp [strC]]
      exact hG
  · obtain ⟨E0, hE0⟩ : ∃ E0, L.why s = E0 := ⟨_, rfl⟩
    rw [hE0] at hw0
    have hE : L.appendE d s = E0 := by unfold LogD.appendE; rw [if_pos (by rw [hE0]; exact hw0), hE0]
    have hL : L.append d s = L := by unfold LogD.append; rw [if_neg (by rw [hE]; exact hw0)]
    have hN : L.appendN d s = 0 := by unfold LogD.appendN; rw [if_neg (by rw [hE]; exact hw0)]
    rw [hE, hN, hL]
    obtain ⟨a0, a1, a2, a3, a4, a5, a6, a7, e0, e1, e2, e3, e4, e5, e6, e7⟩ := RowAt.c8 (h.get 4 rfl)
    have HF := Lib.hid h
    clear h hE hL hN hsm
    unfold LogD.why at hE0
    by_cases h1 : s.size = 0 ∨ 100000 < s.size
    · rw [if_pos h1] at hE0
      subst hE0
      clear hw0
      rcases Nat.lt_or_ge s.size 1 with h2 | h2
      · have j1 : (s.size : Int) < 1 := by omega
        clear h1 h2
        go_enter Try.func15, Try.ntmps15
        go_wp2_with fail
        refine bodyPost_ret (v := .tuple #[.int .i64 0, .int .i64 1]) (by simp [results, Try.results15, go_sem]) rfl ?_
        exact ⟨rfl, ql, cl, HF.out⟩
      · have j1 : ¬ (s.size : Int) < 1 := by omega
        have j2 : (s.size : Int) > 100000 := by omega
        clear h1 h2
        go_enter Try.func15, Try.ntmps15
        go_wp2_with fail
        refine bodyPost_ret (v := .tuple #[.int .i64 0, .int .i64 1]) (by simp [results, Try.results15, go_sem]) rfl ?_
        exact ⟨rfl, ql, cl, HF.out⟩
    · rw [if_neg h1] at hE0
      have j1 : ¬ (s.size : Int) < 1 := by omega
      have j2 : ¬ (s.size : Int) > 100000 := by omega
      have ht : ¬ L.turned.size = 0 := fun e => hw0 (by rw [← hE0, if_neg (by omega)])
      rw [if_pos ht] at hE0
      subst hE0
      have hte : L.turned.toList.isEmpty = false := str_nonempty ht
      have hte2 : ¬ L.turned.toList = [] := by intro h; rw [h] at hte; cases hte
      generalize L.turned = T at *
      clear h1 hw0 ht
      go_enter Try.func15, Try.ntmps15
      go_wp2_with fail
      refine bodyPost_ret (v := .tuple #[.int .i64 0, .int .i64 9]) (by simp [results, Try.results15, go_sem]) rfl ?_
      exact ⟨rfl, ql, cl, HF.out⟩
end Go.Proofs.Ytokpkkjgagbpfaa
namespace Go.Proofs.Ytokpkkjgagbpfaa
open Go.RowKit Bw
set_option linter.unusedVariables false
set_option maxRecDepth 100000
variable {W w : World} {X : Res} {rest : List Res} {g gr cl : Nat} {vL vW : Value} {d : DiskD} {L : LogD} {ql : Option Addr}
set_option maxHeartbeats 2000000 in
theorem ref6_Write (h : Hold W w (rtrio X g vL vW d gr L ql cl rest)) (hok : d.Ok) (hA : 0 ≤ L.age ∧ L.age < 281474976710656) (hw : L.which ≤ 1) (hwr : L.written ≤ L.recs.length) (hs : ∀ x ∈ L.recs.drop L.written, x.size ≤ 100000) (hn : L.recs.length ≤ 100000) (hfit : L.pages + needW (frameW (L.recs.drop L.written)).size ≤ 1000) (hl : d.W.length + needW (frameW (L.recs.drop L.written)).size ≤ 1000) :
    Calls Try.prog 17 #[.pointer (some ⟨gr, 0, none⟩)] w fun e w' => e = .returned (.int .i64 L.writeE) ∧ ∃ vW', Hold W w' (rtrio X g vL vW' (L.writeD d) gr L.write ql cl rest) := by
  obtain ⟨which, age, pages, recs, written, sure, turned⟩ := L
  obtain ⟨a0, a1, a2, a3, a4, a5, a6, a7, e0, e1, e2, e3, e4, e5, e6, e7⟩ := RowAt.c8 (h.get 4 rfl)
  simp only at hA hw hwr hs hn hfit hl
  by_cases ht : turned.size = 0
  · have hb := ba_empty ht
    subst hb
    have hE : LogD.writeE ⟨which, age, pages, recs, written, sure, ByteArray.empty⟩ = 0 := by unfold LogD.writeE; rw [if_neg (by simp)]
    have hL : LogD.write ⟨which, age, pages, recs, written, sure, ByteArray.empty⟩ = ⟨which, age, pages + needW (frameW (recs.drop written)).size, recs, recs.length, sure, ByteArray.empty⟩ := by
      unfold LogD.write; rw [if_pos hE]; unfold frameW; rw [size_str]
    have hD : LogD.writeD ⟨which, age, pages, recs, written, sure, ByteArray.empty⟩ d = layD d age which pages (frameW (recs.drop written)) := by unfold LogD.writeD; rw [if_pos hE]
    rw [hE, hL, hD]
    clear hE hL hD
    have hra := recs_at (rs := recs) h (k := 5) rfl written
    have hdl : (recs.drop written).length = recs.length - written := List.length_drop
    have CF := Lib.hid (fun (u : Later w) => hdl ▸ ref6_Bytes (c := cl - written) (recs.drop written) (hra.up u.up) hs (by omega))
    have hsl := fun w => slice_recs ql recs.length cl written hwr w
    have hneed : (frameW (recs.drop written)).size ≤ 1000 * 234 := by unfold needW at hfit; omega
    have HL := Lib.hid (fun (w' : World) (hh : Hold W w' (rtrio X g vL vW d gr ⟨which, age, pages, recs, written, sure, ByteArray.empty⟩ ql cl rest)) => ref6_lay hh hok hA which pages hw (by omega) (frameW (recs.drop written)) (by omega) (by omega) hl)
    have CN := Lib.hid (fun w => ref6_Need (frameW (recs.drop written)) (by omega) w)
    generalize frameW (recs.drop written) = FW at *
    obtain ⟨N, hN⟩ : ∃ N, needW FW.size = N := ⟨_, rfl⟩
    rw [hN] at hfit CN ⊢
    have HX := Lib.hid h
    clear hra hdl hs hN hneed ht hl h
    generalize hnn : recs.length = n at a4 hwr hn hsl CF ⊢
    have HN := Lib.hid hnn
    clear hnn
    go_enter Try.func17, Try.ntmps17
    go_upto_region 3 with fail
    refine wp_region_later (by kernel_rfl) (by kernel_rfl) ?_
    have l4 := Later.cell_of a4
    have l5 := Later.cell_of a5
    have hne := later_ne w
    clear a0 a1 a2 a3 a4 a5 a6 a7 e0 e1 e2 e3 e4 e5 e6 e7
    repeat (go_big_quiet_step ((go_at_call 47; with_reducible exact Calls.later (CF.out _))))
    refine wpQuiet_nil ?_
    rintro w3 ⟨u3, rfl⟩
    have hX := HX.out.next u3.up
    clear l4 l5 hne CF
    generalize u3.world = w3 at *
    obtain ⟨a0, a1, a2, a3, a4, a5, a6, a7, e0, e1, e2, e3, e4, e5, e6, e7⟩ := RowAt.c8 (hX.get 4 rfl)
    go_upto_region 4 with fail
    refine wp_region_later_tail 10 (by kernel_rfl) (by kernel_rfl) ?_
    have l1 := Later.cell_of a1
    have l3 := Later.cell_of a3
    have hne := later_ne w3
    clear a0 a1 a2 a3 a4 a5 a6 a7 e0 e1 e2 e3 e4 e5 e6 e7
    simp only [List.take_succ_cons, List.take_zero]
    repeat (go_big_quiet_step (fail))
    refine wpQuiet_nil ?_
    rintro w4 ⟨u4, rfl⟩
    replace hX := hX.next u4.up
    clear l1 l3 hne
    generalize u4.world = w4 at *
    have HL4 := Lib.hid (HL.out _ hX)
    simp only [List.drop_succ_cons, List.drop_zero]
    go_upto_region 5 with ((with_reducible refine HL4.out.mono ?_); rintro e w5 ⟨rfl, vW5, hE⟩)
    clear HL4 hX HL
    obtain ⟨a0, a1, a2, a3, a4, a5, a6, a7, e0, e1, e2, e3, e4, e5, e6, e7⟩ := RowAt.c8 (hE.get 4 rfl)
    refine wp_region_later_tail 10 (by kernel_rfl) (by kernel_rfl) ?_
    have l3 := Later.cell_of a3
    have hne := later_ne w5
    clear a0 a1 a2 a3 a4 a5 a6 a7 e0 e1 e2 e3 e4 e5 e6 e7
    simp only [List.take_succ_cons, List.take_zero]
    repeat (go_big_quiet_step ((go_at_call 46; with_reducible exact Calls.later_same (CN.out _))))
    refine wpQuiet_nil ?_
    rintro w6 ⟨u6, rfl⟩
    replace hE := hE.next u6.up
    clear l3 hne
    generalize u6.world = w6 at *
    replace hE : Hold W w6 (X :: rowR g vL [vW5] :: rL vL (layD d age which pages FW) :: rW vW5 (layD d age which pages FW).W :: rowR gr (.pointer (some ⟨g, 0, none⟩)) [.int .i64 (which : Int), .int .i64 age, .int .i64 (pages : Int), .slice ql n cl, .int .i64 (written : Int), .int .i64 (sure : Int), .string ByteArray.empty] :: ownZ 9 1 (.slice ql n cl) n (strC recs) :: rest) := by rw [← HN.out]; exact hE
    obtain ⟨a0, a1, a2, a3, a4, a5, a6, a7, e0, e1, e2, e3, e4, e5, e6, e7⟩ := RowAt.c8 (hE.get 4 rfl)
    simp only [List.drop_succ_cons, List.drop_zero]
    go_upto_region 6 with fail
    replace hE := hE.putRow 4 (g := gr) rfl 3 (.int .i64 ((pages : Int) + (N : Int))) (.pointer (some ⟨g, 0, none⟩)) [.int .i64 (which : Int), .int .i64 age, .int .i64 ((pages : Int) + (N : Int)), .slice ql n cl, .int .i64 (written : Int), .int .i64 (sure : Int), .string ByteArray.empty] (by simp) rfl
    clear a0 a1 a2 a3 a4 a5 a6 a7 e0 e1 e2 e3 e4 e5 e6 e7
    generalize World.setCell _ _ _ = w7 at *
    obtain ⟨a0, a1, a2, a3, a4, a5, a6, a7, e0, e1, e2, e3, e4, e5, e6, e7⟩ := RowAt.c8 (hE.get 4 rfl)
    go_upto_region 7 with fail
    replace hE := hE.putRow 4 (g := gr) rfl 5 (.int .i64 (n : Int)) (.pointer (some ⟨g, 0, none⟩)) [.int .i64 (which : Int), .int .i64 age, .int .i64 ((pages : Int) + (N : Int)), .slice ql n cl, .int .i64 (n : Int), .int .i64 (sure : Int), .string ByteArray.empty] (by simp) rfl
    clear a0 a1 a2 a3 a4 a5 a6 a7 e0 e1 e2 e3 e4 e5 e6 e7
    generalize World.setCell _ _ _ = w8 at *
    go_wp2_with fail
    go_ret
    refine ⟨rfl, vW5, ?_⟩
    have hz : ((pages + N : Nat) : Int) = (pages : Int) + (N : Int) := by omega
    show Hold W _ (X :: rowR g vL [vW5] :: rL vL _ :: rW vW5 _ :: rowR gr _ [.int .i64 (which : Int), .int .i64 age, .int .i64 ((pages + N : Nat) : Int), .slice ql recs.length cl, .int .i64 (n : Int), .int .i64 (sure : Int), .string ByteArray.empty] :: ownZ _ 1 (.slice ql recs.length cl) recs.length _ :: rest)
    rw [hz, HN.out]
    exact hE
  · have hte : turned.toList.isEmpty = false := str_nonempty ht
    have hte2 : ¬ turned.toList = [] := by intro h; rw [h] at hte; cases hte
    have hE : LogD.writeE ⟨which, age, pages, recs, written, sure, turned⟩ = 9 := by unfold LogD.writeE; rw [if_pos ht]
    have hL : LogD.write ⟨which, age, pages, recs, written, sure, turned⟩ = ⟨which, age, pages, recs, written, sure, turned⟩ := by unfold LogD.write; rw [if_neg (by rw [hE]; decide)]
    have hD : LogD.writeD ⟨which, age, pages, recs, written, sure, turned⟩ d = d := by unfold LogD.writeD; rw [if_neg (by rw [hE]; decide)]
    have HF := Lib.hid h
    rw [hE, hL, hD]
    clear h hL hD hE hs hl hfit
    go_enter Try.func17, Try.ntmps17
    go_wp2_with fail
    go_ret
    exact ⟨rfl, vW, HF.out⟩
end Go.Proofs.Ytokpkkjgagbpfaa
namespace Go.Proofs.Ytokpkkjgagbpfaa
open Go.RowKit Bw
set_option linter.unusedVariables false
set_option maxRecDepth 100000
variable {W w : World} {X : Res} {rest : List Res} {g gr cl : Nat} {vL vW : Value} {d : DiskD} {L : LogD} {ql : Option Addr}
set_option maxHeartbeats 2000000 in
theorem ref6_Sync (h : Hold W w (rtrio X g vL vW d gr L ql cl rest)) (hok : d.Ok) (hl : d.W.length ≤ 1000) (hw : L.which ≤ 1) (ht : L.turned.size ≤ 100000) :
    Calls Try.prog 19 #[.pointer (some ⟨gr, 0, none⟩)] w fun e w' => e = .returned (.tuple #[]) ∧ ∃ vW' ql' cl', Hold W w' (rtrio X g vL vW' d.syncD gr L.sync ql' cl' rest) := by
  obtain ⟨which, age, pages, recs, written, sure, turned⟩ := L
  obtain ⟨a0, a1, a2, a3, a4, a5, a6, a7, e0, e1, e2, e3, e4, e5, e6, e7⟩ := RowAt.c8 (h.get 4 rfl)
  have CS := Lib.hid (ref4_Sync h hok hl)
  simp only at hw ht
  by_cases htz : turned.size = 0
  · have hb := ba_empty htz
    subst hb
    have hL : LogD.sync ⟨which, age, pages, recs, written, sure, ByteArray.empty⟩ = ⟨which, age, pages, recs, written, written, ByteArray.empty⟩ := by unfold LogD.sync; rw [if_neg (by simp)]
    rw [hL]
    clear hL h htz
    go_enter Try.func19, Try.ntmps19
    go_upto_region 1 with ((with_reducible refine CS.out.mono ?_); rintro e w1 ⟨rfl, vW1, hE⟩)
    clear a0 a1 a2 a3 a4 a5 a6 a7 e0 e1 e2 e3 e4 e5 e6 e7
    obtain ⟨a0, a1, a2, a3, a4, a5, a6, a7, e0, e1, e2, e3, e4, e5, e6, e7⟩ := RowAt.c8 (hE.get 4 rfl)
    go_wp2_with fail
    go_end0
    exact ⟨rfl, vW1, ql, cl, hE.putRow 4 (g := gr) rfl 6 (.int .i64 (written : Int)) (.pointer (some ⟨g, 0, none⟩)) [.int .i64 (which : Int), .int .i64 age, .int .i64 (pages : Int), .slice ql recs.length cl, .int .i64 (written : Int), .int .i64 (written : Int), .string ByteArray.empty] (by simp) rfl⟩
  · have hte : turned.toList.isEmpty = false := str_nonempty htz
    have hte2 : ¬ turned.toList = [] := by intro h; rw [h] at hte; cases hte
    have hS : LogD.sync ⟨which, age, pages, recs, written, sure, turned⟩ = ⟨1 - which, age, needW (frameW [turned]).size, [turned], 1, 1, ByteArray.empty⟩ := by unfold LogD.sync frameW; rw [if_pos htz, size_str]
    have hfz : (frameW [turned]).size ≤ 100003 := by
      have := frameW_size [turned] (fun x hx => by obtain rfl := List.mem_singleton.1 hx; exact ht)
      simpa using this
    obtain ⟨N, hN⟩ : ∃ N, needW (frameW [turned]).size = N := ⟨_, rfl⟩
    have CN := Lib.hid (fun w => hN ▸ ref6_Need (frameW [turned]) (by omega) w)
    have CB := Lib.hid (fun (w : World) (b : Nat) (hr : RecsAt w (some ⟨b, 0, none⟩) [turned]) => show Calls Try.prog 47 #[.slice (some ⟨b, 0, none⟩) 1 1] w _ from ref6_Bytes (c := 1) [turned] hr (fun x hx => by obtain rfl := List.mem_singleton.1 hx; exact ht) (show 1 ≤ 100000 by decide))
    rw [hS, hN]
    generalize frameW [turned] = FW at *
    have hw2 : ((1 - which : Nat) : Int) = 1 - (which : Int) := by omega
    clear hS hN hfz h htz
    go_enter Try.func19, Try.ntmps19
    go_upto_region 1 with ((with_reducible refine CS.out.mono ?_); rintro e w1 ⟨rfl, vW1, hE⟩)
    clear a0 a1 a2 a3 a4 a5 a6 a7 e0 e1 e2 e3 e4 e5 e6 e7
    obtain ⟨a0, a1, a2, a3, a4, a5, a6, a7, e0, e1, e2, e3, e4, e5, e6, e7⟩ := RowAt.c8 (hE.get 4 rfl)
    go_upto_region 3 with fail
    replace hE := hE.putRow 4 (g := gr) rfl 1 (.int .i64 (1 - (which : Int))) (.pointer (some ⟨g, 0, none⟩)) [.int .i64 (1 - (which : Int)), .int .i64 age, .int .i64 (pages : Int), .slice ql recs.length cl, .int .i64 (written : Int), .int .i64 (sure : Int), .string turned] (by simp) rfl
    clear a0 a1 a2 a3 a4 a5 a6 a7 e0 e1 e2 e3 e4 e5 e6 e7
    generalize World.setCell _ _ _ = w2 at *
    obtain ⟨a0, a1, a2, a3, a4, a5, a6, a7, e0, e1, e2, e3, e4, e5, e6, e7⟩ := RowAt.c8 (hE.get 4 rfl)
    have hgl := RowAt.lt (hE.get 4 rfl)
    go_upto_region 4 with fail
    replace hE := (hE.builtAt 5 rfl 9 turned).putRow 4 (g := gr) rfl 4 (.slice (some ⟨w2.heap.size, 0, none⟩) 1 1) (.pointer (some ⟨g, 0, none⟩)) [.int .i64 (1 - (which : Int)), .int .i64 age, .int .i64 (pages : Int), .slice (some ⟨w2.heap.size, 0, none⟩) 1 1, .int .i64 (written : Int), .int .i64 (sure : Int), .string turned] (by simp) rfl
    clear a0 a1 a2 a3 a4 a5 a6 a7 e0 e1 e2 e3 e4 e5 e6 e7
    rw [World.setCell_alloc_past _ _ _ _ hgl] at hE
    clear hgl
    generalize w2.heap.size = gs at *
    generalize World.alloc _ _ = w3 at *
    replace hE : Hold W w3 (X :: rowR g vL [vW1] :: rL vL d.syncD :: rW vW1 d.syncD.W :: rowR gr (.pointer (some ⟨g, 0, none⟩)) [.int .i64 (1 - (which : Int)), .int .i64 age, .int .i64 (pages : Int), .slice (some ⟨gs, 0, none⟩) 1 1, .int .i64 (written : Int), .int .i64 (sure : Int), .string turned] :: recsR (some ⟨gs, 0, none⟩) 1 [turned] :: rest) := hE
    have CBB := Lib.hid (CB.out _ gs (recs_all hE (k := 5) (e := 9) (q := some ⟨gs, 0, none⟩) (c := 1) (rs := [turned]) rfl))
    obtain ⟨a0, a1, a2, a3, a4, a5, a6, a7, e0, e1, e2, e3, e4, e5, e6, e7⟩ := RowAt.c8 (hE.get 4 rfl)
    go_upto_region 5 with (first
      | ((with_reducible refine calls_at 47 ?_); (with_reducible refine CBB.out.mono ?_); rintro e w4 ⟨rfl, hu4⟩; replace hE := hE.next hu4; clear hu4; clear a0 a1 a2 a3 a4 a5 a6 a7 e0 e1 e2 e3 e4 e5 e6 e7; obtain ⟨a0, a1, a2, a3, a4, a5, a6, a7, e0, e1, e2, e3, e4, e5, e6, e7⟩ := RowAt.c8 (hE.get 4 rfl))
      | ((with_reducible refine calls_at 46 ?_); (with_reducible refine (CN.out _).mono ?_); rintro e w5 ⟨rfl, rfl⟩))
    clear CBB
    replace hE := hE.putRow 4 (g := gr) rfl 3 (.int .i64 (N : Int)) (.pointer (some ⟨g, 0, none⟩)) [.int .i64 (1 - (which : Int)), .int .i64 age, .int .i64 (N : Int), .slice (some ⟨gs, 0, none⟩) 1 1, .int .i64 (written : Int), .int .i64 (sure : Int), .string turned] (by simp) rfl
    clear a0 a1 a2 a3 a4 a5 a6 a7 e0 e1 e2 e3 e4 e5 e6 e7
    generalize World.setCell _ _ _ = w6 at *
    obtain ⟨a0, a1, a2, a3, a4, a5, a6, a7, e0, e1, e2, e3, e4, e5, e6, e7⟩ := RowAt.c8 (hE.get 4 rfl)
    go_upto_region 6 with fail
    replace hE := hE.putRow 4 (g := gr) rfl 5 (.int .i64 1) (.pointer (some ⟨g, 0, none⟩)) [.int .i64 (1 - (which : Int)), .int .i64 age, .int .i64 (N : Int), .slice (some ⟨gs, 0, none⟩) 1 1, .int .i64 1, .int .i64 (sure : Int), .string turned] (by simp) rfl
    clear a0 a1 a2 a3 a4 a5 a6 a7 e0 e1 e2 e3 e4 e5 e6 e7
    generalize World.setCell _ _ _ = w7 at *
    obtain ⟨a0, a1, a2, a3, a4, a5, a6, a7, e0, e1, e2, e3, e4, e5, e6, e7⟩ := RowAt.c8 (hE.get 4 rfl)
    go_upto_region 7 with fail
    replace hE := hE.putRow 4 (g := gr) rfl 7 (.string ⟨#[]⟩) (.pointer (some ⟨g, 0, none⟩)) [.int .i64 (1 - (which : Int)), .int .i64 age, .int .i64 (N : Int), .slice (some ⟨gs, 0, none⟩) 1 1, .int .i64 1, .int .i64 (sure : Int), .string ⟨#[]⟩] (by simp) rfl
    clear a0 a1 a2 a3 a4 a5 a6 a7 e0 e1 e2 e3 e4 e5 e6 e7
    generalize World.setCell _ _ _ = w8 at *
    obtain ⟨a0, a1, a2, a3, a4, a5, a6, a7, e0, e1, e2, e3, e4, e5, e6, e7⟩ := RowAt.c8 (hE.get 4 rfl)
    go_wp2_with fail
    go_end0
    refine ⟨rfl, vW1, some ⟨gs, 0, none⟩, 1, ?_⟩
    have hF := hE.putRow 4 (g := gr) rfl 6 (.int .i64 1) (.pointer (some ⟨g, 0, none⟩)) [.int .i64 (1 - (which : Int)), .int .i64 age, .int .i64 (N : Int), .slice (some ⟨gs, 0, none⟩) 1 1, .int .i64 1, .int .i64 1, .string ⟨#[]⟩] (by simp) rfl
    show Hold W _ (X :: rowR g vL [vW1] :: rL vL _ :: rW vW1 _ :: rowR gr _ [.int .i64 ((1 - which : Nat) : Int), .int .i64 age, .int .i64 (N : Int), .slice (some ⟨gs, 0, none⟩) 1 1, .int .i64 1, .int .i64 1, .string ByteArray.empty] :: recsR (some ⟨gs, 0, none⟩) 1 [turned] :: rest)
    rw [hw2]
    exact hF
end Go.Proofs.Ytokpkkjgagbpfaa
namespace Go.Proofs.Ytokpkkjgagbpfaa
open Go.RowKit Bw
set_option linter.unusedVariables false
set_option maxRecDepth 100000
variable {W w : World} {X : Res} {rest : List Res} {g gr cl : Nat} {vL vW : Value} {d : DiskD} {L : LogD} {ql : Option Addr}
set_option maxHeartbeats 4000000 in
theorem ref6_Turn (h : Hold W w (rtrio X g vL vW d gr L ql cl rest)) (hok : d.Ok) (hA : 0 ≤ L.age ∧ L.age + 1 < 281474976710656) (hw : L.which ≤ 1) (hn : L.recs.length ≤ 100000) (s : ByteArray) (hs : s.size ≤ 1099511627776) (hl : L.turnE d s = 0 → d.W.length + needW (frameW [s]).size ≤ 1000) :
    Calls Try.prog 21 #[.pointer (some ⟨gr, 0, none⟩), .string s] w fun e w' => e = .returned (.int .i64 (L.turnE d s)) ∧ ∃ vW', Hold W w' (rtrio X g vL vW' (L.turnD d s) gr (L.turn d s) ql cl rest) := by
  by_cases hE0 : L.turnE d s = 0
  · obtain ⟨t1, t2, t3⟩ := turn_zero hE0
    obtain ⟨z1, z2, z3⟩ := why_parts t1
    obtain ⟨which, age, pages, recs, written, sure, turned⟩ := L
    have hb := ba_empty z3
    subst hb
    simp only at hA hw hn t2
    have j1 : ¬ (s.size : Int) < 1 := by omega
    have j2 : ¬ (s.size : Int) > 100000 := by omega
    have j3 : ¬ (sure : Int) < (recs.length : Int) := by omega
    obtain ⟨a0, a1, a2, a3, a4, a5, a6, a7, e0, e1, e2, e3, e4, e5, e6, e7⟩ := RowAt.c8 (h.get 4 rfl)
    have HX := Lib.hid h
    have hLL : LogD.turn ⟨which, age, pages, recs, written, sure, ByteArray.empty⟩ d s = ⟨which, age + 1, pages, recs, written, sure, s⟩ := by unfold LogD.turn; rw [if_pos hE0]
    have hDD : LogD.turnD ⟨which, age, pages, recs, written, sure, ByteArray.empty⟩ d s = layD d (age + 1) (1 - which) 0 (frameW [s]) := by unfold LogD.turnD; rw [if_pos hE0]
    rw [hLL, hDD, hE0]
    have hfz : (frameW [s]).size ≤ 100003 := by
      have := frameW_size [s] (fun x hx => by obtain rfl := List.mem_singleton.1 hx; omega)
      simpa using this
    obtain ⟨N, hN⟩ : ∃ N, needW (frameW [s]).size = N := ⟨_, rfl⟩
    have hN2 : needW (frameL [s]).length = N := by rw [← hN]; unfold frameW; rw [size_str]
    have CN := Lib.hid (fun w => hN ▸ ref6_Need (frameW [s]) (by omega) w)
    have CB := Lib.hid (fun (w : World) => show Calls Try.prog 47 #[.slice (some ⟨w.heap.size, 0, none⟩) 1 1] (w.alloc (.cells #[.string s] 9)) _ from ref6_Bytes (c := 1) [s] (recs_one (RowAt.made w 9 [.string s])) (fun x hx => by obtain rfl := List.mem_singleton.1 hx; omega) (show 1 ≤ 100000 by decide))
    obtain ⟨D, hDn⟩ : ∃ D : Nat, d.n = D := ⟨_, rfl⟩
    obtain ⟨H, hH⟩ : ∃ H : Nat, d.halfN = H := ⟨_, rfl⟩
    have hn2 := hok.n2
    have hQ2 : (D : Int) / 2 = (H : Int) := by unfold DiskD.halfN at hH; omega
    have hH512 : H ≤ 512 := by unfold DiskD.halfN at hH; omega
    have hvl : ∃ b cap, vL = .slice (some ⟨b, 0, none⟩) D cap := by
      obtain ⟨b, cap, hv, -⟩ := refs_n h hok
      exact ⟨b, cap, by rw [hv, hDn]⟩
    obtain ⟨b, cap, hvL⟩ := hvl
    have HVL := Lib.hid hvL
    rw [hN, hH] at t3
    replace hl := hl hE0
    rw [hN] at hl
    have j4 : ¬ (N : Int) > (H : Int) := by omega
    have hw2 : ((1 - which : Nat) : Int) = 1 - (which : Int) := by omega
    have HLY := Lib.hid (fun (w' : World) (hh : Hold W w' (rtrio X g vL vW d gr ⟨which, age + 1, pages, recs, written, sure, ByteArray.empty⟩ ql cl rest)) => show Calls Try.prog 50 #[.pointer (some ⟨gr, 0, none⟩), .string (frameW [s]), .int .i64 (1 - (which : Int)), .int .i64 0] w' (fun e w' => e = .returned (.tuple #[]) ∧ ∃ vW', Hold W w' (rtrio X g vL vW' (layD d (age + 1) (1 - which) 0 (frameW [s])) gr ⟨which, age + 1, pages, recs, written, sure, ByteArray.empty⟩ ql cl rest)) from hw2 ▸ ref6_lay hh hok ⟨by show 0 ≤ age + 1; omega, hA.2⟩ (1 - which) 0 (by omega) (by omega) (frameW [s]) (by omega) (by omega) (hN.symm ▸ hl))
    clear hE0 h z1 z2 z3 t1 t2 t3 hN hN2 hfz hDn hH hvL hn2 hl hLL hDD
    generalize frameW [s] = FW at *
    go_enter Try.func21, Try.ntmps21
    go_upto_region 3 with fail
    refine wp_region_later (by kernel_rfl) (by kernel_rfl) ?_
    have l4 := Later.cell_of a4
    have l6 := Later.cell_of a6
    have l7 := Later.cell_of a7
    have hne := later_ne w
    clear a0 a1 a2 a3 a4 a5 a6 a7 e0 e1 e2 e3 e4 e5 e6 e7
    repeat (go_big_quiet_step (fail))
    refine wpQuiet_nil ?_
    rintro w3 ⟨u3, rfl⟩
    have hX := HX.out.next u3.up
    clear l4 l6 l7 hne
    generalize u3.world = w3 at *
    have hY : Hold W (w3.alloc (.cells #[.string s] 9)) _ := (hX.next ((Below.refl _ _).alloc (Nat.le_refl _) (.cells #[.string s] 9)))
    have HS := Lib.hid (CB.out w3)
    go_upto_region 6 with ((with_reducible refine calls_at 47 ?_); (with_reducible refine HS.out.mono ?_); rintro e w5 ⟨rfl, hu5⟩; replace hX := hY.next hu5; clear hu5 hY)
    have x0 := (refs_row hX).1
    rw [HVL.out] at x0
    obtain ⟨a0, a1, a2, a3, a4, a5, a6, a7, e0, e1, e2, e3, e4, e5, e6, e7⟩ := RowAt.c8 (hX.get 4 rfl)
    refine wp_region_later (by kernel_rfl) (by kernel_rfl) ?_
    have l0 := Later.cell_of a0
    have l1 := Later.cell_of x0
    have hne := later_ne w5
    clear a0 a1 a2 a3 a4 a5 a6 a7 e0 e1 e2 e3 e4 e5 e6 e7
    clear x0
    repeat (go_big_quiet_step ((go_at_call 46; with_reducible exact Calls.later_same (CN.out _))))
    refine wpQuiet_nil ?_
    rintro w6 ⟨u6, rfl⟩
    replace hX := hX.next u6.up
    clear l0 l1 hne HS
    generalize u6.world = w6 at *
    obtain ⟨a0, a1, a2, a3, a4, a5, a6, a7, e0, e1, e2, e3, e4, e5, e6, e7⟩ := RowAt.c8 (hX.get 4 rfl)
    go_upto_region 9 with fail
    have hE := hX.putRow 4 (g := gr) rfl 2 (.int .i64 (age + 1)) (.pointer (some ⟨g, 0, none⟩)) [.int .i64 (which : Int), .int .i64 (age + 1), .int .i64 (pages : Int), .slice ql recs.length cl, .int .i64 (written : Int), .int .i64 (sure : Int), .string ByteArray.empty] (by simp) rfl
    clear a0 a1 a2 a3 a4 a5 a6 a7 e0 e1 e2 e3 e4 e5 e6 e7
    generalize World.setCell _ _ _ = w7 at *
    obtain ⟨a0, a1, a2, a3, a4, a5, a6, a7, e0, e1, e2, e3, e4, e5, e6, e7⟩ := RowAt.c8 (hE.get 4 rfl)
    have HL9 := Lib.hid (HLY.out _ hE)
    go_upto_region 10 with ((with_reducible refine HL9.out.mono ?_); rintro e w8 ⟨rfl, vW8, hF⟩)
    clear HL9 hE hX
    clear a0 a1 a2 a3 a4 a5 a6 a7 e0 e1 e2 e3 e4 e5 e6 e7
    obtain ⟨a0, a1, a2, a3, a4, a5, a6, a7, e0, e1, e2, e3, e4, e5, e6, e7⟩ := RowAt.c8 (hF.get 4 rfl)
    go_wp2_with fail
    go_ret
    exact ⟨rfl, vW8, hF.putRow 4 (g := gr) rfl 7 (.string s) (.pointer (some ⟨g, 0, none⟩)) [.int .i64 (which : Int), .int .i64 (age + 1), .int .i64 (pages : Int), .slice ql recs.length cl, .int .i64 (written : Int), .int .i64 (sure : Int), .string s] (by simp) rfl⟩
  · have hL : L.turn d s = L ∧ L.turnD d s = d := by unfold LogD.turn LogD.turnD; rw [if_neg hE0, if_neg hE0]; exact ⟨rfl, rfl⟩
    rw [hL.1, hL.2]
    obtain ⟨E0, hE⟩ : ∃ E0, L.turnE d s = E0 := ⟨_, rfl⟩
    rw [hE]
    obtain ⟨which, age, pages, recs, written, sure, turned⟩ := L
    obtain ⟨a0, a1, a2, a3, a4, a5, a6, a7, e0, e1, e2, e3, e4, e5, e6, e7⟩ := RowAt.c8 (h.get 4 rfl)
    have HX := Lib.hid h
    clear hL
    unfold LogD.turnE at hE hE0
    by_cases h1 : s.size = 0 ∨ 100000 < s.size
    · have hy : LogD.why ⟨which, age, pages, recs, written, sure, turned⟩ s = 1 := by unfold LogD.why; rw [if_pos h1]
      rw [hy, if_pos (by decide)] at hE
      subst hE
      clear hE0 hy h
      rcases Nat.lt_or_ge s.size 1 with h2 | h2
      · have j1 : (s.size : Int) < 1 := by omega
        clear h1 h2
        go_enter Try.func21, Try.ntmps21
        go_wp2_with fail
        go_ret
        exact ⟨rfl, vW, HX.out⟩
      · have j1 : ¬ (s.size : Int) < 1 := by omega
        have j2 : (s.size : Int) > 100000 := by omega
        clear h1 h2
        go_enter Try.func21, Try.ntmps21
        go_wp2_with fail
        go_ret
        exact ⟨rfl, vW, HX.out⟩
    · have j1 : ¬ (s.size : Int) < 1 := by omega
      have j2 : ¬ (s.size : Int) > 100000 := by omega
      by_cases ht : turned.size = 0
      · have hb := ba_empty ht
        subst hb
        have hy : LogD.why ⟨which, age, pages, recs, written, sure, ByteArray.empty⟩ s = 0 := by unfold LogD.why; rw [if_neg h1, if_neg (by simp)]
        rw [hy, if_neg (by decide)] at hE
        by_cases h2 : sure < recs.length
        · rw [if_pos h2] at hE
          subst hE
          have j3 : (sure : Int) < (recs.length : Int) := by omega
          clear hE0 hy h ht h2 h1
          go_enter Try.func21, Try.ntmps21
          go_upto_region 3 with fail
          refine wp_region_later (by kernel_rfl) (by kernel_rfl) ?_
          have l4 := Later.cell_of a4
          have l6 := Later.cell_of a6
          have l7 := Later.cell_of a7
          have hne := later_ne w
          clear a0 a1 a2 a3 a4 a5 a6 a7 e0 e1 e2 e3 e4 e5 e6 e7
          repeat (go_big_quiet_step (fail))
          refine wpQuiet_nil ?_
          rintro w3 ⟨u3, rfl⟩
          have hX := HX.out.next u3.up
          clear l4 l6 l7 hne
          generalize u3.world = w3 at *
          go_wp2_with fail
          go_ret
          exact ⟨rfl, vW, hX⟩
        · rw [if_neg h2] at hE
          have j3 : ¬ (sure : Int) < (recs.length : Int) := by omega
          have hfz : (frameW [s]).size ≤ 100003 := by
            have := frameW_size [s] (fun x hx => by obtain rfl := List.mem_singleton.1 hx; omega)
            simpa using this
          obtain ⟨N, hN⟩ : ∃ N, needW (frameW [s]).size = N := ⟨_, rfl⟩
          have hN2 : needW (frameL [s]).length = N := by rw [← hN]; unfold frameW; rw [size_str]
          have CN := Lib.hid (fun w => hN ▸ ref6_Need (frameW [s]) (by omega) w)
          have CB := Lib.hid (fun (w : World) => show Calls Try.prog 47 #[.slice (some ⟨w.heap.size, 0, none⟩) 1 1] (w.alloc (.cells #[.string s] 9)) _ from ref6_Bytes (c := 1) [s] (recs_one (RowAt.made w 9 [.string s])) (fun x hx => by obtain rfl := List.mem_singleton.1 hx; omega) (show 1 ≤ 100000 by decide))
          obtain ⟨D, hDn⟩ : ∃ D : Nat, d.n = D := ⟨_, rfl⟩
          obtain ⟨H, hH⟩ : ∃ H : Nat, d.halfN = H := ⟨_, rfl⟩
          have hn2 := hok.n2
          have hQ2 : (D : Int) / 2 = (H : Int) := by unfold DiskD.halfN at hH; omega
          have hH512 : H ≤ 512 := by unfold DiskD.halfN at hH; omega
          have hvl : ∃ b cap, vL = .slice (some ⟨b, 0, none⟩) D cap := by
            obtain ⟨b, cap, hv, -⟩ := refs_n h hok
            exact ⟨b, cap, by rw [hv, hDn]⟩
          obtain ⟨b, cap, hvL⟩ := hvl
          have HVL := Lib.hid hvL
          have hb : H < N := by
            rw [hN2, hH] at hE
            rcases Nat.lt_or_ge H N with h | h
            · exact h
            · rw [if_neg (by omega)] at hE; exact absurd hE.symm (fun e => hE0 (by rw [hy, if_neg (by decide), if_neg h2, hN2, hH, if_neg (by omega)]))
          rw [hN2, hH, if_pos hb] at hE
          subst hE
          have j4 : (N : Int) > (H : Int) := by omega
          clear hE0 hy h ht h2 h1 hb hN hN2 hfz hDn hH hvL hn2 hl
          generalize frameW [s] = FW at *
          go_enter Try.func21, Try.ntmps21
          go_upto_region 3 with fail
          refine wp_region_later (by kernel_rfl) (by kernel_rfl) ?_
          have l4 := Later.cell_of a4
          have l6 := Later.cell_of a6
          have l7 := Later.cell_of a7
          have hne := later_ne w
          clear a0 a1 a2 a3 a4 a5 a6 a7 e0 e1 e2 e3 e4 e5 e6 e7
          repeat (go_big_quiet_step (fail))
          refine wpQuiet_nil ?_
          rintro w3 ⟨u3, rfl⟩
          have hX := HX.out.next u3.up
          clear l4 l6 l7 hne
          generalize u3.world = w3 at *
          have hY : Hold W (w3.alloc (.cells #[.string s] 9)) _ := (hX.next ((Below.refl _ _).alloc (Nat.le_refl _) (.cells #[.string s] 9)))
          have HS := Lib.hid (CB.out w3)
          go_upto_region 6 with ((with_reducible refine calls_at 47 ?_); (with_reducible refine HS.out.mono ?_); rintro e w5 ⟨rfl, hu5⟩; replace hX := hY.next hu5; clear hu5 hY)
          have x0 := (refs_row hX).1
          rw [HVL.out] at x0
          obtain ⟨a0, a1, a2, a3, a4, a5, a6, a7, e0, e1, e2, e3, e4, e5, e6, e7⟩ := RowAt.c8 (hX.get 4 rfl)
          refine wp_region_later (by kernel_rfl) (by kernel_rfl) ?_
          have l0 := Later.cell_of a0
          have l1 := Later.cell_of x0
          have hne := later_ne w5
          clear a0 a1 a2 a3 a4 a5 a6 a7 e0 e1 e2 e3 e4 e5 e6 e7
          clear x0
          repeat (go_big_quiet_step ((go_at_call 46; with_reducible exact Calls.later_same (CN.out _))))
          refine wpQuiet_nil ?_
          rintro w6 ⟨u6, rfl⟩
          replace hX := hX.next u6.up
          clear l0 l1 hne HS
          generalize u6.world = w6 at *
          go_wp2_with fail
          go_ret
          exact ⟨rfl, vW, hX⟩
      · have hte : turned.toList.isEmpty = false := str_nonempty ht
        have hte2 : ¬ turned.toList = [] := by intro h; rw [h] at hte; cases hte
        have hy : LogD.why ⟨which, age, pages, recs, written, sure, turned⟩ s = 9 := by unfold LogD.why; rw [if_neg h1, if_pos ht]
        rw [hy, if_pos (by decide)] at hE
        subst hE
        clear hE0 hy h ht h1
        go_enter Try.func21, Try.ntmps21
        go_upto_region 3 with fail
        refine wp_region_later (by kernel_rfl) (by kernel_rfl) ?_
        have l4 := Later.cell_of a4
        have l6 := Later.cell_of a6
        have l7 := Later.cell_of a7
        have hne := later_ne w
        clear a0 a1 a2 a3 a4 a5 a6 a7 e0 e1 e2 e3 e4 e5 e6 e7
        repeat (go_big_quiet_step (fail))
        refine wpQuiet_nil ?_
        rintro w3 ⟨u3, rfl⟩
        have hX := HX.out.next u3.up
        clear l4 l6 l7 hne
        generalize u3.world = w3 at *
        go_wp2_with fail
        go_ret
        exact ⟨rfl, vW, hX⟩
end Go.Proofs.Ytokpkkjgagbpfaa
namespace Go.Proofs.Ytokpkkjgagbpfaa
open Go.RowKit Bw
set_option linter.unusedVariables false
set_option maxRecDepth 100000
variable {W w : World} {X : Res} {T : List Res} {g : Nat} {vL vW : Value} {d : DiskD}
/-- The log that is being opened. -/
def seek6 (gl : Nat) (vD : Value) (A : Int) (B : BestW) (q : Option Addr) (c : Nat) : List Res := [rowR gl vD [.int .i64 (B.which : Int), .int .i64 A, .int .i64 (B.pages : Int), .slice q B.recs.length c, .int .i64 0, .int .i64 0, .string ⟨#[]⟩], recsR q c B.recs]
set_option maxHeartbeats 4000000 in
theorem ref6_Open (h : Hold W w (refs X g vL vW d T)) (hok : d.Ok) (hl : d.W.length ≤ 1000) (hO : openLE d = 0) :
    Calls Try.prog 13 #[.pointer (some ⟨g, 0, none⟩)] w fun e w' => ∃ gr, e = .returned (.tuple #[.pointer (some ⟨gr, 0, none⟩), .int .i64 0]) ∧ ∃ ql cl, Hold W w' (rtrio X g vL vW d gr (openL d) ql cl T) := by
  have hn2 := hok.n2
  obtain ⟨D, hDn⟩ : ∃ D : Nat, d.n = D := ⟨_, rfl⟩
  obtain ⟨b, cap, hvL, hx0⟩ := refs_n h hok
  rw [hDn] at hvL hx0 hn2
  have h4 : ¬ D < 4 := by
    intro e
    unfold openLE at hO
    rw [hDn, if_pos e] at hO
    cases hO
  have hA4 : ¬ maxAge d D ≥ 1099511627776 := by
    intro e
    unfold openLE at hO
    rw [hDn, if_neg h4, if_pos e] at hO
    cases hO
  have h4' : ¬ (D : Int) < 4 := by omega
  have HDn := Lib.hid hDn
  have HA4 := Lib.hid hA4
  have X0 := Lib.hid hx0
  have SC := Lib.hid (fun w1 (hh' : Hold W w1 (refs X g vL vW d T)) (k : Nat) hk => ref6_Scan hh' hok hl k hk)
  have SC0 := Lib.hid (fun w1 (hh' : Hold W w1 (refs X g vL vW d T)) => show Calls Try.prog 40 #[.pointer (some ⟨g, 0, none⟩), .int .i64 0] w1 (ScanPost6 w1 (d.scan 0)) from ref6_Scan hh' hok hl 0 (by decide))
  have CR := Lib.hid (fun w1 (hh' : Hold W w1 (refs X g vL vW d T)) (p : Int) => ref4_Raw hh' hok hl p)
  have HRS := Lib.hid (fun p => rawD_size hok p)
  have H0 := Lib.hid h
  have x0 := hx0 w h
  have hL : openL d = ⟨d.best.which, maxAge d D + 1, d.best.pages, d.best.recs, d.best.recs.length, d.best.recs.length, ByteArray.empty⟩ := by unfold openL; rw [hDn]
  have HL := Lib.hid hL
  clear hDn hok hA4 hx0 hO h4 hvL hL
  go_enter Try.func13, Try.ntmps13
  go_upto_region 5 with fail
  have hD := ((Hold.start w).madeZ 9 1).madeRow (.pointer (some ⟨g, 0, none⟩)) [.int .i64 0, .int .i64 0, .int .i64 0, .slice (some ⟨w.heap.size, 0, none⟩) 0 0, .int .i64 0, .int .i64 0, .string ⟨#[]⟩] 74
  simp only [World.size_alloc, List.nil_append, List.cons_append] at hD
  generalize hg0 : w.heap.size = g0 at *
  generalize g0 + 1 = gl at *
  generalize World.alloc _ _ = w0 at *
  replace hD : Hold w w0 [rowR gl (.pointer (some ⟨g, 0, none⟩)) [.int .i64 0, .int .i64 0, .int .i64 0, .slice (some ⟨g0, 0, none⟩) 0 0, .int .i64 0, .int .i64 0, .string ⟨#[]⟩], recsR (some ⟨g0, 0, none⟩) 0 []] := hD.perm (List.Perm.swap _ _ _)
  clear x0
  have HS0 := Lib.hid (SC0.out _ (H0.out.next hD.up))
  go_upto_region 6 with ((with_reducible refine HS0.out.mono ?_); rintro e wm ⟨q1, c1, rfl, hS⟩; replace hD := hD.next hS.up; clear hS)
  clear HS0 SC0
  obtain ⟨a0, a1, a2, a3, a4, a5, a6, a7, e0, e1, e2, e3, e4, e5, e6, e7⟩ := RowAt.c8 (hD.get 0 rfl)
  go_upto_region 7 with fail
  replace hD := hD.putRow 0 (g := gl) rfl 3 (.int .i64 ((d.scan 0).pages : Int)) (.pointer (some ⟨g, 0, none⟩)) [.int .i64 0, .int .i64 0, .int .i64 ((d.scan 0).pages : Int), .slice (some ⟨g0, 0, none⟩) 0 0, .int .i64 0, .int .i64 0, .string ⟨#[]⟩] (by simp) rfl
  replace hD : Hold w _ (seek6 gl (.pointer (some ⟨g, 0, none⟩)) 0 (bestK d 0) (some ⟨g0, 0, none⟩) 0) := hD
  clear a0 a1 a2 a3 a4 a5 a6 a7 e0 e1 e2 e3 e4 e5 e6 e7
  generalize World.setCell _ _ _ = w1 at *
  go_wp2_with fail
  go_loopw [5, 9] (fun v5 v9 wr => ∃ (k : Nat) (q : Option Addr) (c : Nat), v9 = .int .i64 (k : Int) ∧ k ≤ 2 ∧ v5 = .int .i64 (bestK d k).age ∧ Hold w wr (seek6 gl (.pointer (some ⟨g, 0, none⟩)) 0 (bestK d k) q c)) (fun _ v _ => 2 - (intOf v).toNat)
  case atStart => exact ⟨0, some ⟨g0, 0, none⟩, 0, rfl, by omega, rfl, hD⟩
  case round =>
  clear hD
  obtain ⟨k, q, c, rfl, hk, rfl, hD⟩ := hrel
  by_cases hk2 : k < 2
  · have hk2' : (k : Int) < 2 := by omega
    have SK := Lib.hid (SC.out wr (H0.out.next hD.up) k (by omega))
    have hB : bestK d (k + 1) = bestStep (bestK d k) k (d.scan k) := rfl
    obtain ⟨B1, hB1⟩ : ∃ B1, bestK d (k + 1) = B1 := ⟨_, rfl⟩
    rw [hB1] at hB
    have HB1 := Lib.hid hB1
    clear hB1
    generalize bestK d k = B at *
    generalize d.scan (k : Int) = S at *
    obtain ⟨Sa, Sr, Sp, Sl, St⟩ := S
    obtain ⟨Bw, Ba, Br, Bp⟩ := B
    go_upto_region 11 with ((with_reducible refine SK.out.mono ?_); rintro e wk ⟨q1, c1, rfl, hS⟩)
    have hE := hD.add hS.up _ (hS.get 0 rfl) (hS.new 0 rfl)
    replace hE : Hold w wk [rowR gl (.pointer (some ⟨g, 0, none⟩)) [.int .i64 (Bw : Int), .int .i64 0, .int .i64 (Bp : Int), .slice q Br.length c, .int .i64 0, .int .i64 0, .string ⟨#[]⟩], recsR q c Br, recsR q1 c1 Sr] := hE
    clear hD hS SK
    obtain ⟨a0, a1, a2, a3, a4, a5, a6, a7, e0, e1, e2, e3, e4, e5, e6, e7⟩ := RowAt.c8 (hE.get 0 rfl)
    by_cases hz : (Sr.length : Int) > 0
    · by_cases hb : Sa > Ba
      · have hB2 : B1 = ⟨k, Sa, Sr, Sp⟩ := by
          rw [hB]; unfold bestStep; exact if_pos ⟨fun h => by rw [show Sr = [] from h] at hz; exact absurd hz (by decide), hb⟩
        go_upto_region 14 with fail
        replace hE := hE.putRow 0 (g := gl) rfl 1 (.int .i64 (k : Int)) (.pointer (some ⟨g, 0, none⟩)) [.int .i64 (k : Int), .int .i64 0, .int .i64 (Bp : Int), .slice q Br.length c, .int .i64 0, .int .i64 0, .string ⟨#[]⟩] (by simp) rfl
        clear a0 a1 a2 a3 a4 a5 a6 a7 e0 e1 e2 e3 e4 e5 e6 e7
        generalize World.setCell _ _ _ = w2 at *
        obtain ⟨a0, a1, a2, a3, a4, a5, a6, a7, e0, e1, e2, e3, e4, e5, e6, e7⟩ := RowAt.c8 (hE.get 0 rfl)
        go_upto_region 15 with fail
        replace hE := hE.putRow 0 (g := gl) rfl 4 (.slice q1 Sr.length c1) (.pointer (some ⟨g, 0, none⟩)) [.int .i64 (k : Int), .int .i64 0, .int .i64 (Bp : Int), .slice q1 Sr.length c1, .int .i64 0, .int .i64 0, .string ⟨#[]⟩] (by simp) rfl
        clear a0 a1 a2 a3 a4 a5 a6 a7 e0 e1 e2 e3 e4 e5 e6 e7
        generalize World.setCell _ _ _ = w3 at *
        obtain ⟨a0, a1, a2, a3, a4, a5, a6, a7, e0, e1, e2, e3, e4, e5, e6, e7⟩ := RowAt.c8 (hE.get 0 rfl)
        go_upto_region 9 with fail
        have hF := hE.putRow 0 (g := gl) rfl 3 (.int .i64 (Sp : Int)) (.pointer (some ⟨g, 0, none⟩)) [.int .i64 (k : Int), .int .i64 0, .int .i64 (Sp : Int), .slice q1 Sr.length c1, .int .i64 0, .int .i64 0, .string ⟨#[]⟩] (by simp) rfl
        replace hF := hF.sub (l' := seek6 gl (.pointer (some ⟨g, 0, none⟩)) 0 ⟨k, Sa, Sr, Sp⟩ q1 c1) (.cons_cons _ (.cons _ (.cons_cons _ (List.nil_sublist _))))
        clear hE hz hb
        clear a0 a1 a2 a3 a4 a5 a6 a7 e0 e1 e2 e3 e4 e5 e6 e7
        generalize World.setCell _ _ _ = w4 at *
        rw [← hB2] at hF
        have HAG := Lib.hid (show B1.age = Sa by rw [hB2])
        go_wp2_with fail
        rw [← HB1.out] at hF
        exact ⟨⟨k + 1, q1, c1, rfl, by omega, by rw [HB1.out, HAG.out], hF⟩, by simp [intOf]; omega⟩
      · have hB2 : B1 = ⟨Bw, Ba, Br, Bp⟩ := by rw [hB]; unfold bestStep; exact if_neg fun h => hb h.2
        go_upto_region 9 with fail
        have hF := hE.sub (l' := seek6 gl (.pointer (some ⟨g, 0, none⟩)) 0 ⟨Bw, Ba, Br, Bp⟩ q c) (.cons_cons _ (.cons_cons _ (List.nil_sublist _)))
        rw [← hB2] at hF
        have HAG := Lib.hid (show B1.age = Ba by rw [hB2])
        clear hE hz
        clear a0 a1 a2 a3 a4 a5 a6 a7 e0 e1 e2 e3 e4 e5 e6 e7
        go_wp2_with fail
        rw [← HB1.out] at hF
        exact ⟨⟨k + 1, q, c, rfl, by omega, by rw [HB1.out, HAG.out], hF⟩, by simp [intOf]; omega⟩
    · have hB2 : B1 = ⟨Bw, Ba, Br, Bp⟩ := by
        rw [hB]; unfold bestStep; exact if_neg fun h => hz (by have h1 : 0 < Sr.length := List.length_pos_iff.2 h.1; omega)
      go_upto_region 9 with fail
      have hF := hE.sub (l' := seek6 gl (.pointer (some ⟨g, 0, none⟩)) 0 ⟨Bw, Ba, Br, Bp⟩ q c) (.cons_cons _ (.cons_cons _ (List.nil_sublist _)))
      rw [← hB2] at hF
      have HAG := Lib.hid (show B1.age = Ba by rw [hB2])
      clear hE hz
      clear a0 a1 a2 a3 a4 a5 a6 a7 e0 e1 e2 e3 e4 e5 e6 e7
      go_wp2_with fail
      rw [← HB1.out] at hF
      exact ⟨⟨k + 1, q, c, rfl, by omega, by rw [HB1.out, HAG.out], hF⟩, by simp [intOf]; omega⟩
  · have hk2' : ¬ (k : Int) < 2 := by omega
    have hk3 : k = 2 := by omega
    clear SC
    subst hk3
    rw [bestK_two] at hD
    rw [bestK_two]
    obtain ⟨B, hBB⟩ : ∃ B, d.best = B := ⟨_, rfl⟩
    rw [hBB] at hD ⊢
    have HBB := Lib.hid hBB
    clear hBB
    go_wp2_with fail
    go_loopw [13] (fun v13 wr => ∃ (k : Nat), v13 = .int .i64 (k : Int) ∧ k ≤ D ∧ Hold w wr (seek6 gl (.pointer (some ⟨g, 0, none⟩)) (maxAge d k) B q c)) (fun v _ => D - (intOf v).toNat)
    case atStart => exact ⟨0, rfl, by omega, hD⟩
    case round =>
    clear hD
    obtain ⟨k, rfl, hk, hD⟩ := hrel
    have x0 := X0.out _ (H0.out.next hD.up)
    by_cases hk2 : k < D
    · have hk2' : (k : Int) < (D : Int) := by omega
      have hraw := HRS.out k
      have HM := Lib.hid (show maxAge d (k + 1) = max (max (maxAge d k) (getV (d.rawD k) 0 6)) (getV (d.rawD k) 244 6) from rfl)
      have RQ := Lib.hid (CR.out wr (H0.out.next hD.up) k)
      generalize maxAge d k = A at *
      generalize d.rawD k = S at *
      have N1 := Lib.hid (fun w => ref6_at S (by omega) 0 6 (by decide) w)
      have N3 := Lib.hid (fun w => ref6_at S (by omega) 244 6 (by decide) w)
      generalize getV S 0 6 = x1 at *
      generalize getV S 244 6 = x2 at *
      go_upto_region 20 with ((with_reducible refine RQ.out.mono ?_); rintro e wk ⟨rfl, rfl⟩)
      clear x0 RQ
      obtain ⟨a0, a1, a2, a3, a4, a5, a6, a7, e0, e1, e2, e3, e4, e5, e6, e7⟩ := RowAt.c8 (hD.get 0 rfl)
      refine wp_region_later_tail 12 (by kernel_rfl) (by kernel_rfl) ?_
      have l2 := Later.cell_of a2
      have hne := later_ne wk
      clear a0 a1 a2 a3 a4 a5 a6 a7 e0 e1 e2 e3 e4 e5 e6 e7
      simp only [List.take_succ_cons, List.take_zero]
      repeat (go_big_quiet_step ((go_at_call 41; first | (with_reducible exact Calls.later_same (N1.out _)) | (with_reducible exact Calls.later_same (N3.out _)))))
      refine wpQuiet_nil ?_
      rintro w9 ⟨u9, rfl⟩
      replace hD := hD.next u9.up
      clear l2 hne N1 N3
      generalize u9.world = w9 at *
      obtain ⟨a0, a1, a2, a3, a4, a5, a6, a7, e0, e1, e2, e3, e4, e5, e6, e7⟩ := RowAt.c8 (hD.get 0 rfl)
      simp only [List.drop_succ_cons, List.drop_zero]
      have hF := hD.putRow 0 (g := gl) rfl 2 (.int .i64 (max (max A x1) x2)) (.pointer (some ⟨g, 0, none⟩)) [.int .i64 (B.which : Int), .int .i64 (max (max A x1) x2), .int .i64 (B.pages : Int), .slice q B.recs.length c, .int .i64 0, .int .i64 0, .string ⟨#[]⟩] (by simp) rfl
      replace hF : Hold w _ (seek6 gl (.pointer (some ⟨g, 0, none⟩)) (max (max A x1) x2) B q c) := hF
      rw [← HM.out] at hF
      go_wp2_with fail
      rw [max3, ← HM.out]
      exact ⟨⟨k + 1, rfl, by omega, hF⟩, by simp [intOf]; omega⟩
    · have hk2' : ¬ (k : Int) < (D : Int) := by omega
      have hk3 : k = D := by omega
      subst hk3
      have hA := HA4.out
      have hA0 := maxAge_nonneg d k
      clear CR hk hk2 HA4
      generalize maxAge d k = A at *
      obtain ⟨a0, a1, a2, a3, a4, a5, a6, a7, e0, e1, e2, e3, e4, e5, e6, e7⟩ := RowAt.c8 (hD.get 0 rfl)
      go_upto_region 24 with fail
      replace hD := hD.putRow 0 (g := gl) rfl 2 (.int .i64 (A + 1)) (.pointer (some ⟨g, 0, none⟩)) [.int .i64 (B.which : Int), .int .i64 (A + 1), .int .i64 (B.pages : Int), .slice q B.recs.length c, .int .i64 0, .int .i64 0, .string ⟨#[]⟩] (by simp) rfl
      clear a0 a1 a2 a3 a4 a5 a6 a7 e0 e1 e2 e3 e4 e5 e6 e7
      generalize World.setCell _ _ _ = w4 at *
      obtain ⟨a0, a1, a2, a3, a4, a5, a6, a7, e0, e1, e2, e3, e4, e5, e6, e7⟩ := RowAt.c8 (hD.get 0 rfl)
      go_upto_region 25 with fail
      replace hD := hD.putRow 0 (g := gl) rfl 5 (.int .i64 (B.recs.length : Int)) (.pointer (some ⟨g, 0, none⟩)) [.int .i64 (B.which : Int), .int .i64 (A + 1), .int .i64 (B.pages : Int), .slice q B.recs.length c, .int .i64 (B.recs.length : Int), .int .i64 0, .string ⟨#[]⟩] (by simp) rfl
      clear a0 a1 a2 a3 a4 a5 a6 a7 e0 e1 e2 e3 e4 e5 e6 e7
      generalize World.setCell _ _ _ = w5 at *
      obtain ⟨a0, a1, a2, a3, a4, a5, a6, a7, e0, e1, e2, e3, e4, e5, e6, e7⟩ := RowAt.c8 (hD.get 0 rfl)
      go_upto_region 26 with fail
      replace hD := hD.putRow 0 (g := gl) rfl 6 (.int .i64 (B.recs.length : Int)) (.pointer (some ⟨g, 0, none⟩)) [.int .i64 (B.which : Int), .int .i64 (A + 1), .int .i64 (B.pages : Int), .slice q B.recs.length c, .int .i64 (B.recs.length : Int), .int .i64 (B.recs.length : Int), .string ⟨#[]⟩] (by simp) rfl
      clear a0 a1 a2 a3 a4 a5 a6 a7 e0 e1 e2 e3 e4 e5 e6 e7
      generalize World.setCell _ _ _ = w6 at *
      go_wp2_with fail
      refine bodyPost_ret (v := .tuple #[.pointer (some ⟨gl, 0, none⟩), .int .i64 0]) (by simp [results, Try.results13, go_sem]) rfl ?_
      refine ⟨gl, rfl, q, c, ?_⟩
      rw [HL.out, HBB.out]
      exact (H0.out.join hD).perm (List.Perm.cons _ (List.Perm.cons _ (List.Perm.cons _ (List.Perm.cons _ List.perm_append_comm))))
end Go.Proofs.Ytokpkkjgagbpfaa
