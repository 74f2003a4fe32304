/- Layer 24: an act as a text. -/
import Derived.Test.YtkkgcmnipdkeeaaDoorScWalk7
import Derived.Test.YtkkgcmnipdkeeaaDoorScWalk5
import Derived.Test.YtkkgcmnipdkeeaaDoorScRef4
import Derived.Test.YtkkgcmnipdkeeaaDoorScTab
namespace Bw
open Go
theorem fatesT_take (f : List Int) (m : Nat) (h : m < f.length) : (f.take (m + 1)).flatMap Lib.itoa = (f.take m).flatMap Lib.itoa ++ Lib.itoa f[m] := by
  rw [List.take_succ_eq_append_getElem h]; simp only [List.flatMap_append, List.flatMap_cons, List.flatMap_nil, List.append_nil]
theorem fatesT_len : ∀ l : List Int, (∀ x ∈ l, 0 ≤ x ∧ x ≤ 2) → (l.flatMap Lib.itoa).length ≤ 4 * l.length
  | [], _ => Nat.le_refl 0
  | n :: l, h => by
    have h1 := fatesT_len l (fun x hx => h x (by simp [hx]))
    have h2 := h n (by simp)
    have h3 := itoa_len (n := n) 3 h2.1 (by omega)
    simp only [List.flatMap_cons, List.length_append, List.length_cons]
    omega
theorem nameL_le (n : Nat) : (nameL n).length ≤ 6 := by
  unfold nameL
  split <;> simp
def sT (T : Bool) (t : Int) : List UInt8 := if T then numT t else []
def sS (K : Bool) (s : ByteArray) : List UInt8 := if K then hexL s else []
def sF (F : Bool) : List UInt8 := if F then [32, 58] else []
theorem showL_parts (a : ActD) (h : bF a.k = false → a.f = []) : a.showL = nameL a.k.toNat ++ sT (bT a.k) a.t ++ sS (bK a.k) a.key ++ sS (bV a.k) a.val ++ sT (bN a.k) a.n ++ sF (bF a.k) ++ a.f.flatMap Lib.itoa := by
  unfold ActD.showL ActD.rest sT sS sF
  cases hF : bF a.k
  · rw [h hF]; simp [List.append_assoc]
  · simp [List.append_assoc, fatesL]
end Bw
namespace Go.Proofs.YtkkgcmnipdkeeaaDoor
open Go.RowKit Bw
set_option linter.unusedVariables false
set_option maxHeartbeats 4000000 in
set_option maxRecDepth 100000 in
theorem script_Show (a : ActD) (hl : a.f.length ≤ 1099511627776) (q : Option Addr) (c : Nat) (w : World) (hA : IntsAt w q a.f) (ht : Tab w) :
    Calls Tryd.prog 14 #[actV a q c] w fun e w' => e = .returned (.string a.show') ∧ Below w.heap.size w w' := by
  have CR := Lib.hid (fun w h => script_Right a hl q c w h)
  have HA := Lib.hid hA
  have HTab := Lib.hid ht
  clear hA ht
  cases hr : a.right
  · have he : a.show' = ⟨#[]⟩ := by rw [ActD.show', hr]; rfl
    rw [hr] at CR
    rw [he]
    clear he hr
    have hu := (Up.refl w).alloc (.cells #[.int .i64 a.k, .int .i64 a.t, .string a.key, .string a.val, .int .i64 a.n, .slice q a.f.length c] 24)
    have rp := RowAt.made w 24 [.int .i64 a.k, .int .i64 a.t, .string a.key, .string a.val, .int .i64 a.n, .slice q a.f.length c]
    obtain ⟨k, t, key, val, n, f⟩ := a
    simp only [actV] at *
    obtain ⟨⟨a0, a1, a2, a3, a4, a5⟩, -⟩ := RowAt.c6 rp
    go_enter Tryd.func14, Tryd.ntmps14
    go_wp2_with ((with_reducible refine (CR.out _ (HA.out.up hu)).mono ?_); rintro e wn ⟨rfl, hb⟩; replace hu := hu.next hb; clear hb)
    go_ret
    exact ⟨rfl, hu⟩
  · have o := ActD.ok hr
    have he : a.show' = str (nameL a.k.toNat ++ sT (bT a.k) a.t ++ sS (bK a.k) a.key ++ sS (bV a.k) a.val ++ sT (bN a.k) a.n ++ sF (bF a.k) ++ a.f.flatMap Lib.itoa) := by
      rw [ActD.show', if_pos hr, showL_parts a o.f0]
    rw [hr] at CR
    have CK := Lib.hid script_kinds
    have HI := Lib.hid (kind_at a.k o.k0 o.k11)
    have HF := Lib.hid (flags_of a.k o.k0 o.k11)
    rw [he]
    have HTt := Lib.hid (show bT a.k = true → 0 ≤ a.t ∧ a.t ≤ 255 from fun h => by have := o.t1 h; omega)
    have HFf := Lib.hid o.f0
    have HF2 := Lib.hid o.f1
    obtain ⟨hn0, hn1⟩ := o.n1
    have hkey := o.key1
    have hval := o.val1
    have hf60 := o.f2
    have hnm : (nameS a.k).size ≤ 6 := by unfold nameS; rw [size_str]; exact nameL_le _
    have HN : str (nameL a.k.toNat) = nameS a.k := rfl
    clear he hr o
    simp only [hasC] at HI
    generalize hRR : str (nameL a.k.toNat ++ sT (bT a.k) a.t ++ sS (bK a.k) a.key ++ sS (bV a.k) a.val ++ sT (bN a.k) a.n ++ sF (bF a.k) ++ a.f.flatMap Lib.itoa) = R
    generalize nameL a.k.toNat = NL at *
    generalize nameS a.k = NM at *
    generalize bT a.k = T at *
    generalize bK a.k = K at *
    generalize bV a.k = V at *
    generalize bN a.k = N at *
    generalize bF a.k = F at *
    have HRR := Lib.hid hRR
    have HNM := Lib.hid HN
    clear hRR HN
    obtain ⟨k, t, key, val, n, f⟩ := a
    simp only [actV] at *
    go_enter Tryd.func14, Tryd.ntmps14
    go_upto_region 1 with fail
    have hD := (Hold.start w).madeRow (.int .i64 k) [.int .i64 t, .string key, .string val, .int .i64 n, .slice q f.length c] 24
    simp only [List.nil_append] at hD
    generalize w.alloc _ = w0 at *
    replace hD : Hold w w0 [rowR w.heap.size (.int .i64 k) [.int .i64 t, .string key, .string val, .int .i64 n, .slice q f.length c]] := hD
    obtain ⟨⟨a0, a1, a2, a3, a4, a5⟩, -⟩ := RowAt.c6 (hD.get 0 rfl)
    go_upto_region 3 with ((with_reducible refine (CR.out _ (HA.out.up hD.up)).mono ?_); rintro e w1 ⟨rfl, hb⟩; replace hD := hD.next hb; clear hb)
    clear a0 a1 a2 a3 a4 a5
    have hix := HI.out
    refine wp_region_two Up (RQ w1.drew.heap.size) (up_rq _) (by kernel_rfl) (by kernel_rfl) (by kernel_rfl) ?_
    replace hD := hD.next ((Below.refl _ w1).drew)
    generalize w1.drew = wa at *
    have r0 : RowAt wa w.heap.size [.int .i64 k, .int .i64 t, .string key, .string val, .int .i64 n, .slice q f.length c] := hD.get 0 rfl
    have a0 := r0.cell 0 (by simp)
    simp only [List.getElem_cons_zero] at a0
    refine wpAnyTS_quiet 0 4 2 63 (by rfl) (by kernel_rfl) (fun _ _ _ _ _ h => h) (by kernel_rfl) (by kernel_rfl) ?_
    apply Exists.intro
    refine ⟨fun w2 hw2 => ?_, ?_⟩
    · have hne := laterR_ne rok_upQ w2
      have l0 := laterQ a0 r0.lt (Nat.le_refl _) hw2
      simp only [List.drop_zero, List.take_succ_cons, List.take_zero]
      repeat (go_big_quiet_step ((go_at_call 22; with_reducible exact Calls.laterQ (CK.out _))))
      exact wpQuiet_nil rfl
    clear a0 r0 hix
    have hU := Up.refl wa
    refine wpAnyTS_some 4 [] 1 (by rfl) (by kernel_rfl) (by kernel_rfl) ?_
    intro w3 h3
    replace hD := hD.next h3
    replace hU := Up.trans hU h3
    clear h3
    refine ⟨?_, trivial⟩
    simp only [List.drop_succ_cons, List.drop_zero, List.take_succ_cons, List.take_zero]
    go_wp2_with fail
    refine ⟨.inr ((up_rq _).sub ((Up.refl _).alloc _)), ?_⟩
    have hg3 : wa.heap.size ≤ w3.heap.size := Below.size hU
    replace hD := hD.madeRow (.string ⟨#[]⟩) [.bool false, .bool false, .bool false, .bool false, .bool false] 49
    simp only [List.nil_append, List.cons_append] at hD
    replace hU := Up.trans hU ((Up.refl w3).alloc (.cells #[.string ⟨#[]⟩, .bool false, .bool false, .bool false, .bool false, .bool false] 49))
    generalize w3.heap.size = g3 at *
    generalize w3.alloc _ = w4 at *
    refine wpAnyTS_some 5 [] 0 (by rfl) (by kernel_rfl) (by kernel_rfl) ?_
    intro w5 h3
    replace hD := hD.next h3
    replace hU := Up.trans hU h3
    clear h3
    refine ⟨?_, trivial⟩
    obtain ⟨⟨x0, x1, x2, x3, x4, x5⟩, y0, y1, y2, y3, y4, y5⟩ := RowAt.c6 (hD.get 1 rfl)
    simp only [List.drop_succ_cons, List.drop_zero, List.take_succ_cons, List.take_zero]
    go_wp2_with fail
    refine ⟨.inr (fun _ => ((((((Below.refl _ w5).setCell (p := ⟨g3, 0, none⟩) hg3 _).setCell (p := ⟨g3, 1, none⟩) hg3 _).setCell (p := ⟨g3, 2, none⟩) hg3 _).setCell (p := ⟨g3, 3, none⟩) hg3 _).setCell (p := ⟨g3, 4, none⟩) hg3 _).setCell (p := ⟨g3, 5, none⟩) hg3 _), ?_⟩
    clear x0 x1 x2 x3 x4 x5 y0 y1 y2 y3 y4 y5
    replace hD := hD.put6 1 (g := g3) rfl (.string NM) (.bool T) (.bool K) (.bool V) (.bool N) (.bool F)
    replace hU := Up.setCell (Up.setCell (Up.setCell (Up.setCell (Up.setCell (Up.setCell hU g3 0 (.string NM) hg3) g3 1 (.bool T) hg3) g3 2 (.bool K) hg3) g3 3 (.bool V) hg3) g3 4 (.bool N) hg3) g3 5 (.bool F) hg3
    generalize ((((((w5.setCell ⟨g3, 0, none⟩ (.string NM)).setCell ⟨g3, 1, none⟩ (.bool T)).setCell ⟨g3, 2, none⟩ (.bool K)).setCell ⟨g3, 3, none⟩ (.bool V)).setCell ⟨g3, 4, none⟩ (.bool N)).setCell ⟨g3, 5, none⟩ (.bool F)) = w6 at *
    refine wpAnyTS_done (by kernel_rfl) ?_
    intro w7 h7
    replace hD := hD.next h7
    clear h7 hU hg3 CK HI CR
    replace hD : Hold w w7 [rowR w.heap.size (.int .i64 k) [.int .i64 t, .string key, .string val, .int .i64 n, .slice q f.length c], rowR g3 (.string NM) [.bool T, .bool K, .bool V, .bool N, .bool F]] := hD
    obtain ⟨⟨a0, a1, a2, a3, a4, a5⟩, -⟩ := RowAt.c6 (hD.get 0 rfl)
    obtain ⟨⟨b0, b1, b2, b3, b4, b5⟩, -⟩ := RowAt.c6 (hD.get 1 rfl)
    have CKx := Lib.hid (script_hex key (by omega))
    have CVx := Lib.hid (script_hex val (by omega))
    have CNx := Lib.hid (fun w ht => sc_Itoa n hn0 (by omega) w ht)
    have xk : (str (hexL key)).size ≤ 40 := by rw [size_str]; simp only [hexL, List.length_cons]; have := hexB_len (lst key); unfold hexB at this; rw [this, lst_length]; omega
    have xv : (str (hexL val)).size ≤ 80 := by rw [size_str]; simp only [hexL, List.length_cons]; have := hexB_len (lst val); unfold hexB at this; rw [this, lst_length]; omega
    have xn : (str (Lib.itoa n)).size ≤ 4 := by rw [size_str]; exact itoa_len 3 hn0 (by omega)
    have sp : (⟨#[32]⟩ : ByteArray).size = 1 := rfl
    have sc : (⟨#[32, 58]⟩ : ByteArray).size = 2 := rfl
    have e1 : ∀ x : Int, (⟨#[32]⟩ : ByteArray) ++ str (Lib.itoa x) = str (numT x) := fun x => str_append [32] (Lib.itoa x)
    have e2 : (⟨#[32, 58]⟩ : ByteArray) = str [32, 58] := rfl
    rcases HF.out with ⟨rfl, rfl, rfl, rfl, rfl⟩ | ⟨rfl, rfl, rfl, rfl, rfl⟩ | ⟨rfl, rfl, rfl, rfl, rfl⟩ | ⟨rfl, rfl, rfl, rfl, rfl⟩ | ⟨rfl, rfl, rfl, rfl, rfl⟩ | ⟨rfl, rfl, rfl, rfl, rfl⟩
    · have hf := HFf.out rfl
      subst hf
      have CT := Lib.hid (fun w ht => sc_Itoa t (HTt.out rfl).1 (by have := (HTt.out rfl).2; omega) w ht)
      have xt : (str (Lib.itoa t)).size ≤ 4 := by rw [size_str]; exact itoa_len 3 (HTt.out rfl).1 (by have := HTt.out rfl; omega)
      have z0 : ¬ 9223372036854775807 < (⟨#[32]⟩ : ByteArray).size + (str (Lib.itoa t)).size := by omega
      have z1 : ¬ 9223372036854775807 < (NM).size + ((⟨#[32]⟩ : ByteArray) ++ str (Lib.itoa t)).size := by simp only [ByteArray.size_append]; omega
      have HG := Lib.hid (show NM ++ ((⟨#[32]⟩ : ByteArray) ++ str (Lib.itoa t)) = R by rw [← HRR.out, ← HNM.out]; simp only [e1, sT, sS, sF, if_true, Bool.false_eq_true, if_false, str_append, List.flatMap_nil, List.append_nil])
      clear xk xv xn sp sc e1 e2 hf60 HF2 xt
      generalize str (Lib.itoa t) = XT at *
      generalize str (Lib.itoa n) = XN at *
      generalize str (hexL key) = XK at *
      generalize str (hexL val) = XV at *
      go_wp2_with (first
        | ((with_reducible refine (CT.out _ (HTab.out.up hD.up)).mono ?_); rintro e wn ⟨rfl, hb⟩; replace hD := hD.next hb; clear hb; clear a0 a1 a2 a3 a4 a5 b0 b1 b2 b3 b4 b5; obtain ⟨⟨a0, a1, a2, a3, a4, a5⟩, -⟩ := RowAt.c6 (hD.get 0 rfl); obtain ⟨⟨b0, b1, b2, b3, b4, b5⟩, -⟩ := RowAt.c6 (hD.get 1 rfl))
        | ((with_reducible refine (CKx.out _).mono ?_); rintro e wn ⟨rfl, hb⟩; replace hD := hD.next hb; clear hb; clear a0 a1 a2 a3 a4 a5 b0 b1 b2 b3 b4 b5; obtain ⟨⟨a0, a1, a2, a3, a4, a5⟩, -⟩ := RowAt.c6 (hD.get 0 rfl); obtain ⟨⟨b0, b1, b2, b3, b4, b5⟩, -⟩ := RowAt.c6 (hD.get 1 rfl))
        | ((with_reducible refine (CVx.out _).mono ?_); rintro e wn ⟨rfl, hb⟩; replace hD := hD.next hb; clear hb; clear a0 a1 a2 a3 a4 a5 b0 b1 b2 b3 b4 b5; obtain ⟨⟨a0, a1, a2, a3, a4, a5⟩, -⟩ := RowAt.c6 (hD.get 0 rfl); obtain ⟨⟨b0, b1, b2, b3, b4, b5⟩, -⟩ := RowAt.c6 (hD.get 1 rfl))
        | ((with_reducible refine (CNx.out _ (HTab.out.up hD.up)).mono ?_); rintro e wn ⟨rfl, hb⟩; replace hD := hD.next hb; clear hb; clear a0 a1 a2 a3 a4 a5 b0 b1 b2 b3 b4 b5; obtain ⟨⟨a0, a1, a2, a3, a4, a5⟩, -⟩ := RowAt.c6 (hD.get 0 rfl); obtain ⟨⟨b0, b1, b2, b3, b4, b5⟩, -⟩ := RowAt.c6 (hD.get 1 rfl)))
      refine wp_loop_rounds 1 ?_
      rw [rounds_succ]
      go_wp2_with fail
      go_ret
      exact ⟨by rw [← HG.out]; rfl, hD.up⟩
    · have hf := HFf.out rfl
      subst hf
      have CT := Lib.hid (fun w ht => sc_Itoa t (HTt.out rfl).1 (by have := (HTt.out rfl).2; omega) w ht)
      have xt : (str (Lib.itoa t)).size ≤ 4 := by rw [size_str]; exact itoa_len 3 (HTt.out rfl).1 (by have := HTt.out rfl; omega)
      have z0 : ¬ 9223372036854775807 < (⟨#[32]⟩ : ByteArray).size + (str (Lib.itoa t)).size := by omega
      have z1 : ¬ 9223372036854775807 < (NM).size + ((⟨#[32]⟩ : ByteArray) ++ str (Lib.itoa t)).size := by simp only [ByteArray.size_append]; omega
      have z2 : ¬ 9223372036854775807 < (NM ++ ((⟨#[32]⟩ : ByteArray) ++ str (Lib.itoa t))).size + (str (hexL key)).size := by simp only [ByteArray.size_append]; omega
      have HG := Lib.hid (show NM ++ ((⟨#[32]⟩ : ByteArray) ++ str (Lib.itoa t)) ++ str (hexL key) = R by rw [← HRR.out, ← HNM.out]; simp only [e1, sT, sS, sF, if_true, Bool.false_eq_true, if_false, str_append, List.flatMap_nil, List.append_nil])
      clear xk xv xn sp sc e1 e2 hf60 HF2 xt
      generalize str (Lib.itoa t) = XT at *
      generalize str (Lib.itoa n) = XN at *
      generalize str (hexL key) = XK at *
      generalize str (hexL val) = XV at *
      go_wp2_with (first
        | ((with_reducible refine (CT.out _ (HTab.out.up hD.up)).mono ?_); rintro e wn ⟨rfl, hb⟩; replace hD := hD.next hb; clear hb; clear a0 a1 a2 a3 a4 a5 b0 b1 b2 b3 b4 b5; obtain ⟨⟨a0, a1, a2, a3, a4, a5⟩, -⟩ := RowAt.c6 (hD.get 0 rfl); obtain ⟨⟨b0, b1, b2, b3, b4, b5⟩, -⟩ := RowAt.c6 (hD.get 1 rfl))
        | ((with_reducible refine (CKx.out _).mono ?_); rintro e wn ⟨rfl, hb⟩; replace hD := hD.next hb; clear hb; clear a0 a1 a2 a3 a4 a5 b0 b1 b2 b3 b4 b5; obtain ⟨⟨a0, a1, a2, a3, a4, a5⟩, -⟩ := RowAt.c6 (hD.get 0 rfl); obtain ⟨⟨b0, b1, b2, b3, b4, b5⟩, -⟩ := RowAt.c6 (hD.get 1 rfl))
        | ((with_reducible refine (CVx.out _).mono ?_); rintro e wn ⟨rfl, hb⟩; replace hD := hD.next hb; clear hb; clear a0 a1 a2 a3 a4 a5 b0 b1 b2 b3 b4 b5; obtain ⟨⟨a0, a1, a2, a3, a4, a5⟩, -⟩ := RowAt.c6 (hD.get 0 rfl); obtain ⟨⟨b0, b1, b2, b3, b4, b5⟩, -⟩ := RowAt.c6 (hD.get 1 rfl))
        | ((with_reducible refine (CNx.out _ (HTab.out.up hD.up)).mono ?_); rintro e wn ⟨rfl, hb⟩; replace hD := hD.next hb; clear hb; clear a0 a1 a2 a3 a4 a5 b0 b1 b2 b3 b4 b5; obtain ⟨⟨a0, a1, a2, a3, a4, a5⟩, -⟩ := RowAt.c6 (hD.get 0 rfl); obtain ⟨⟨b0, b1, b2, b3, b4, b5⟩, -⟩ := RowAt.c6 (hD.get 1 rfl)))
      refine wp_loop_rounds 1 ?_
      rw [rounds_succ]
      go_wp2_with fail
      go_ret
      exact ⟨by rw [← HG.out]; rfl, hD.up⟩
    · have hf := HFf.out rfl
      subst hf
      have CT := Lib.hid (fun w ht => sc_Itoa t (HTt.out rfl).1 (by have := (HTt.out rfl).2; omega) w ht)
      have xt : (str (Lib.itoa t)).size ≤ 4 := by rw [size_str]; exact itoa_len 3 (HTt.out rfl).1 (by have := HTt.out rfl; omega)
      have z0 : ¬ 9223372036854775807 < (⟨#[32]⟩ : ByteArray).size + (str (Lib.itoa t)).size := by omega
      have z1 : ¬ 9223372036854775807 < (NM).size + ((⟨#[32]⟩ : ByteArray) ++ str (Lib.itoa t)).size := by simp only [ByteArray.size_append]; omega
      have z2 : ¬ 9223372036854775807 < (NM ++ ((⟨#[32]⟩ : ByteArray) ++ str (Lib.itoa t))).size + (str (hexL key)).size := by simp only [ByteArray.size_append]; omega
      have z3 : ¬ 9223372036854775807 < (NM ++ ((⟨#[32]⟩ : ByteArray) ++ str (Lib.itoa t)) ++ str (hexL key)).size + (str (hexL val)).size := by simp only [ByteArray.size_append]; omega
      have HG := Lib.hid (show NM ++ ((⟨#[32]⟩ : ByteArray) ++ str (Lib.itoa t)) ++ str (hexL key) ++ str (hexL val) = R by rw [← HRR.out, ← HNM.out]; simp only [e1, sT, sS, sF, if_true, Bool.false_eq_true, if_false, str_append, List.flatMap_nil, List.append_nil])
      clear xk xv xn sp sc e1 e2 hf60 HF2 xt
      generalize str (Lib.itoa t) = XT at *
      generalize str (Lib.itoa n) = XN at *
      generalize str (hexL key) = XK at *
      generalize str (hexL val) = XV at *
      go_wp2_with (first
        | ((with_reducible refine (CT.out _ (HTab.out.up hD.up)).mono ?_); rintro e wn ⟨rfl, hb⟩; replace hD := hD.next hb; clear hb; clear a0 a1 a2 a3 a4 a5 b0 b1 b2 b3 b4 b5; obtain ⟨⟨a0, a1, a2, a3, a4, a5⟩, -⟩ := RowAt.c6 (hD.get 0 rfl); obtain ⟨⟨b0, b1, b2, b3, b4, b5⟩, -⟩ := RowAt.c6 (hD.get 1 rfl))
        | ((with_reducible refine (CKx.out _).mono ?_); rintro e wn ⟨rfl, hb⟩; replace hD := hD.next hb; clear hb; clear a0 a1 a2 a3 a4 a5 b0 b1 b2 b3 b4 b5; obtain ⟨⟨a0, a1, a2, a3, a4, a5⟩, -⟩ := RowAt.c6 (hD.get 0 rfl); obtain ⟨⟨b0, b1, b2, b3, b4, b5⟩, -⟩ := RowAt.c6 (hD.get 1 rfl))
        | ((with_reducible refine (CVx.out _).mono ?_); rintro e wn ⟨rfl, hb⟩; replace hD := hD.next hb; clear hb; clear a0 a1 a2 a3 a4 a5 b0 b1 b2 b3 b4 b5; obtain ⟨⟨a0, a1, a2, a3, a4, a5⟩, -⟩ := RowAt.c6 (hD.get 0 rfl); obtain ⟨⟨b0, b1, b2, b3, b4, b5⟩, -⟩ := RowAt.c6 (hD.get 1 rfl))
        | ((with_reducible refine (CNx.out _ (HTab.out.up hD.up)).mono ?_); rintro e wn ⟨rfl, hb⟩; replace hD := hD.next hb; clear hb; clear a0 a1 a2 a3 a4 a5 b0 b1 b2 b3 b4 b5; obtain ⟨⟨a0, a1, a2, a3, a4, a5⟩, -⟩ := RowAt.c6 (hD.get 0 rfl); obtain ⟨⟨b0, b1, b2, b3, b4, b5⟩, -⟩ := RowAt.c6 (hD.get 1 rfl)))
      refine wp_loop_rounds 1 ?_
      rw [rounds_succ]
      go_wp2_with fail
      go_ret
      exact ⟨by rw [← HG.out]; rfl, hD.up⟩
    · have hf := HFf.out rfl
      subst hf
      have CT := Lib.hid (fun w ht => sc_Itoa t (HTt.out rfl).1 (by have := (HTt.out rfl).2; omega) w ht)
      have xt : (str (Lib.itoa t)).size ≤ 4 := by rw [size_str]; exact itoa_len 3 (HTt.out rfl).1 (by have := HTt.out rfl; omega)
      have z0 : ¬ 9223372036854775807 < (⟨#[32]⟩ : ByteArray).size + (str (Lib.itoa t)).size := by omega
      have z1 : ¬ 9223372036854775807 < (NM).size + ((⟨#[32]⟩ : ByteArray) ++ str (Lib.itoa t)).size := by simp only [ByteArray.size_append]; omega
      have z2 : ¬ 9223372036854775807 < (NM ++ ((⟨#[32]⟩ : ByteArray) ++ str (Lib.itoa t))).size + (str (hexL key)).size := by simp only [ByteArray.size_append]; omega
      have z3 : ¬ 9223372036854775807 < (⟨#[32]⟩ : ByteArray).size + (str (Lib.itoa n)).size := by omega
      have z4 : ¬ 9223372036854775807 < (NM ++ ((⟨#[32]⟩ : ByteArray) ++ str (Lib.itoa t)) ++ str (hexL key)).size + ((⟨#[32]⟩ : ByteArray) ++ str (Lib.itoa n)).size := by simp only [ByteArray.size_append]; omega
      have HG := Lib.hid (show NM ++ ((⟨#[32]⟩ : ByteArray) ++ str (Lib.itoa t)) ++ str (hexL key) ++ ((⟨#[32]⟩ : ByteArray) ++ str (Lib.itoa n)) = R by rw [← HRR.out, ← HNM.out]; simp only [e1, sT, sS, sF, if_true, Bool.false_eq_true, if_false, str_append, List.flatMap_nil, List.append_nil])
      clear xk xv xn sp sc e1 e2 hf60 HF2 xt
      generalize str (Lib.itoa t) = XT at *
      generalize str (Lib.itoa n) = XN at *
      generalize str (hexL key) = XK at *
      generalize str (hexL val) = XV at *
      go_wp2_with (first
        | ((with_reducible refine (CT.out _ (HTab.out.up hD.up)).mono ?_); rintro e wn ⟨rfl, hb⟩; replace hD := hD.next hb; clear hb; clear a0 a1 a2 a3 a4 a5 b0 b1 b2 b3 b4 b5; obtain ⟨⟨a0, a1, a2, a3, a4, a5⟩, -⟩ := RowAt.c6 (hD.get 0 rfl); obtain ⟨⟨b0, b1, b2, b3, b4, b5⟩, -⟩ := RowAt.c6 (hD.get 1 rfl))
        | ((with_reducible refine (CKx.out _).mono ?_); rintro e wn ⟨rfl, hb⟩; replace hD := hD.next hb; clear hb; clear a0 a1 a2 a3 a4 a5 b0 b1 b2 b3 b4 b5; obtain ⟨⟨a0, a1, a2, a3, a4, a5⟩, -⟩ := RowAt.c6 (hD.get 0 rfl); obtain ⟨⟨b0, b1, b2, b3, b4, b5⟩, -⟩ := RowAt.c6 (hD.get 1 rfl))
        | ((with_reducible refine (CVx.out _).mono ?_); rintro e wn ⟨rfl, hb⟩; replace hD := hD.next hb; clear hb; clear a0 a1 a2 a3 a4 a5 b0 b1 b2 b3 b4 b5; obtain ⟨⟨a0, a1, a2, a3, a4, a5⟩, -⟩ := RowAt.c6 (hD.get 0 rfl); obtain ⟨⟨b0, b1, b2, b3, b4, b5⟩, -⟩ := RowAt.c6 (hD.get 1 rfl))
        | ((with_reducible refine (CNx.out _ (HTab.out.up hD.up)).mono ?_); rintro e wn ⟨rfl, hb⟩; replace hD := hD.next hb; clear hb; clear a0 a1 a2 a3 a4 a5 b0 b1 b2 b3 b4 b5; obtain ⟨⟨a0, a1, a2, a3, a4, a5⟩, -⟩ := RowAt.c6 (hD.get 0 rfl); obtain ⟨⟨b0, b1, b2, b3, b4, b5⟩, -⟩ := RowAt.c6 (hD.get 1 rfl)))
      refine wp_loop_rounds 1 ?_
      rw [rounds_succ]
      go_wp2_with fail
      go_ret
      exact ⟨by rw [← HG.out]; rfl, hD.up⟩
    · have hf := HFf.out rfl
      subst hf
      have HG := Lib.hid (show NM = R by rw [← HRR.out, ← HNM.out]; simp only [sT, sS, sF, Bool.false_eq_true, if_false, List.flatMap_nil, List.append_nil])
      clear xk xv xn sp sc e1 e2 hf60 HF2
      generalize str (Lib.itoa n) = XN at *
      generalize str (hexL key) = XK at *
      generalize str (hexL val) = XV at *
      go_wp2_with fail
      refine wp_loop_rounds 1 ?_
      rw [rounds_succ]
      go_wp2_with fail
      go_ret
      exact ⟨by rw [← HG.out]; rfl, hD.up⟩
    · have z1 : ¬ 9223372036854775807 < NM.size + (⟨#[32, 58]⟩ : ByteArray).size := by omega
      have HG := Lib.hid (show str (NL ++ [32, 58] ++ f.flatMap Lib.itoa) = R by rw [← HRR.out]; simp only [sT, sS, sF, if_true, Bool.false_eq_true, if_false, List.append_nil])
      have HS := Lib.hid (show NM ++ (⟨#[32, 58]⟩ : ByteArray) = str (NL ++ [32, 58]) by rw [← HNM.out, e2, str_append])
      have hb2 : (NL ++ [32, 58]).length ≤ 8 := by
        have h1 := hnm
        rw [← HNM.out, size_str] at h1
        rw [List.length_append]
        simp only [List.length_cons, List.length_nil]
        omega
      have LF := Lib.hid (fatesT_len f HF2.out)
      have LA := Lib.hid (show ∀ m, ((f.take m).flatMap Lib.itoa).length ≤ 240 from fun m => by
        have h1 := fatesT_len (f.take m) (fun x hx => HF2.out x (List.mem_of_mem_take hx))
        rw [List.length_take] at h1
        omega)
      clear xk xv xn sp sc e1 e2 CKx CVx CNx HTt HRR HNM
      generalize hX1 : NL ++ [32, 58] = X1 at *
      clear hX1
      go_wp2_with fail
      rw [HS.out]
      go_loopw [4, 53] (fun v4 v53 wr => ∃ m : Nat, m ≤ f.length ∧ v53 = .int .i64 m ∧ v4 = .string (str (X1 ++ (f.take m).flatMap Lib.itoa)) ∧ Hold w wr [rowR w.heap.size (.int .i64 k) [.int .i64 t, .string key, .string val, .int .i64 n, .slice q f.length c], rowR g3 (.string NM) [.bool false, .bool false, .bool false, .bool false, .bool true]]) (fun _ v _ => f.length - (intOf v).toNat)
      case atStart => exact ⟨0, by omega, rfl, by simp, hD⟩
      case round =>
      clear hD a0 a1 a2 a3 a4 a5 b0 b1 b2 b3 b4 b5
      obtain ⟨m, hm, rfl, rfl, hD⟩ := hrel
      have i0 : (0 : Int) ≤ (m : Int) := by omega
      have i2 : (f.length : Int) ≤ 60 := by omega
      by_cases hlt : m < f.length
      · have b1 : (m : Int) < (f.length : Int) := by omega
        obtain ⟨g, o, rfl, e1⟩ := (HA.out.up hD.up) m hlt
        have hx := HF2.out _ (List.getElem_mem hlt)
        have HT := Lib.hid (fatesT_take f m hlt)
        have hlen := LA.out m
        generalize f[m] = x at *
        have C1 := Lib.hid (fun w ht => sc_Itoa x hx.1 (by omega) w ht)
        have xx : (str (Lib.itoa x)).size ≤ 4 := by rw [size_str]; exact itoa_len 3 hx.1 (by omega)
        have z3 : ¬ 9223372036854775807 < (str (X1 ++ (f.take m).flatMap Lib.itoa)).size + (str (Lib.itoa x)).size := by
          rw [size_str (X1 ++ _), List.length_append]; omega
        have HS2 := Lib.hid (show str (X1 ++ (f.take m).flatMap Lib.itoa) ++ str (Lib.itoa x) = str (X1 ++ (f.take (m + 1)).flatMap Lib.itoa) by rw [str_append, HT.out, List.append_assoc])
        clear xx hlen
        generalize str (Lib.itoa x) = XX at *
        generalize (f.take m).flatMap Lib.itoa = FM at *
        go_wp2_with ((with_reducible refine (C1.out _ (HTab.out.up hD.up)).mono ?_); rintro e wn ⟨rfl, hb⟩; replace hD := hD.next hb; clear hb e1)
        go_roundw
        case rel => exact ⟨m + 1, by omega, by go_num, by rw [HS2.out], hD⟩
        case measure => simp [intOf]; omega
      · have hml : m = f.length := by omega
        subst hml
        rw [List.take_length, HG.out]
        go_wp2_with fail
        go_ret
        exact ⟨rfl, hD.up⟩
end Go.Proofs.YtkkgcmnipdkeeaaDoor
