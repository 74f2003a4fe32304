import Derived.Test.YtkkgcmnipdkeeaaDoorScFixed
import Derived.Test.YtkkgcmnipdkeeaaDoorScRef6
import Derived.Test.YtkkgcmnipdkeeaaDoorScRef5
import Derived.Test.YtkkgcmnipdkeeaaDoorScOpen
namespace Go.Proofs.YtkkgcmnipdkeeaaDoor
open Go.RowKit Bw
set_option linter.unusedVariables false
/-- The law's Cut among things held. -/
theorem hold_cut {W w : World} {l : List Res} (h : Hold W w l) {a : ActD} {q : Option Addr} {c : Nat} (ha : ActIn w a q c) :
    Calls Tryd.prog 8 #[actV a q c] w fun e w' => ∃ q' c', e = .returned (actV a.cut q' c') ∧ Hold W w' (l ++ [intsR q' a.cut.f]) := by
  obtain ⟨h1, h2, h3, h4, h5, h6, h7, h8, h9, h10⟩ := ha
  refine (law24_Cut a q c w h10 (by unfold maxLen at *; omega) h6 h7 h8 h3 h4).mono fun e w' ⟨q', c', he, hi, hq, hu⟩ => ⟨q', c', he, ?_⟩
  exact h.add hu (intsR q' a.cut.f) hi (fun k hk => by obtain ⟨x, hx, rfl⟩ := hk; exact hq x hx)
theorem cut_len (a : ActD) : a.cut.f.length ≤ 80 := by
  show (a.f.take 80).length ≤ 80
  rw [List.length_take]; omega
set_option maxHeartbeats 4000000 in
set_option maxRecDepth 100000 in
theorem puts_law (a b : ActD) (qa qb : Option Addr) (ca cb : Nat) (w : World) (ha : ActIn w a qa ca) (hb : ActIn w b qb cb) (ht : Tab w) :
    Calls Tryd.prog 3 #[.agg #[.int .i64 a.k, .int .i64 a.t, .string a.key, .string a.val, .int .i64 a.n, .slice qa a.f.length ca], .agg #[.int .i64 b.k, .int .i64 b.t, .string b.key, .string b.val, .int .i64 b.n, .slice qb b.f.length cb]] w fun e w' => e = .returned (.bool true) ∧ Below w.heap.size w w' := by
  have CA := fun (W w : World) (l : List Res) (h : Hold W w l) (ha : ActIn w a qa ca) => hold_cut h ha
  have CB := fun (W w : World) (l : List Res) (h : Hold W w l) (hb : ActIn w b qb cb) => hold_cut h hb
  have la := cut_len a
  have lb := cut_len b
  simp only [actV] at CA CB
  obtain ⟨x, hx⟩ : ∃ x, a.cut = x := ⟨_, rfl⟩
  obtain ⟨y, hy⟩ : ∃ y, b.cut = y := ⟨_, rfl⟩
  rw [hx] at la CA
  rw [hy] at lb CB
  clear hx hy
  obtain ⟨ak, att, akey, aval, an, af⟩ := a
  obtain ⟨bk, btt, bkey, bval, bn, bf⟩ := b
  have HA := Lib.hid ha
  have HB := Lib.hid hb
  have HT := Lib.hid ht
  clear ha hb ht
  simp only at CA CB ⊢
  replace CA := Lib.hid CA
  replace CB := Lib.hid CB
  obtain ⟨xk, xt, xkey, xval, xn, xf⟩ := x
  obtain ⟨yk, yt, ykey, yval, yn, yf⟩ := y
  simp only at CA CB la lb
  go_enter Tryd.func3, Tryd.ntmps3
  go_upto_region 1 with fail
  have hD := ((Hold.start w).madeRow (.int .i64 ak) [.int .i64 att, .string akey, .string aval, .int .i64 an, .slice qa af.length ca] 24).madeRow (.int .i64 bk) [.int .i64 btt, .string bkey, .string bval, .int .i64 bn, .slice qb bf.length cb] 24
  simp only [World.size_alloc, List.nil_append, List.cons_append] at hD
  generalize (w.alloc _).alloc _ = w0 at *
  have hwg : ¬ w.heap.size = w.heap.size + 1 := by omega
  replace hD : Hold w w0 [rowR w.heap.size (.int .i64 ak) [.int .i64 att, .string akey, .string aval, .int .i64 an, .slice qa af.length ca], rowR (w.heap.size + 1) (.int .i64 bk) [.int .i64 btt, .string bkey, .string bval, .int .i64 bn, .slice qb bf.length cb]] := hD
  obtain ⟨⟨a0, a1, a2, a3, a4, a5⟩, -⟩ := RowAt.c6 (hD.get 0 rfl)
  go_upto_region 2 with ((with_reducible refine (CA.out _ _ _ hD (HA.out.up hD.up)).mono ?_); rintro e w1 ⟨q1, c1, rfl, hw⟩; clear hD a0 a1 a2 a3 a4 a5; have hD := hw; clear hw; obtain ⟨⟨a0, a1, a2, a3, a4, a5⟩, y0, y1, y2, y3, y4, y5⟩ := RowAt.c6 (hD.get 0 rfl))
  replace hD := hD.put6 0 (g := w.heap.size) rfl (.int .i64 xk) (.int .i64 xt) (.string xkey) (.string xval) (.int .i64 xn) (.slice q1 xf.length c1)
  clear a0 a1 a2 a3 a4 a5 y0 y1 y2 y3 y4 y5
  generalize (((((w1.setCell _ _).setCell _ _).setCell _ _).setCell _ _).setCell _ _).setCell _ _ = w2 at *
  obtain ⟨⟨b0, b1, b2, b3, b4, b5⟩, -⟩ := RowAt.c6 (hD.get 1 rfl)
  go_upto_region 3 with ((with_reducible refine (CB.out _ _ _ hD (HB.out.up hD.up)).mono ?_); rintro e w3 ⟨q2, c2, rfl, hw⟩; clear hD b0 b1 b2 b3 b4 b5; have hD := hw; clear hw; obtain ⟨⟨b0, b1, b2, b3, b4, b5⟩, y0, y1, y2, y3, y4, y5⟩ := RowAt.c6 (hD.get 1 rfl))
  replace hD := hD.put6 1 (g := w.heap.size + 1) rfl (.int .i64 yk) (.int .i64 yt) (.string ykey) (.string yval) (.int .i64 yn) (.slice q2 yf.length c2)
  clear b0 b1 b2 b3 b4 b5 y0 y1 y2 y3 y4 y5
  generalize (((((w3.setCell _ _).setCell _ _).setCell _ _).setCell _ _).setCell _ _).setCell _ _ = w4 at *
  replace hD : Hold w w4 [rowR (w.heap.size) (.int .i64 xk) [.int .i64 xt, .string xkey, .string xval, .int .i64 xn, .slice q1 xf.length c1], rowR (w.heap.size + 1) (.int .i64 yk) [.int .i64 yt, .string ykey, .string yval, .int .i64 yn, .slice q2 yf.length c2], intsR q1 xf, intsR q2 yf] := hD
  have IX := (hD.get 2 rfl).1
  have IY := (hD.get 3 rfl).1
  obtain ⟨⟨a0, a1, a2, a3, a4, a5⟩, -⟩ := RowAt.c6 (hD.get 0 rfl)
  obtain ⟨⟨b0, b1, b2, b3, b4, b5⟩, -⟩ := RowAt.c6 (hD.get 1 rfl)
  have HU := Lib.hid hD.up
  clear hD CA CB
  have lx : xf.length ≤ 1099511627776 := by omega
  have ly : yf.length ≤ 1099511627776 := by omega
  have K1 := fun u : Later w4 => script_Right ⟨xk, xt, xkey, xval, xn, xf⟩ lx q1 c1 u.world (IX.up u.up)
  have K2 := fun u : Later w4 => ref24_Right ⟨xk, xt, xkey, xval, xn, xf⟩ lx q1 c1 u.world (IX.up u.up)
  have K3 := fun u : Later w4 => script_Encode ⟨xk, xt, xkey, xval, xn, xf⟩ lx q1 c1 u.world (IX.up u.up)
  have K4 := fun u : Later w4 => ref24_Encode ⟨xk, xt, xkey, xval, xn, xf⟩ lx q1 c1 u.world (IX.up u.up)
  have K5 := fun u : Later w4 => script_Show ⟨xk, xt, xkey, xval, xn, xf⟩ lx q1 c1 u.world (IX.up u.up) (HT.out.up (HU.out.trans u.up))
  have K6 := fun u : Later w4 => ref24_Show ⟨xk, xt, xkey, xval, xn, xf⟩ lx q1 c1 u.world (IX.up u.up)
  have K7 := fun u : Later w4 => script_Same ⟨xk, xt, xkey, xval, xn, xf⟩ ⟨yk, yt, ykey, yval, yn, yf⟩ q1 q2 c1 c2 u.world (IX.up u.up) (IY.up u.up) lx ly
  have K8 := fun u : Later w4 => ref24_Same ⟨xk, xt, xkey, xval, xn, xf⟩ ⟨yk, yt, ykey, yval, yn, yf⟩ q1 q2 c1 c2 u.world (IX.up u.up) (IY.up u.up) lx ly
  have K9 := fun u : Later w4 => law24_fixed u.world (HT.out.up (HU.out.trans u.up))
  have R1 := fun u : Later w4 => law24_Ref ⟨xk, xt, xkey, xval, xn, xf⟩ q1 c1 u.world
  have R2 := fun u : Later w4 => law24_Ref ⟨yk, yt, ykey, yval, yn, yf⟩ q2 c2 u.world
  simp only [actV] at K1 K2 K3 K4 K5 K6 K7 K8 R1 R2
  generalize ActD.right ⟨xk, xt, xkey, xval, xn, xf⟩ = RR at *
  generalize ActD.enc ⟨xk, xt, xkey, xval, xn, xf⟩ = EE at *
  generalize ActD.show' ⟨xk, xt, xkey, xval, xn, xf⟩ = SS at *
  generalize decide (ActD.mk xk xt xkey xval xn xf = ⟨yk, yt, ykey, yval, yn, yf⟩) = DD at *
  replace K1 := Lib.hid K1; replace K2 := Lib.hid K2; replace K3 := Lib.hid K3; replace K4 := Lib.hid K4; replace K5 := Lib.hid K5; replace K6 := Lib.hid K6; replace K7 := Lib.hid K7; replace K8 := Lib.hid K8; replace K9 := Lib.hid K9; replace R1 := Lib.hid R1; replace R2 := Lib.hid R2
  have l0 := Later.cell_of a0; have l1 := Later.cell_of a1; have l2 := Later.cell_of a2; have l3 := Later.cell_of a3; have l4 := Later.cell_of a4; have l5 := Later.cell_of a5
  have m0 := Later.cell_of b0; have m1 := Later.cell_of b1; have m2 := Later.cell_of b2; have m3 := Later.cell_of b3; have m4 := Later.cell_of b4; have m5 := Later.cell_of b5
  have hne := later_ne w4
  clear a0 a1 a2 a3 a4 a5 b0 b1 b2 b3 b4 b5 IX IY lx ly la lb
  refine wp_region_later (by kernel_rfl) (by kernel_rfl) ?_
  repeat (go_big_quiet_step (first
    | (go_at_call 9; with_reducible exact Calls.later (K1.out _))
    | (go_at_call 10; with_reducible exact Calls.later (K2.out _))
    | (go_at_call 12; with_reducible exact Calls.later (K3.out _))
    | (go_at_call 13; with_reducible exact Calls.later (K4.out _))
    | (go_at_call 14; with_reducible exact Calls.later (K5.out _))
    | (go_at_call 15; with_reducible exact Calls.later (K6.out _))
    | (go_at_call 16; with_reducible exact Calls.later (K7.out _))
    | (go_at_call 17; with_reducible exact Calls.later (K8.out _))
    | (go_at_call 18; with_reducible exact Calls.later (K9.out _))
    | (go_at_call 11; first | with_reducible exact Calls.later (R1.out _) | with_reducible exact Calls.later (R2.out _))))
  refine wpQuiet_nil ?_
  intro w9 hw9
  obtain ⟨u9, rfl⟩ := hw9
  have hu9 := HU.out.trans u9.up
  clear l0 l1 l2 l3 l4 l5 m0 m1 m2 m3 m4 m5 hne
  generalize u9.world = w9 at *
  go_wp2_with fail
  go_ret
  exact ⟨rfl, hu9⟩
end Go.Proofs.YtkkgcmnipdkeeaaDoor
