import Derived.Test.YtbjnklgicakndaaPgWalk7
namespace Go.Proofs.Ytbjnklgicakndaa
open Go.RowKit Bw
set_option linter.unusedVariables false

/-- A record with the place of its pairs. -/
structure RecB where
  r : RecD
  pa : Option Addr
  ca : Nat

/-- Where the records of an argument lie. -/
def RecsAt (w : World) (p : Option Addr) (l : List RecB) : Prop :=
  ∀ (i : Nat) (hi : i < l.length), ∃ g o, p = some ⟨g, o, none⟩ ∧ w.cell? ⟨g, o + i * 8, none⟩ = some (.int .i64 l[i].r.k) ∧ w.cell? ⟨g, o + i * 8 + 1, none⟩ = some (.int .i64 l[i].r.t) ∧
    w.cell? ⟨g, o + i * 8 + 2, none⟩ = some (.string l[i].r.key) ∧ w.cell? ⟨g, o + i * 8 + 3, none⟩ = some (.string l[i].r.val) ∧ w.cell? ⟨g, o + i * 8 + 4, none⟩ = some (.int .i64 l[i].r.p) ∧ w.cell? ⟨g, o + i * 8 + 5, none⟩ = some (.int .i64 l[i].r.u) ∧
    w.cell? ⟨g, o + i * 8 + 6, none⟩ = some (.int .i64 l[i].r.n) ∧ w.cell? ⟨g, o + i * 8 + 7, none⟩ = some (.slice l[i].pa l[i].r.l.length l[i].ca)
def RecOk (w : World) (x : RecB) : Prop := PairsAt w x.pa x.r.l ∧ x.r.l.length ≤ 1099511627776 ∧ -9223372036854775808 ≤ x.r.u

theorem RecsAt.up {w w' : World} {p : Option Addr} {l : List RecB} (h : RecsAt w p l) (hu : Up w w') : RecsAt w' p l := fun i hi => by
  obtain ⟨g, o, hp, h0, h1, h2, h3, h4, h5, h6, h7⟩ := h i hi
  have hg := World.block_lt_of_cell? w _ h0
  have key : ∀ q v, w.cell? ⟨g, q, none⟩ = some v → w'.cell? ⟨g, q, none⟩ = some v := fun q v hc => (Below.cell (p := ⟨g, q, none⟩) hu hg).trans hc
  exact ⟨g, o, hp, key _ _ h0, key _ _ h1, key _ _ h2, key _ _ h3, key _ _ h4, key _ _ h5, key _ _ h6, key _ _ h7⟩
theorem RecOk.up {w w' : World} {x : RecB} (h : RecOk w x) (hu : Up w w') : RecOk w' x := ⟨h.1.up hu, h.2⟩

def ofT (r : RecD) (v : Int × Int × Int) : Int × Int × Int := if ofE r = 0 then (r.p, r.u, r.n) else v
def latest : Int × Int × Int → List RecB → Int × Int × Int
  | v, [] => v
  | v, x :: l => latest (ofT x.r v) l

set_option maxHeartbeats 2000000 in
theorem prog_Latest (l : List RecB) (pa : Option Addr) (ca : Nat) (w : World) (hA : RecsAt w pa l) (hO : ∀ x ∈ l, RecOk w x) (la : l.length ≤ 1099511627776) :
    Calls Try.prog 27 #[.slice pa l.length ca] w fun e w' => e = .returned (progV (latest (0, 0, 0) l).1 (latest (0, 0, 0) l).2.1 (latest (0, 0, 0) l).2.2) ∧ Below w.heap.size w w' := by
  obtain ⟨L, hL⟩ : ∃ L, latest (0, 0, 0) l = L := ⟨_, rfl⟩
  rw [hL]
  have HL := Lib.hid hL; clear hL
  have HA := Lib.hid hA; have HO := Lib.hid hO; clear hA hO
  unfold progV
  have hu := Up.refl w
  go_enter Try.func27, Try.ntmps27
  go_upto_region 2 with fail
  have rr := ((RowAt.made w 23 [.int .i64 0, .int .i64 0, .int .i64 0]).alloc (.cells #[.int .i64 0, .int .i64 0, .int .i64 0] 23))
  have rl := (RowAt.made (w.alloc (.cells #[.int .i64 0, .int .i64 0, .int .i64 0] 23)) 23 [.int .i64 0, .int .i64 0, .int .i64 0])
  simp at rr rl
  replace hu := (hu.alloc (.cells #[.int .i64 0, .int .i64 0, .int .i64 0] 23)).alloc (.cells #[.int .i64 0, .int .i64 0, .int .i64 0] 23)
  generalize hw3 : (w.alloc (.cells #[.int .i64 0, .int .i64 0, .int .i64 0] 23)).alloc (.cells #[.int .i64 0, .int .i64 0, .int .i64 0] 23) = w3 at *
  clear hw3
  go_wp2_with fail
  go_loopw [10] (fun v wr => ∃ (k : Nat) (c : Int × Int × Int), k ≤ l.length ∧ v = .int .i64 k ∧ latest (0, 0, 0) l = latest c (l.drop k) ∧ RowAt wr w.heap.size [.int .i64 0, .int .i64 0, .int .i64 0] ∧ RowAt wr (w.heap.size + 1) [.int .i64 c.1, .int .i64 c.2.1, .int .i64 c.2.2] ∧ Up w wr) (fun v _ => l.length - (intOf v).toNat)
  case atStart => exact ⟨0, (0, 0, 0), by omega, rfl, rfl, rr, rl, hu⟩
  case round =>
    clear rr rl hu
    obtain ⟨k, ⟨c1, c2, c3⟩, hk, rfl, htk, rr, rl, hu⟩ := hrel
    have HT := Lib.hid htk; clear htk
    by_cases hlt : k < l.length
    · obtain ⟨ga, oa, rfl, a0, a1, a2, a3, a4, a5, a6, a7⟩ := (HA.out.up hu) k hlt
      have hd := List.drop_eq_getElem_cons hlt
      obtain ⟨o1, o2, o3⟩ := HO.out _ (List.getElem_mem hlt)
      have hT := HT.out
      rw [hd] at hT
      clear hd HT
      generalize hgx : l[k] = x at *
      clear hgx
      obtain ⟨⟨xk, xt, xkey, xval, xp, xu, xn, xl⟩, xpa, xca⟩ := x
      simp only at a0 a1 a2 a3 a4 a5 a6 a7 o1 o2 o3
      have i0 : (0 : Int) ≤ (k : Int) := by omega
      have i1 : (k : Int) < (l.length : Int) := by omega
      have i2 : (k : Int) < 1099511627776 := by omega
      have HT := Lib.hid (show latest (0, 0, 0) l = latest (ofT ⟨xk, xt, xkey, xval, xp, xu, xn, xl⟩ (c1, c2, c3)) (l.drop (k + 1)) from hT)
      clear hT
      have c1' := fun w1 (h : Up w w1) => prog_Of ⟨xk, xt, xkey, xval, xp, xu, xn, xl⟩ xpa xca w1 (o1.up h) o2 o3
      have hV : ofV ⟨xk, xt, xkey, xval, xp, xu, xn, xl⟩ = if ofE ⟨xk, xt, xkey, xval, xp, xu, xn, xl⟩ = 0 then progV xp xu xn else progV 0 0 0 := rfl
      have hE : ofT ⟨xk, xt, xkey, xval, xp, xu, xn, xl⟩ (c1, c2, c3) = if ofE ⟨xk, xt, xkey, xval, xp, xu, xn, xl⟩ = 0 then (xp, xu, xn) else (c1, c2, c3) := rfl
      generalize ofV ⟨xk, xt, xkey, xval, xp, xu, xn, xl⟩ = V at *
      generalize ofE ⟨xk, xt, xkey, xval, xp, xu, xn, xl⟩ = E at *
      generalize ofT ⟨xk, xt, xkey, xval, xp, xu, xn, xl⟩ (c1, c2, c3) = T at *
      unfold recV progV at *
      simp only at c1'
      clear o1 o2 o3
      by_cases hE0 : E = 0
      · subst hE0
        simp at hV hE
        subst hV hE
        have C1 := Lib.hid c1'; clear c1'
        replace hu := hu.alloc (.cells #[.int .i64 xk, .int .i64 xt, .string xkey, .string xval, .int .i64 xp, .int .i64 xu, .int .i64 xn, .slice xpa xl.length xca] 41)
        replace rr := rr.alloc (.cells #[.int .i64 xk, .int .i64 xt, .string xkey, .string xval, .int .i64 xp, .int .i64 xu, .int .i64 xn, .slice xpa xl.length xca] 41)
        replace rl := rl.alloc (.cells #[.int .i64 xk, .int .i64 xt, .string xkey, .string xval, .int .i64 xp, .int .i64 xu, .int .i64 xn, .slice xpa xl.length xca] 41)
        go_wp2_with ((with_reducible refine (C1.out _ ?_).mono ?_); (· exact hu); rintro e w9 ⟨rfl, hw9⟩; replace rr := rr.up hw9; replace rl := rl.up hw9; obtain ⟨p0, p1, p2, z0, z1, z2⟩ := rl.c3; have hrl := rl.lt; have hne : ¬ w9.heap.size = w.heap.size + 1 := (by omega); have hne2 : ¬ w.heap.size + 1 = w9.heap.size := (by omega); replace hu := hu.next hw9; clear hw9)
        refine ⟨⟨k + 1, (xp, xu, xn), by omega, by go_num, HT.out, ?_, ?_, ?_⟩, by simp [intOf]; omega⟩
        · exact (((rr.other (w.heap.size + 1) 0 _ (by omega)).other (w.heap.size + 1) 1 _ (by omega)).other (w.heap.size + 1) 2 _ (by omega)).alloc _
        · exact (((rl.set 0 _ (by simp)).set 1 _ (by simp)).set 2 _ (by simp)).alloc _
        · repeat (first | refine Up.setCell ?_ _ _ _ (by omega) | refine Up.alloc ?_ _)
          exact hu
      · have hEb : (E == 0) = false := by simp [hE0]
        rw [if_neg hE0] at hV hE
        subst hV hE
        have C1 := Lib.hid c1'; clear c1'
        replace hu := hu.alloc (.cells #[.int .i64 xk, .int .i64 xt, .string xkey, .string xval, .int .i64 xp, .int .i64 xu, .int .i64 xn, .slice xpa xl.length xca] 41)
        replace rr := rr.alloc (.cells #[.int .i64 xk, .int .i64 xt, .string xkey, .string xval, .int .i64 xp, .int .i64 xu, .int .i64 xn, .slice xpa xl.length xca] 41)
        replace rl := rl.alloc (.cells #[.int .i64 xk, .int .i64 xt, .string xkey, .string xval, .int .i64 xp, .int .i64 xu, .int .i64 xn, .slice xpa xl.length xca] 41)
        go_wp2_with ((with_reducible refine (C1.out _ ?_).mono ?_); (· exact hu); rintro e w9 ⟨rfl, hw9⟩; replace rr := rr.up hw9; replace rl := rl.up hw9; replace hu := hu.next hw9; clear hw9)
        refine ⟨⟨k + 1, (c1, c2, c3), by omega, by go_num, HT.out, rr.alloc _, rl.alloc _, hu.alloc _⟩, by simp [intOf]; omega⟩
    · have hT := HT.out
      rw [List.drop_of_length_le (by omega)] at hT
      have hLc : L = (c1, c2, c3) := HL.out.symm.trans hT
      subst hLc
      obtain ⟨p0, p1, p2, -⟩ := rl.c3
      obtain ⟨r0, r1, r2, z0, z1, z2⟩ := rr.c3
      have hrl := rl.lt
      go_wp2_with fail
      refine bodyPost_ret (v := progV c1 c2 c3) (by simp [results, Try.results27, go_sem, progV, recV, *]) rfl ⟨rfl, ?_⟩
      repeat (first | refine Up.setCell ?_ _ _ _ (by first | omega | (simp; done) | (simp; omega)) | refine Up.alloc ?_ _)
      exact hu
end Go.Proofs.Ytbjnklgicakndaa
