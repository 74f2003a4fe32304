import Derived.Test.YtiekjjejoekdeaaRfWalk
namespace Bw
open Go Go.RowKit
set_option linter.unusedVariables false
theorem eqOK : ROk (Eq : World → World → Prop) := ⟨fun _ => rfl, Eq.trans⟩
theorem laterEq_of {B : Nat} {w w1 : World} {p : Addr} {v : Value} (hp : p.block < B) (h : w.cell? p = some v) (h1 : Below B w w1) : ∀ u : LaterR Eq w1, u.world.cell? p = some v := fun u => by
  obtain ⟨_, rfl⟩ := u; exact (Below.cell h1 hp).trans h
section
variable {W w : World} {l : List Res} {P : Program} {ops : Array Oper} {rest : List Oper} {o : Oper} {a : Act} {Q : Exit → Act → World → Prop}
/-- append of all of a slice of the law's own to an empty one of the law's own. -/
theorem wpList_copyZ (hgd : o.guard = none) (s x : Operand) (t : TypeId) (ho : o.op = .call { callee := .builtin .append, args := #[s, x], argTypes := #[t, t] })
    (e : TypeId) (i : TypeInfo) (z : Value) (size bytes : Nat) (ht : P.underlying t = some (.slice e)) (hi : P.info? e = some i) (hz : i.zero = some z) (hsize : i.size = size) (hby : i.bytes = bytes) (hzs : z.cells.size = size) (hsz : 0 < size)
    (hH : Hold W w l) (j k : Nat) (v vx : Value) (m : Nat) (xs : List Value) (hj : l[j]? = some (ownZ e size v 0 [])) (hk : l[k]? = some (ownZ e size vx m xs)) (hs : a.eval s = v) (hx : a.eval x = vx) (hu : ∀ u ∈ xs, u.oneCell' = true) (h63 : m ≤ maxLen) (hbytes : m * bytes ≤ 140737488355328)
    (h : ∀ q cap w', Hold W w' (l.set j (ownZ e size (.slice q m cap) m xs)) → wpList P ops Q rest (a.put o.dst (.slice q m cap)) w') : wpList P ops Q (o :: rest) a w := by
  replace h : ∀ v' w', Hold W w' (l.set j (ownZ e size v' m xs)) → wpList P ops Q rest (a.put o.dst v') w' := fun v' w' hw => by
    obtain ⟨q, cap, rfl, -, -⟩ := ownZ_form (hw.get j (R := ownZ e size v' m xs) (by rw [List.getElem?_set_self (List.getElem?_eq_some_iff.1 hj).1]))
    exact h q cap w' hw
  have hX : w.ownsRow 0 e size vx m xs := hH.get k hk
  have hV : w.ownsRow 0 e size v 0 [] := hH.get j hj
  rcases hX.2 with ⟨rfl, h0⟩ | ⟨g, cap, cur, rfl, -, -, -⟩
  · subst h0
    have hxs : xs = [] := by have := hX.1; rw [Nat.zero_mul] at this; exact List.length_eq_zero_iff.1 this
    subst hxs
    refine wpList_plain hgd fun K hK => ?_
    have hr := run_append_owned_none (P := P) (w := w) 0 t o.type e i size ht hi v 0 [] hV
    unfold Oper.wp execOp
    simp only [ho, resolve, invoke, builtin, Sem.run_bind, Sem.run_pure, Result.andThen_ok, List.map_toArray, List.map_cons, List.map_nil, hs, hx, hr]
    refine hK _ _ (h v w ?_)
    have e1 : l.set j (ownZ e size v 0 []) = l := by
      obtain ⟨hl, hv⟩ := List.getElem?_eq_some_iff.1 hj
      rw [← hv]; exact List.set_getElem_self hl
    rw [e1]; exact hH
  · refine wpList_append_own_at w hgd s x t ho 0 e i z size bytes ht hi hz hsize hby hzs hsz v 0 [] hs hV ⟨g, 0, none⟩ m cap xs hx hX.1 (fun j u hju => ?_) hu (by rw [Nat.zero_add]; exact h63) (by rw [Nat.zero_add]; exact hbytes) (Nat.zero_le _) ?_
    · have hadd : (⟨g, 0, none⟩ : Addr).add j = ⟨g, j, none⟩ := by unfold Addr.add; split <;> simp_all
      rw [hadd, World.ownsRow.cellAt hX j (by have := (List.getElem?_eq_some_iff.1 hju).1; rw [hX.1] at this; exact this), hju]
    · intro v' w' how hgrow _ hloc
      rw [Nat.zero_add, List.nil_append] at how
      refine h v' w' (hH.step j hj (ownZ e size _ _ _) how ?_ ((AllS.refl _ w).grown hgrow (fun k hk => .inl hk)))
      intro k hk
      have hk' : v'.ownBlock = some k := hk
      rcases hloc with e1 | e1
      · exact .inl (e1.symm.trans hk')
      · rw [hk'] at e1
        injection e1 with e1
        exact .inr (by omega)
end
/-- What reads as before at the row's two cells. -/
def SameRow (g : Nat) (w w' : World) : Prop := w'.cell? ⟨g, 0, none⟩ = w.cell? ⟨g, 0, none⟩ ∧ w'.cell? ⟨g, 1, none⟩ = w.cell? ⟨g, 1, none⟩
theorem sameRow_ok (g : Nat) : ROk (SameRow g) := ⟨fun _ => ⟨rfl, rfl⟩, fun h k => ⟨k.1.trans h.1, k.2.trans h.2⟩⟩
theorem sameRow_of {W w w' : World} {l l' : List Res} {g : Nat} {a b : Value} (h : Hold W w l) (h' : Hold W w' l') (hi : l[1]? = some (rowR g a [b])) (hi' : l'[1]? = some (rowR g a [b])) : SameRow g w w' := by
  obtain ⟨p0, p1, -⟩ := h.row2 1 hi
  obtain ⟨q0, q1, -⟩ := h'.row2 1 hi'
  exact ⟨q0.trans p0.symm, q1.trans p1.symm⟩
theorem laterRow0 {g : Nat} {w w1 : World} {v : Value} (h : w.cell? ⟨g, 0, none⟩ = some v) (h1 : SameRow g w w1) : ∀ u : LaterR Eq w1, u.world.cell? ⟨g, 0, none⟩ = some v := fun u => by
  obtain ⟨_, rfl⟩ := u; exact h1.1.trans h
theorem laterRow1 {g : Nat} {w w1 : World} {v : Value} (h : w.cell? ⟨g, 1, none⟩ = some v) (h1 : SameRow g w w1) : ∀ u : LaterR Eq w1, u.world.cell? ⟨g, 1, none⟩ = some v := fun u => by
  obtain ⟨_, rfl⟩ := u; exact h1.2.trans h
theorem textsK_one (n : Nat) (K : Int → ByteArray) : ∀ u ∈ textsK n K, u.oneCell' = true := by
  intro u hu
  obtain ⟨j, -, rfl⟩ := List.mem_map.1 hu
  rfl
end Bw
namespace Go.Proofs.Ytiekjjejoekdeaa
open Go.RowKit Bw
set_option linter.unusedVariables false
variable {W w : World} {X Y : Res} {T : List Res} {g : Nat} {vL vW : Value} {d : DiskD}
set_option maxHeartbeats 4000000 in
theorem ref4_Copy (h : Hold W w (refs X g vL vW d [Y])) (hok : d.Ok) (hl : d.W.length ≤ 1000) :
    Calls Try.prog 12 #[.pointer (some ⟨g, 0, none⟩)] w fun e w' => ∃ g' vL' vW', e = .returned (.pointer (some ⟨g', 0, none⟩)) ∧ Hold W w' (refs Y g' vL' vW' d [X]) := by
  obtain ⟨iS, s1, s2, s3, s4⟩ := info_parts infoRS
  obtain ⟨iW, t1, t2, t3, t4⟩ := info_parts infoRW
  have hn := hok.n2
  obtain ⟨x0, x1, -, -⟩ := refs_row h
  go_enter Try.func12, Try.ntmps12
  go_upto_region 1 with fail
  refine wp_region_two Eq (SameRow g) (eq_ok (sameRow_ok g)) (by kernel_rfl) (by kernel_rfl) (by kernel_rfl) ?_
  have hD := h.next ((Below.refl _ w).drew)
  replace x0 : w.drew.cell? ⟨g, 0, none⟩ = some vL := x0
  replace x1 : w.drew.cell? ⟨g, 1, none⟩ = some vW := x1
  clear h
  generalize w.drew = w1 at *
  refine wpAnyTS_quiet 1 4 11 17 (by rfl) (by kernel_rfl) (fun _ _ _ _ _ h => h) (by kernel_rfl) (by kernel_rfl) ?_
  apply Exists.intro
  refine ⟨fun w2 hw2 => ?_, ?_⟩
  · have l0 := laterRow0 x0 hw2
    have hne := laterR_ne (R := Eq) eqOK w2
    simp only [List.drop_succ_cons, List.drop_zero, List.take_succ_cons, List.take_zero]
    repeat (go_big_quiet_step (fail))
    exact wpQuiet_nil rfl
  refine wpAnyTS_quiet 7 4 7 17 (by rfl) (by kernel_rfl) (fun _ _ _ _ _ h => h) (by kernel_rfl) (by kernel_rfl) ?_
  apply Exists.intro
  refine ⟨fun w2 hw2 => ?_, ?_⟩
  · have l0 := laterRow1 x1 hw2
    have hne := laterR_ne (R := Eq) eqOK w2
    simp only [List.drop_succ_cons, List.drop_zero, List.take_succ_cons, List.take_zero]
    repeat (go_big_quiet_step (fail))
    exact wpQuiet_nil rfl
  clear x0 x1
  refine wpAnyTS_some 0 [6] 6 (by rfl) (by kernel_rfl) (by kernel_rfl) ?_
  rintro w2 rfl
  refine ⟨?_, ?_, trivial⟩
  · simp only [List.drop_succ_cons, List.drop_zero, List.take_succ_cons, List.take_zero]
    go_wp2_with fail
    refine ⟨.inr (sameRow_of hD (hD.next ((Below.refl _ _).alloc (Nat.le_refl _) _)) rfl rfl), ?_⟩
    replace hD : Hold W _ [X, rowR g vL [vW], rL vL d, rW vW d.W, Y, ownZ 9 1 (.slice (some ⟨w1.heap.size, 0, none⟩) 0 0) 0 []] := hD.madeZ 9 1
    refine wpAnyTS_some 5 [6] 5 (by rfl) (by kernel_rfl) (by kernel_rfl) ?_
    rintro w2 rfl
    refine ⟨?_, ?_, trivial⟩
    · simp only [List.drop_succ_cons, List.drop_zero, List.take_succ_cons, List.take_zero]
      go_wp2_with (at_builtin; refine wpList_copyZ rfl _ _ 48 rfl 9 iS (.string ⟨#[]⟩) 1 16 (by kernel_rfl) s1 s2 s3 s4 rfl (by decide) hD 5 2 _ vL d.n (textsK d.n d.K) rfl rfl rfl rfl (textsK_one _ _) (by unfold maxLen; omega) (by omega) ?_; intro qL cL w5 hw)
      refine ⟨.inr (sameRow_of hD hw rfl rfl), ?_⟩
      replace hD : Hold W w5 [X, rowR g vL [vW], rL vL d, rW vW d.W, Y, rL (.slice qL d.n cL) d] := hw
      clear hw
      refine wpAnyTS_some 6 [] 4 (by rfl) (by kernel_rfl) (by kernel_rfl) ?_
      rintro w2 rfl
      refine ⟨?_, trivial⟩
      simp only [List.drop_succ_cons, List.drop_zero, List.take_succ_cons, List.take_zero]
      go_wp2_with fail
      refine ⟨.inr (sameRow_of hD (hD.next ((Below.refl _ _).alloc (Nat.le_refl _) _)) rfl rfl), ?_⟩
      replace hD : Hold W _ [X, rowR g vL [vW], rL vL d, rW vW d.W, Y, rL (.slice qL d.n cL) d, rW (.slice (some ⟨w5.heap.size, 0, none⟩) 0 0) []] := hD.madeZ 68 2
      refine wpAnyTS_some 11 [] 3 (by rfl) (by kernel_rfl) (by kernel_rfl) ?_
      rintro w2 rfl
      refine ⟨?_, trivial⟩
      simp only [List.drop_succ_cons, List.drop_zero, List.take_succ_cons, List.take_zero]
      go_wp2_with (at_builtin; refine wpList_copyZ rfl _ _ 59 rfl 68 iW (.agg #[.int .i64 0, .string ⟨#[]⟩]) 2 24 (by kernel_rfl) t1 t2 t3 t4 rfl (by decide) hD 6 3 _ vW d.W.length (cellsW d.W) rfl rfl rfl rfl (cellsW_one _) (by unfold maxLen; omega) (by omega) ?_; intro qW cW w6 hw)
      refine ⟨.inr (sameRow_of hD hw rfl rfl), ?_⟩
      replace hD : Hold W w6 [X, rowR g vL [vW], rL vL d, rW vW d.W, Y, rL (.slice qL d.n cL) d, rW (.slice qW d.W.length cW) d.W] := hw
      clear hw
      refine wpAnyTS_quiet 12 1 2 17 (by rfl) (by kernel_rfl) (fun _ _ _ _ _ h => h) (by kernel_rfl) (by kernel_rfl) ?_
      apply Exists.intro
      refine ⟨fun w2 hw2 => ?_, ?_⟩
      · have hne := laterR_ne (R := Eq) eqOK w2
        simp only [List.drop_succ_cons, List.drop_zero, List.take_succ_cons, List.take_zero]
        repeat (go_big_quiet_step (fail))
        exact wpQuiet_nil rfl
      refine wpAnyTS_some 13 [] 1 (by rfl) (by kernel_rfl) (by kernel_rfl) ?_
      rintro w2 rfl
      refine ⟨?_, trivial⟩
      simp only [List.drop_succ_cons, List.drop_zero, List.take_succ_cons, List.take_zero]
      go_wp2_with fail
      refine ⟨.inr (sameRow_of hD (hD.next ((Below.refl _ _).alloc (Nat.le_refl _) _)) rfl rfl), ?_⟩
      have hz := hD.madeRow (.slice qL d.n cL) [(.slice qW d.W.length cW)] 61
      have hz2 := (hz.sub (l' := [X, Y, rL (.slice qL d.n cL) d, rW (.slice qW d.W.length cW) d.W, rowR w6.heap.size (.slice qL d.n cL) [.slice qW d.W.length cW]]) (List.Sublist.cons_cons X (List.drop_sublist 3 [_, _, _, _, _, _, _]))).perm (l' := [Y, rowR w6.heap.size (.slice qL d.n cL) [.slice qW d.W.length cW], rL (.slice qL d.n cL) d, rW (.slice qW d.W.length cW) d.W, X]) ((List.perm_append_singleton X [_, _, _, _]).symm.trans (List.Perm.cons Y (List.perm_middle (l₁ := [_, _]) (l₂ := [X]))))
      clear hz
      generalize w6.heap.size = g9 at *
      generalize w6.alloc _ = w9 at *
      refine wpAnyTS_quiet 14 1 0 17 (by rfl) (by kernel_rfl) (fun _ _ _ _ _ h => h) (by kernel_rfl) (by kernel_rfl) ?_
      apply Exists.intro
      refine ⟨fun w2 hw2 => ?_, ?_⟩
      · have hne := laterR_ne (R := Eq) eqOK w2
        simp only [List.drop_succ_cons, List.drop_zero, List.take_succ_cons, List.take_zero]
        repeat (go_big_quiet_step (fail))
        exact wpQuiet_nil rfl
      refine wpAnyTS_done (by kernel_rfl) ?_
      rintro w2 rfl
      go_wp2_with fail
      go_ret
      exact ⟨g9, _, _, rfl, hz2⟩
    · simp only [List.drop_succ_cons, List.drop_zero, List.take_succ_cons, List.take_zero]
      go_wp2_with fail
      refine ⟨.inr (sameRow_of hD (hD.next ((Below.refl _ _).alloc (Nat.le_refl _) _)) rfl rfl), ?_⟩
      have hz := hD.madeZ 68 2
      rw [World.size_alloc] at hz
      replace hD : Hold W _ [X, rowR g vL [vW], rL vL d, rW vW d.W, Y, ownZ 9 1 (.slice (some ⟨w1.heap.size, 0, none⟩) 0 0) 0 [], rW (.slice (some ⟨w1.heap.size + 1, 0, none⟩) 0 0) []] := hz
      clear hz
      refine wpAnyTS_some 5 [] 4 (by rfl) (by kernel_rfl) (by kernel_rfl) ?_
      rintro w2 rfl
      refine ⟨?_, trivial⟩
      simp only [List.drop_succ_cons, List.drop_zero, List.take_succ_cons, List.take_zero]
      go_wp2_with (at_builtin; refine wpList_copyZ rfl _ _ 48 rfl 9 iS (.string ⟨#[]⟩) 1 16 (by kernel_rfl) s1 s2 s3 s4 rfl (by decide) hD 5 2 _ vL d.n (textsK d.n d.K) rfl rfl rfl rfl (textsK_one _ _) (by unfold maxLen; omega) (by omega) ?_; intro qL cL w5 hw)
      refine ⟨.inr (sameRow_of hD hw rfl rfl), ?_⟩
      replace hD : Hold W w5 [X, rowR g vL [vW], rL vL d, rW vW d.W, Y, rL (.slice qL d.n cL) d, rW (.slice (some ⟨w1.heap.size + 1, 0, none⟩) 0 0) []] := hw
      clear hw
      refine wpAnyTS_some 11 [] 3 (by rfl) (by kernel_rfl) (by kernel_rfl) ?_
      rintro w2 rfl
      refine ⟨?_, trivial⟩
      simp only [List.drop_succ_cons, List.drop_zero, List.take_succ_cons, List.take_zero]
      go_wp2_with (at_builtin; refine wpList_copyZ rfl _ _ 59 rfl 68 iW (.agg #[.int .i64 0, .string ⟨#[]⟩]) 2 24 (by kernel_rfl) t1 t2 t3 t4 rfl (by decide) hD 6 3 _ vW d.W.length (cellsW d.W) rfl rfl rfl rfl (cellsW_one _) (by unfold maxLen; omega) (by omega) ?_; intro qW cW w6 hw)
      refine ⟨.inr (sameRow_of hD hw rfl rfl), ?_⟩
      replace hD : Hold W w6 [X, rowR g vL [vW], rL vL d, rW vW d.W, Y, rL (.slice qL d.n cL) d, rW (.slice qW d.W.length cW) d.W] := hw
      clear hw
      refine wpAnyTS_quiet 12 1 2 17 (by rfl) (by kernel_rfl) (fun _ _ _ _ _ h => h) (by kernel_rfl) (by kernel_rfl) ?_
      apply Exists.intro
      refine ⟨fun w2 hw2 => ?_, ?_⟩
      · have hne := laterR_ne (R := Eq) eqOK w2
        simp only [List.drop_succ_cons, List.drop_zero, List.take_succ_cons, List.take_zero]
        repeat (go_big_quiet_step (fail))
        exact wpQuiet_nil rfl
      refine wpAnyTS_some 13 [] 1 (by rfl) (by kernel_rfl) (by kernel_rfl) ?_
      rintro w2 rfl
      refine ⟨?_, trivial⟩
      simp only [List.drop_succ_cons, List.drop_zero, List.take_succ_cons, List.take_zero]
      go_wp2_with fail
      refine ⟨.inr (sameRow_of hD (hD.next ((Below.refl _ _).alloc (Nat.le_refl _) _)) rfl rfl), ?_⟩
      have hz := hD.madeRow (.slice qL d.n cL) [(.slice qW d.W.length cW)] 61
      have hz2 := (hz.sub (l' := [X, Y, rL (.slice qL d.n cL) d, rW (.slice qW d.W.length cW) d.W, rowR w6.heap.size (.slice qL d.n cL) [.slice qW d.W.length cW]]) (List.Sublist.cons_cons X (List.drop_sublist 3 [_, _, _, _, _, _, _]))).perm (l' := [Y, rowR w6.heap.size (.slice qL d.n cL) [.slice qW d.W.length cW], rL (.slice qL d.n cL) d, rW (.slice qW d.W.length cW) d.W, X]) ((List.perm_append_singleton X [_, _, _, _]).symm.trans (List.Perm.cons Y (List.perm_middle (l₁ := [_, _]) (l₂ := [X]))))
      clear hz
      generalize w6.heap.size = g9 at *
      generalize w6.alloc _ = w9 at *
      refine wpAnyTS_quiet 14 1 0 17 (by rfl) (by kernel_rfl) (fun _ _ _ _ _ h => h) (by kernel_rfl) (by kernel_rfl) ?_
      apply Exists.intro
      refine ⟨fun w2 hw2 => ?_, ?_⟩
      · have hne := laterR_ne (R := Eq) eqOK w2
        simp only [List.drop_succ_cons, List.drop_zero, List.take_succ_cons, List.take_zero]
        repeat (go_big_quiet_step (fail))
        exact wpQuiet_nil rfl
      refine wpAnyTS_done (by kernel_rfl) ?_
      rintro w2 rfl
      go_wp2_with fail
      go_ret
      exact ⟨g9, _, _, rfl, hz2⟩
  · simp only [List.drop_succ_cons, List.drop_zero, List.take_succ_cons, List.take_zero]
    go_wp2_with fail
    refine ⟨.inr (sameRow_of hD (hD.next ((Below.refl _ _).alloc (Nat.le_refl _) _)) rfl rfl), ?_⟩
    replace hD : Hold W _ [X, rowR g vL [vW], rL vL d, rW vW d.W, Y, rW (.slice (some ⟨w1.heap.size, 0, none⟩) 0 0) []] := hD.madeZ 68 2
    refine wpAnyTS_some 0 [] 5 (by rfl) (by kernel_rfl) (by kernel_rfl) ?_
    rintro w2 rfl
    refine ⟨?_, trivial⟩
    simp only [List.drop_succ_cons, List.drop_zero, List.take_succ_cons, List.take_zero]
    go_wp2_with fail
    refine ⟨.inr (sameRow_of hD (hD.next ((Below.refl _ _).alloc (Nat.le_refl _) _)) rfl rfl), ?_⟩
    have hz := hD.madeZ 9 1
    rw [World.size_alloc] at hz
    replace hD := hz.perm (l' := [X, rowR g vL [vW], rL vL d, rW vW d.W, Y, ownZ 9 1 (.slice (some ⟨w1.heap.size + 1, 0, none⟩) 0 0) 0 [], rW (.slice (some ⟨w1.heap.size, 0, none⟩) 0 0) []]) ((List.Perm.append_left [X, rowR g vL [vW], rL vL d, rW vW d.W, Y] (List.Perm.swap _ _ [])))
    clear hz
    refine wpAnyTS_some 5 [] 4 (by rfl) (by kernel_rfl) (by kernel_rfl) ?_
    rintro w2 rfl
    refine ⟨?_, trivial⟩
    simp only [List.drop_succ_cons, List.drop_zero, List.take_succ_cons, List.take_zero]
    go_wp2_with (at_builtin; refine wpList_copyZ rfl _ _ 48 rfl 9 iS (.string ⟨#[]⟩) 1 16 (by kernel_rfl) s1 s2 s3 s4 rfl (by decide) hD 5 2 _ vL d.n (textsK d.n d.K) rfl rfl rfl rfl (textsK_one _ _) (by unfold maxLen; omega) (by omega) ?_; intro qL cL w5 hw)
    refine ⟨.inr (sameRow_of hD hw rfl rfl), ?_⟩
    replace hD : Hold W w5 [X, rowR g vL [vW], rL vL d, rW vW d.W, Y, rL (.slice qL d.n cL) d, rW (.slice (some ⟨w1.heap.size, 0, none⟩) 0 0) []] := hw
    clear hw
    refine wpAnyTS_some 11 [] 3 (by rfl) (by kernel_rfl) (by kernel_rfl) ?_
    rintro w2 rfl
    refine ⟨?_, trivial⟩
    simp only [List.drop_succ_cons, List.drop_zero, List.take_succ_cons, List.take_zero]
    go_wp2_with (at_builtin; refine wpList_copyZ rfl _ _ 59 rfl 68 iW (.agg #[.int .i64 0, .string ⟨#[]⟩]) 2 24 (by kernel_rfl) t1 t2 t3 t4 rfl (by decide) hD 6 3 _ vW d.W.length (cellsW d.W) rfl rfl rfl rfl (cellsW_one _) (by unfold maxLen; omega) (by omega) ?_; intro qW cW w6 hw)
    refine ⟨.inr (sameRow_of hD hw rfl rfl), ?_⟩
    replace hD : Hold W w6 [X, rowR g vL [vW], rL vL d, rW vW d.W, Y, rL (.slice qL d.n cL) d, rW (.slice qW d.W.length cW) d.W] := hw
    clear hw
    refine wpAnyTS_quiet 12 1 2 17 (by rfl) (by kernel_rfl) (fun _ _ _ _ _ h => h) (by kernel_rfl) (by kernel_rfl) ?_
    apply Exists.intro
    refine ⟨fun w2 hw2 => ?_, ?_⟩
    · have hne := laterR_ne (R := Eq) eqOK w2
      simp only [List.drop_succ_cons, List.drop_zero, List.take_succ_cons, List.take_zero]
      repeat (go_big_quiet_step (fail))
      exact wpQuiet_nil rfl
    refine wpAnyTS_some 13 [] 1 (by rfl) (by kernel_rfl) (by kernel_rfl) ?_
    rintro w2 rfl
    refine ⟨?_, trivial⟩
    simp only [List.drop_succ_cons, List.drop_zero, List.take_succ_cons, List.take_zero]
    go_wp2_with fail
    refine ⟨.inr (sameRow_of hD (hD.next ((Below.refl _ _).alloc (Nat.le_refl _) _)) rfl rfl), ?_⟩
    have hz := hD.madeRow (.slice qL d.n cL) [(.slice qW d.W.length cW)] 61
    have hz2 := (hz.sub (l' := [X, Y, rL (.slice qL d.n cL) d, rW (.slice qW d.W.length cW) d.W, rowR w6.heap.size (.slice qL d.n cL) [.slice qW d.W.length cW]]) (List.Sublist.cons_cons X (List.drop_sublist 3 [_, _, _, _, _, _, _]))).perm (l' := [Y, rowR w6.heap.size (.slice qL d.n cL) [.slice qW d.W.length cW], rL (.slice qL d.n cL) d, rW (.slice qW d.W.length cW) d.W, X]) ((List.perm_append_singleton X [_, _, _, _]).symm.trans (List.Perm.cons Y (List.perm_middle (l₁ := [_, _]) (l₂ := [X]))))
    clear hz
    generalize w6.heap.size = g9 at *
    generalize w6.alloc _ = w9 at *
    refine wpAnyTS_quiet 14 1 0 17 (by rfl) (by kernel_rfl) (fun _ _ _ _ _ h => h) (by kernel_rfl) (by kernel_rfl) ?_
    apply Exists.intro
    refine ⟨fun w2 hw2 => ?_, ?_⟩
    · have hne := laterR_ne (R := Eq) eqOK w2
      simp only [List.drop_succ_cons, List.drop_zero, List.take_succ_cons, List.take_zero]
      repeat (go_big_quiet_step (fail))
      exact wpQuiet_nil rfl
    refine wpAnyTS_done (by kernel_rfl) ?_
    rintro w2 rfl
    go_wp2_with fail
    go_ret
    exact ⟨g9, _, _, rfl, hz2⟩
end Go.Proofs.Ytiekjjejoekdeaa
