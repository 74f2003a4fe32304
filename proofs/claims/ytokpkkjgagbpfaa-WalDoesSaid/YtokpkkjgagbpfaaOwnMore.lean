/- More laws on slices of the law's own, of whatever elements: make, copy, append of what lies anywhere. No program in sight. -/
import Derived.Test.YtokpkkjgagbpfaaHold
import Derived.Test.YtokpkkjgagbpfaaRec5Cut0
import Derived.OwnWalk
import Derived.Laws.CopyOwn
namespace Bw
open Go Go.RowKit
set_option linter.unusedVariables false

theorem run_copy_rowN (P : Program) (w : World) (dT sT ty elem : TypeId) (g o dLen dCap : Nat) (a : Addr) (sLen sCap size : Nat) (cur : Array Value) (t : TypeId) (cs : List Value)
    (hu : P.underlying dT = some (.slice elem)) (hs : (P.info? elem).map (·.size) = some size)
    (hg : w.heap[g]? = some (.cells cur t (0, 0))) (hn : cs.length = Nat.min sLen dLen * size)
    (hsrc : ∀ j v, cs[j]? = some v → w.cell? (a.add j) = some v) (hfit : o + cs.length ≤ cur.size) (h1 : ∀ v ∈ cs, v.oneCell' = true) :
    (Builtin.copy_ #[dT, sT] ty #[.slice (some ⟨g, o, none⟩) dLen dCap, .slice (some a) sLen sCap]).run P w =
      .ok (goInt (Nat.min sLen dLen)) (w.setRow g (cur.toList.take o ++ cs ++ cur.toList.drop (o + cs.length)).toArray) := by
  have hl := run_loadCells_list (P := P) w a cs hsrc
  have hst := run_storeCells_at P g o t cs 0 cur w hg (by simpa using hfit) h1
  cases hq : P.info? elem with
  | none => simp [hq] at hs
  | some i =>
    have hi : i.size = size := by simpa [hq] using hs
    subst hi
    simp [Builtin.copy_, run_underlying hu, Builtin.lenOf, Builtin.firstCells, Go.sizeOf, typeInfo, hq, ← hn, hl, hst]

variable {W w : World} {l : List Res} {P : Program} {ops : Array Oper} {rest : List Oper} {o : Oper} {a : Act} {Q : Exit → Act → World → Prop}
/-- A guard for an arm of a walk: the next operation writes slot d. -/
theorem wpList_at (d : Nat) {op : Op} {ty : TypeId} {pos : String} {after : Array Edge} {g : Option (Nat × Bool)} (h : wpList P ops Q (⟨some d, op, ty, pos, after, g⟩ :: rest) a w) : wpList P ops Q (⟨some d, op, ty, pos, after, g⟩ :: rest) a w := h
/-- make([]T, n, c). -/
theorem wpList_makeZ (hgd : o.guard = none) (lo co : Operand) (t : TypeId) (ho : o.op = Op.makeSlice t lo co)
    (e : TypeId) (i : TypeInfo) (z : Value) (size bytes : Nat) (ht : P.underlying t = some (.slice e)) (hi : P.info? e = some i) (hz : i.zero = some z) (hsize : i.size = size) (hby : i.bytes = bytes)
    (kl kc : IntKind) (L C : Int) (n c : Nat) (hl : a.eval lo = .int kl L) (hc : a.eval co = .int kc C) (hL : L = (n : Int)) (hC : C = (c : Int)) (hnc : n ≤ c) (hb : bytes * c ≤ 281474976710656) (h63 : c ≤ maxLen)
    (hH : Hold W w l)
    (h : ∀ w' zs, zs.length = n * size → Hold W w' (l ++ [ownZ e size (.slice (some ⟨w.heap.size, 0, none⟩) n c) n zs]) → wpList P ops Q rest (a.put o.dst (.slice (some ⟨w.heap.size, 0, none⟩) n c)) w') :
    wpList P ops Q (o :: rest) a w := by
  subst hsize hby hL hC
  refine wpList_plain hgd fun K hK' => ?_
  have h63' : (c : Int) ≤ 9223372036854775807 := by have h := h63; simp [maxLen] at h; omega
  have hb' : (i.bytes : Int) * (c : Int) ≤ 281474976710656 := by
    have h : ((i.bytes * c : Nat) : Int) ≤ 281474976710656 := by omega
    rwa [Int.natCast_mul] at h
  have hrun := run_make (P := P) w t e i z ht hi hz kl kc (n : Int) (c : Int) (by omega) (by omega) hb' h63'
  simp only [Int.toNat_natCast] at hrun
  have hsz : (madeCells z.cells (c * i.size)).size = c * i.size := size_madeCells _ _
  unfold Oper.wp
  simp [execOp, ho, hl, hc, hrun, Result.andThen]
  refine hK' _ _ (h _ ((madeCells z.cells (c * i.size)).toList.take (n * i.size)) ?_ ?_)
  · rw [List.length_take, Array.length_toList, hsz]
    have := Nat.mul_le_mul_right i.size hnc
    omega
  · refine hH.add ((Below.refl _ w).alloc (Nat.le_refl _) _) (ownZ e i.size _ n _) ⟨?_, .inr ⟨w.heap.size, c, _, rfl, Nat.zero_le _, heap_alloc_new w _, hnc, h63, hsz, rfl⟩⟩ fun k hk => ?_
    · rw [List.length_take, Array.length_toList, hsz]
      have := Nat.mul_le_mul_right i.size hnc
      omega
    · have hk' : (Value.slice (some ⟨w.heap.size, 0, none⟩) n c).ownBlock = some k := hk
      simp [Value.ownBlock] at hk'
      omega
/-- copy(d, s), d all of a slice of the law's own, s as long. -/
theorem wpList_copyAll (hgd : o.guard = none) (d s : Operand) (dT sT : TypeId)
    (ho : o.op = .call { callee := .builtin .copy, args := #[d, s], argTypes := #[dT, sT] }) (e : TypeId) (size : Nat) (hu : P.underlying dT = some (.slice e)) (hsz : (P.info? e).map (·.size) = some size)
    (hH : Hold W w l) (j g n cap : Nat) (xs : List Value) (hj : l[j]? = some (ownZ e size (.slice (some ⟨g, 0, none⟩) n cap) n xs)) (hd : a.eval d = .slice (some ⟨g, 0, none⟩) n cap)
    (qx : Option Addr) (cx : Nat) (ys : List Value) (hs : a.eval s = .slice qx n cx) (hy : ys.length = n * size) (hn : qx = none → n = 0 ∧ cx = 0) (hc : ∀ ad i u, qx = some ad → ys[i]? = some u → w.cell? (ad.add i) = some u) (h1 : ∀ u ∈ ys, u.oneCell' = true)
    (h : ∀ w', Hold W w' (l.set j (ownZ e size (.slice (some ⟨g, 0, none⟩) n cap) n ys)) → wpList P ops Q rest (a.put o.dst (goInt n)) w') : wpList P ops Q (o :: rest) a w := by
  have hX : w.ownsRow 0 e size (.slice (some ⟨g, 0, none⟩) n cap) n xs := hH.get j hj
  cases qx with
  | none =>
    obtain ⟨rfl, rfl⟩ := hn rfl
    have hys : ys = [] := List.eq_nil_of_length_eq_zero (by simpa using hy)
    have hxs : xs = [] := List.eq_nil_of_length_eq_zero (by simpa using hX.1)
    subst hys hxs
    refine wpList_plain hgd fun K hK => ?_
    have hrun := run_copy_nil (P := P) w dT sT o.type e ⟨g, 0, none⟩ 0 cap hu (by rw [hsz]; rfl)
    unfold Oper.wp
    simp [execOp, ho, resolve, invoke, builtin, hd, hs, hrun, Result.andThen]
    refine hK _ _ (h w ?_)
    have e1 : l.set j (ownZ e size (.slice (some ⟨g, 0, none⟩) 0 cap) 0 []) = l := by
      obtain ⟨hl, hv⟩ := List.getElem?_eq_some_iff.1 hj
      rw [← hv]; exact List.set_getElem_self hl
    rw [e1]; exact hH
  | some ad =>
    refine wpList_plain hgd fun K hK => ?_
    rcases hX.2 with ⟨h0, _⟩ | ⟨g', cap', cur, he, hb, hg, hnc, hcm, hcs, htake⟩
    · injection h0 with h0 _ _; cases h0
    · injection he with h0 _ h2
      injection h0 with h0
      injection h0 with h0
      subst h0 h2
      have hfit : 0 + ys.length ≤ cur.size := by rw [hy, hcs, Nat.zero_add]; exact Nat.mul_le_mul_right _ hnc
      have hmin : Nat.min n n = n := Nat.min_self n
      have hrun := run_copy_rowN P w dT sT o.type e g 0 n cap ad n cx size cur e ys hu hsz hg (by rw [hy, hmin]) (fun j v hv => hc ad j v rfl hv) hfit h1
      rw [hmin] at hrun
      unfold Oper.wp
      simp [execOp, ho, resolve, invoke, builtin, hd, hs, hrun, Result.andThen]
      refine hK _ _ (h _ (hH.step j hj (ownZ e size _ n ys) ⟨hy, .inr ⟨g, cap, _, rfl, hb, setRow_heap w g _ _ _ _ hg, hnc, hcm, ?_, ?_⟩⟩ (fun k hk => .inl hk) ?_))
      · simp [hy]; rw [hcs]
        have := Nat.mul_le_mul_right size hnc
        omega
      · simp [hy]
      · refine (AllS.refl _ w).grown (row := some g) ⟨rfl, rfl, rfl, by simp [World.setRow], fun k hk hne => setRow_other w g k _ (fun h => hne (by rw [h]))⟩ fun k hk => .inl ?_
        injection hk with hk
        subst hk
        show (Value.slice (some ⟨g, 0, none⟩) n cap).ownBlock = some g
        rfl
/-- append of all of a slice that lies anywhere to one of the law's own. -/
theorem wpList_appendIn (hgd : o.guard = none) (s x : Operand) (t : TypeId) (ho : o.op = .call { callee := .builtin .append, args := #[s, x], argTypes := #[t, t] })
    (e : TypeId) (i : TypeInfo) (z : Value) (size bytes : Nat) (ht : P.underlying t = some (.slice e)) (hi : P.info? e = some i) (hz : i.zero = some z) (hsize : i.size = size) (hby : i.bytes = bytes) (hzs : z.cells.size = size) (hsz : 0 < size)
    (hH : Hold W w l) (j n : Nat) (v : Value) (L : List Value) (hj : l[j]? = some (ownZ e size v n L)) (hs : a.eval s = v) (qx : Option Addr) (m c : Nat) (xs : List Value) (hx : a.eval x = .slice qx m c) (hxl : xs.length = m * size)
    (hn : qx = none → m = 0 ∧ c = 0) (hc : ∀ ad i u, qx = some ad → xs[i]? = some u → w.cell? (ad.add i) = some u) (hu : ∀ u ∈ xs, u.oneCell' = true) (h63 : n + m ≤ maxLen) (hbytes : (n + m) * bytes ≤ 140737488355328)
    (h : ∀ q cap w', n + m ≤ cap → (q = none → cap = 0) → Hold W w' (l.set j (ownZ e size (.slice q (n + m) cap) (n + m) (L ++ xs))) → wpList P ops Q rest (a.put o.dst (.slice q (n + m) cap)) w') : wpList P ops Q (o :: rest) a w := by
  replace h : ∀ v' w', Hold W w' (l.set j (ownZ e size v' (n + m) (L ++ xs))) → wpList P ops Q rest (a.put o.dst v') w' := fun v' w' hw => by
    have hv : w'.ownsRow 0 e size v' (n + m) (L ++ xs) := hw.get j (R := ownZ e size v' (n + m) (L ++ xs)) (by rw [List.getElem?_set_self (List.getElem?_eq_some_iff.1 hj).1])
    rcases hv.2 with ⟨rfl, h0⟩ | ⟨g, cap, cur, rfl, hb, hg, hnc, -⟩
    · rw [h0] at hw h
      exact h none 0 w' (Nat.le_refl _) (fun _ => rfl) hw
    · exact h _ cap w' hnc (fun h => by cases h) hw
  have hV : w.ownsRow 0 e size v n L := hH.get j hj
  cases qx with
  | none =>
    obtain ⟨rfl, rfl⟩ := hn rfl
    have hxs : xs = [] := by rw [Nat.zero_mul] at hxl; exact List.length_eq_zero_iff.1 hxl
    subst hxs
    refine wpList_plain hgd fun K hK => ?_
    have hr := run_append_owned_none (P := P) (w := w) 0 t o.type e i size ht hi v n L hV
    unfold Oper.wp execOp
    simp only [ho, resolve, invoke, builtin, Sem.run_bind, Sem.run_pure, Result.andThen_ok, List.map_toArray, List.map_cons, List.map_nil, hs, hx, hr]
    refine hK _ _ (h v w ?_)
    rw [Nat.add_zero, List.append_nil]
    have e1 : l.set j (ownZ e size v n L) = l := by
      obtain ⟨hl, hv⟩ := List.getElem?_eq_some_iff.1 hj
      rw [← hv]; exact List.set_getElem_self hl
    rw [e1]; exact hH
  | some ad =>
    refine wpList_append_own_at w hgd s x t ho 0 e i z size bytes ht hi hz hsize hby hzs hsz v n L hs hV ad m c xs hx hxl (fun j u hju => hc ad j u rfl hju) hu h63 hbytes (Nat.zero_le _) ?_
    intro v' w' how hgrow _ hloc
    refine h v' w' (hH.step j hj (ownZ e size _ _ _) how ?_ ((AllS.refl _ w).grown hgrow (fun k hk => .inl hk)))
    intro k hk
    have hk' : v'.ownBlock = some k := hk
    rcases hloc with e1 | e1
    · exact .inl (e1.symm.trans hk')
    · rw [hk'] at e1
      injection e1 with e1
      exact .inr (by omega)
theorem cellsP_length (l : List PairD) : (cellsP l).length = l.length * 2 := by
  induction l with
  | nil => rfl
  | cons p l ih => simp only [cellsP, List.flatMap_cons, List.length_append, List.length_cons] at *; simp at *; omega
theorem cellsP_one (l : List PairD) : ∀ u ∈ cellsP l, u.oneCell' = true := by
  intro u hu
  unfold cellsP at hu
  rw [List.mem_flatMap] at hu
  obtain ⟨x, -, hu⟩ := hu
  simp at hu
  rcases hu with rfl | rfl <;> rfl
end Bw
