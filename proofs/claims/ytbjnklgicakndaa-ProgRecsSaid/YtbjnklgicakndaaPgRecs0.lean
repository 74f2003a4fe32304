import Derived.Test.YtbjnklgicakndaaPgWalk8
import Derived.Test.YtbjnklgicakndaaRec5Walk4
namespace Go.Proofs.Ytbjnklgicakndaa
open Go.RowKit Bw
set_option linter.unusedVariables false

/-- Records as cells. -/
def cellsR (l : List RecB) : List Value := l.flatMap fun x => [.int .i64 x.r.k, .int .i64 x.r.t, .string x.r.key, .string x.r.val, .int .i64 x.r.p, .int .i64 x.r.u, .int .i64 x.r.n, .slice x.pa x.r.l.length x.ca]
theorem cellsR_append (a b : List RecB) : cellsR (a ++ b) = cellsR a ++ cellsR b := by simp [cellsR]
theorem cellsR_get : ∀ (l : List RecB) (i : Nat) (hi : i < l.length), (cellsR l)[i * 8]? = some (.int .i64 l[i].r.k) ∧ (cellsR l)[i * 8 + 1]? = some (.int .i64 l[i].r.t) ∧ (cellsR l)[i * 8 + 2]? = some (.string l[i].r.key) ∧ (cellsR l)[i * 8 + 3]? = some (.string l[i].r.val) ∧
    (cellsR l)[i * 8 + 4]? = some (.int .i64 l[i].r.p) ∧ (cellsR l)[i * 8 + 5]? = some (.int .i64 l[i].r.u) ∧ (cellsR l)[i * 8 + 6]? = some (.int .i64 l[i].r.n) ∧ (cellsR l)[i * 8 + 7]? = some (.slice l[i].pa l[i].r.l.length l[i].ca)
  | [], i, hi => absurd hi (by simp)
  | p :: l, 0, _ => by simp [cellsR]
  | p :: l, i + 1, hi => by
    have h := cellsR_get l i (by simpa using hi)
    rw [show (i + 1) * 8 = i * 8 + 8 by omega]
    simp only [cellsR, List.flatMap_cons, List.cons_append, List.nil_append, List.getElem?_cons_succ, List.getElem_cons_succ]
    exact h
theorem recs_owned {w : World} {base : Nat} {e : TypeId} {b : Option Addr} {k c : Nat} {l : List RecB} (h : w.ownsRow base e 8 (.slice b k c) k (cellsR l)) (hn : l.length = k) : RecsAt w b l := by
  subst hn
  rcases h.2 with ⟨hv, h0⟩ | ⟨g, cap, cur, hv, _⟩
  · exact fun i hi => absurd hi (by omega)
  · injection hv with e1 _ e3
    subst e1 e3
    intro i hi
    refine ⟨g, 0, rfl, ?_⟩
    have hc := h.cells (g := g) rfl
    have hadd : ∀ j, (⟨g, 0, none⟩ : Addr).add j = ⟨g, j, none⟩ := fun j => by unfold Addr.add; split <;> simp_all
    simp only [hadd] at hc
    obtain ⟨h0, h1, h2, h3, h4, h5, h6, h7⟩ := cellsR_get l i hi
    rw [show 0 + i * 8 = i * 8 by omega]
    exact ⟨hc _ _ h0, hc _ _ h1, hc _ _ h2, hc _ _ h3, hc _ _ h4, hc _ _ h5, hc _ _ h6, hc _ _ h7⟩

theorem latest_append : ∀ (l : List RecB) (v : Int × Int × Int) (x : RecB), latest v (l ++ [x]) = ofT x.r (latest v l)
  | [], v, x => rfl
  | y :: l, v, x => latest_append l (ofT y.r v) x

theorem cutR_l (r : RecD) : (cutR r).l.length ≤ 40 := by simp [cutR]; omega
theorem cutR_strs (r : RecD) : ∀ p ∈ (cutR r).l, p.1.size ≤ 1099511627776 := by
  intro p hp
  obtain ⟨q, _, rfl⟩ := List.mem_map.1 hp
  have := cutS_size q.1
  show (cutS q.1).size ≤ _
  omega

/-- What prog.Rec and prog.Of answer to one another. -/
theorem rec_yes {p u o : Int} (h : rightB p u o = true) : fwdE p u o = 0 ∧ progRec p u o = ⟨6, 0, ByteArray.empty, ByteArray.empty, p, u, o, []⟩ ∧ (progRec p u o).rightR = true ∧ ofE (progRec p u o) = 0 := by
  have e1 : progRec p u o = ⟨6, 0, ByteArray.empty, ByteArray.empty, p, u, o, []⟩ := if_pos h
  have hb := right_bounds h
  have e2 : (progRec p u o).rightR = true := by
    rw [e1]
    simp [RecD.rightR, RecD.same, RecD.bare, inB, txnB, hkeyB, hvalB, passB, pairsB, valB, rowB, rowFrom, top5]
    exact ⟨⟨⟨hb.1, hb.2.1⟩, hb.2.2.1, decide_eq_true (by omega)⟩, hb.2.2.2.2.1, decide_eq_true (by omega)⟩
  refine ⟨if_pos h, e1, e2, ?_⟩
  rw [ofE, e2, e1]
  simp [h]
theorem rec_no {p u o : Int} (h : rightB p u o = false) : fwdE p u o = 1 ∧ progRec p u o = noRec ∧ ofE noRec = 4 := by
  refine ⟨by simp [fwdE, h], by simp [progRec, h], by decide +kernel⟩

/-- The records of a list that is being built: the pairs of each lie elsewhere than the list's own block, and behind block lo. -/
def KeepL (w : World) (lo : Nat) (own : Option Nat) (l : List RecB) : Prop := ∀ x ∈ l, RecOk w x ∧ ∀ a, x.pa = some a → lo ≤ a.block ∧ a.block < w.heap.size ∧ own ≠ some a.block
theorem KeepL.up {w w' : World} {lo : Nat} {own : Option Nat} {l : List RecB} (h : KeepL w lo own l) (hu : Up w w') : KeepL w' lo own l := fun x hx =>
  ⟨(h x hx).1.up hu, fun a ha => ⟨((h x hx).2 a ha).1, Nat.lt_of_lt_of_le ((h x hx).2 a ha).2.1 (Below.size hu), ((h x hx).2 a ha).2.2⟩⟩
theorem KeepL.snoc {w : World} {lo : Nat} {own : Option Nat} {l : List RecB} {x : RecB} (h : KeepL w lo own l) (h1 : RecOk w x) (h2 : ∀ a, x.pa = some a → lo ≤ a.block ∧ a.block < w.heap.size ∧ own ≠ some a.block) : KeepL w lo own (l ++ [x]) := fun y hy => by
  rcases List.mem_append.1 hy with hy | hy
  · exact h y hy
  · obtain rfl := List.mem_singleton.1 hy; exact ⟨h1, h2⟩
theorem KeepL.grown {w w' : World} {lo : Nat} {own own' : Option Nat} {l : List RecB} (h : KeepL w lo own l) (hg : w.grownBy w' own) (ho : own' = own ∨ own' = some w.heap.size) : KeepL w' lo own' l := fun x hx => by
  obtain ⟨⟨h1, h2⟩, h3⟩ := h x hx
  refine ⟨⟨fun i hi => ?_, h2⟩, fun a ha => ⟨(h3 a ha).1, Nat.lt_of_lt_of_le (h3 a ha).2.1 hg.size, ?_⟩⟩
  · obtain ⟨g, o, hp, c0, c1⟩ := h1 i hi
    have hne := (h3 _ hp).2.2
    exact ⟨g, o, hp, hg.cell c0 (fun e => hne e.symm), hg.cell c1 (fun e => hne e.symm)⟩
  · rcases ho with rfl | rfl
    · exact (h3 a ha).2.2
    · have := (h3 a ha).2.1
      intro e
      injection e with e
      omega
theorem KeepL.set {w : World} {lo : Nat} {own : Option Nat} {l : List RecB} (h : KeepL w lo own l) (b o : Nat) (v : Value) (hb : b < lo) : KeepL (w.setCell ⟨b, o, none⟩ v) lo own l := fun x hx => by
  obtain ⟨⟨h1, h2⟩, h3⟩ := h x hx
  have hne : ∀ (g q : Nat), lo ≤ g → (⟨b, o, none⟩ : Addr) ≠ ⟨g, q, none⟩ := fun g q hg e => by have := congrArg Addr.block e; simp at this; omega
  refine ⟨⟨fun i hi => ?_, h2⟩, fun a ha => ⟨(h3 a ha).1, ?_, (h3 a ha).2.2⟩⟩
  · obtain ⟨g, q, hp, c0, c1⟩ := h1 i hi
    have hlo := (h3 _ hp).1
    exact ⟨g, q, hp, (World.cell?_setCell_other _ _ _ _ (hne _ _ hlo)).trans c0, (World.cell?_setCell_other _ _ _ _ (hne _ _ hlo)).trans c1⟩
  · rw [World.size_setCell]
    exact (h3 a ha).2.1
theorem ownsRow_setNe {w : World} {base : Nat} {e : TypeId} {size : Nat} {v : Value} {n : Nat} {xs : List Value} (h : w.ownsRow base e size v n xs) (b o : Nat) (u : Value) (hb : v.ownBlock ≠ some b) : (w.setCell ⟨b, o, none⟩ u).ownsRow base e size v n xs := by
  refine ⟨h.1, ?_⟩
  rcases h.2 with hn | ⟨g, cap, cur, rfl, hbg, hgg, rest⟩
  · exact .inl hn
  · refine .inr ⟨g, cap, cur, rfl, hbg, ?_, rest⟩
    rw [Below.heap_setCell w _ _ g (fun e => hb (by rw [Value.ownBlock]; simp at e; simp [e]))]
    exact hgg

def V3 (v : Int × Int × Int) : List Value := [.int .i64 v.1, .int .i64 v.2.1, .int .i64 v.2.2]
theorem of_cases (r : RecD) (v : Int × Int × Int) : (ofE r = 0 ∧ ofV r = progV r.p r.u r.n ∧ ofT r v = (r.p, r.u, r.n)) ∨ (ofE r = 4 ∧ ofV r = progV 0 0 0 ∧ ofT r v = v) := by
  unfold ofV ofT
  by_cases h : ofE r = 0
  · exact .inl ⟨h, by rw [if_pos h], by rw [if_pos h]⟩
  · exact .inr ⟨by unfold ofE at *; split at h <;> simp_all, by rw [if_neg h], by rw [if_neg h]⟩
end Go.Proofs.Ytbjnklgicakndaa
