/- Rows that an append grows, beside the rows of the walk. No program in sight. -/
import Derived.Test.YtokpkkjgagbpfaaRecPure
import Derived.Test.YtokpkkjgagbpfaaUpA
import Derived.Laws.AppendOwn
namespace Bw
open Go Go.RowKit

def cutS (s : ByteArray) : ByteArray := if s.size ≤ 60 then s else s.extract 0 60
theorem cutS_cases (s : ByteArray) : (s.size ≤ 60 ∧ cutS s = s) ∨ (60 < s.size ∧ cutS s = s.extract 0 60) := by
  by_cases h : s.size ≤ 60
  · exact .inl ⟨h, by simp [cutS, h]⟩
  · exact .inr ⟨by omega, by simp [cutS, h]⟩
/-- What the program writes: s[:min(len(s), 60)]. -/
theorem cutS_eq (s : ByteArray) : s.extract 0 (min (s.size : Int) 60).toNat = cutS s := by
  rcases cutS_cases s with ⟨h, e⟩ | ⟨h, e⟩
  · rw [e, show (min (s.size : Int) 60).toNat = s.size by omega]; exact ByteArray.extract_zero_size
  · rw [e, show (min (s.size : Int) 60).toNat = 60 by omega]
theorem cutS_size (s : ByteArray) : (cutS s).size ≤ 60 := by
  rcases cutS_cases s with ⟨h, e⟩ | ⟨h, e⟩
  · rw [e]; exact h
  · rw [e]; simp; omega
def cutP (p : PairD) : PairD := (cutS p.1, cutS p.2)
def cutR (r : RecD) : RecD := { r with key := cutS r.key, val := cutS r.val, l := (r.l.take 40).map cutP }

theorem RowAt.grown {w w' : World} {row : Option Nat} {g : Nat} {v : Value} {l : List Value} (h : RowAt w g (v :: l)) (hg : w.grownBy w' row) (hne : ∀ k, row = some k → k ≠ g) : RowAt w' g (v :: l) := by
  have hb := hg.block g h.lt (fun e => hne g e.symm rfl)
  exact ⟨fun j hj => (World.cell?_of_block (a := ⟨g, j, none⟩) hb).trans (h.cell j hj), fun j hj => (World.frozen?_of_block (a := ⟨g, j, none⟩) hb).trans (h.free j hj)⟩
theorem Up.grown {w0 w w' : World} {row : Option Nat} (h : Up w0 w) (hg : w.grownBy w' row) (hr : ∀ k, row = some k → w0.heap.size ≤ k) : Up w0 w' := Below.grown h hg (Below.size h) hr

theorem own_form {w : World} {base : Nat} {e : TypeId} {size : Nat} {v : Value} {n : Nat} {xs : List Value} (h : w.ownsRow base e size v n xs) : ∃ b c, v = .slice b n c := by
  rcases h.2 with ⟨rfl, rfl⟩ | ⟨g, cap, _, rfl, _⟩
  · exact ⟨_, _, rfl⟩
  · exact ⟨_, _, rfl⟩
theorem RowAt.adds {w : World} {g : Nat} {l : List Value} (h : RowAt w g l) : ∀ j u, l[j]? = some u → w.cell? ((⟨g, 0, none⟩ : Addr).add j) = some u := by
  intro j u hj
  have hadd : (⟨g, 0, none⟩ : Addr).add j = ⟨g, j, none⟩ := by unfold Addr.add; split <;> simp_all
  obtain ⟨hlt, rfl⟩ := List.getElem?_eq_some_iff.1 hj
  rw [hadd]
  exact h.cell j hlt

/-- An owned row, the world grown beside it. -/
theorem ownsRow_up {w w' : World} {base : Nat} {e : TypeId} {size : Nat} {v : Value} {n : Nat} {xs : List Value} (h : w.ownsRow base e size v n xs) (hu : Up w w') : w'.ownsRow base e size v n xs := by
  refine ⟨h.1, ?_⟩
  rcases h.2 with hn | ⟨g, cap, cur, rfl, hb, hgg, rest⟩
  · exact .inl hn
  · refine .inr ⟨g, cap, cur, rfl, hb, ?_, rest⟩
    rw [Below.block hu g (Array.getElem?_eq_some_iff.1 hgg).1]
    exact hgg
theorem ownsRow_set {w : World} {base : Nat} {e : TypeId} {size : Nat} {v : Value} {n : Nat} {xs : List Value} (h : w.ownsRow base e size v n xs) (b o : Nat) (u : Value) (hb : b < base) : (w.setCell ⟨b, o, none⟩ u).ownsRow base e size v n xs := by
  refine ⟨h.1, ?_⟩
  rcases h.2 with hn | ⟨g, cap, cur, rfl, hbg, hgg, rest⟩
  · exact .inl hn
  · refine .inr ⟨g, cap, cur, rfl, hbg, ?_, rest⟩
    rw [Below.heap_setCell w _ _ g (by simp; omega)]
    exact hgg

/-- Pairs as cells. -/
def cellsP (l : List PairD) : List Value := l.flatMap fun p => [.string p.1, .string p.2]
theorem cellsP_append (a b : List PairD) : cellsP (a ++ b) = cellsP a ++ cellsP b := by simp [cellsP]
theorem cellsP_get : ∀ (l : List PairD) (i : Nat) (hi : i < l.length), (cellsP l)[i * 2]? = some (.string l[i].1) ∧ (cellsP l)[i * 2 + 1]? = some (.string l[i].2)
  | [], i, hi => absurd hi (by simp)
  | p :: l, 0, _ => by simp [cellsP]
  | p :: l, i + 1, hi => by
    have h := cellsP_get l i (by simpa using hi)
    rw [show (i + 1) * 2 = i * 2 + 2 by omega]
    simp only [cellsP, List.flatMap_cons, List.cons_append, List.nil_append, List.getElem?_cons_succ, List.getElem_cons_succ]
    exact h
/-- The pairs of an owned row. -/
theorem owned_pairs {w : World} {base : Nat} {e : TypeId} {v : Value} {n : Nat} {l : List PairD} (h : w.ownsRow base e 2 v n (cellsP l)) (hn : n = l.length) :
    ∃ p c, v = .slice p l.length c ∧ ∀ (i : Nat) (hi : i < l.length), ∃ g o, p = some ⟨g, o, none⟩ ∧ w.cell? ⟨g, o + i * 2, none⟩ = some (.string l[i].1) ∧ w.cell? ⟨g, o + i * 2 + 1, none⟩ = some (.string l[i].2) := by
  subst hn
  rcases h.2 with ⟨rfl, h0⟩ | ⟨g, cap, cur, rfl, _⟩
  · exact ⟨none, 0, by rw [h0], fun i hi => absurd hi (by omega)⟩
  · refine ⟨_, cap, rfl, fun i hi => ⟨g, 0, rfl, ?_⟩⟩
    have hc := h.cells (g := g) rfl
    have hadd : ∀ j, (⟨g, 0, none⟩ : Addr).add j = ⟨g, j, none⟩ := fun j => by unfold Addr.add; split <;> simp_all
    have h1 := hc _ _ (cellsP_get l i hi).1
    have h2 := hc _ _ (cellsP_get l i hi).2
    rw [hadd] at h1 h2
    rw [show 0 + i * 2 = i * 2 by omega]
    exact ⟨h1, h2⟩

section
variable {P : Program} (w : World)
/-- An append to an owned row: the row's block is as it was, or new. -/
theorem append_block (base : Nat) (t ty e : TypeId) (i : TypeInfo) (z : Value) (size bytes : Nat) (ht : P.underlying t = some (.slice e)) (hi : P.info? e = some i) (hz : i.zero = some z)
    (hsize : i.size = size) (hby : i.bytes = bytes)
    (v : Value) (n : Nat) (xs : List Value) (hown : w.ownsRow base e size v n xs)
    (a : Addr) (m c : Nat) (news : List Value) (hl : news.length = m * size) (hnews : ∀ j u, news[j]? = some u → w.cell? (a.add j) = some u) (h1 : ∀ u ∈ news, u.oneCell' = true) (hm : 0 < m)
    (h63 : n + m ≤ maxLen) (hbytes : (n + m) * bytes ≤ 140737488355328) {v' : Value} {w' : World} (hr : (Builtin.append_ #[t, t] ty #[v, .slice (some a) m c]).run P w = .ok v' w') :
    v'.ownBlock = v.ownBlock ∨ v'.ownBlock = some w.heap.size := by
  subst hsize hby
  have hsmall : n + m ≤ 9223372036854775807 := by simp only [maxLen] at h63; omega
  rcases hown.2 with ⟨rfl, rfl⟩ | ⟨g, cap, cur, rfl, hbg, hg, hnc, hcm, hcs, htake⟩
  · have h := run_append_nil (P := P) w t ty e i z ht hi hz a m c news hl hnews hm (by omega) (by have hb := hbytes; simp only [Nat.zero_add] at hb; omega)
    rw [hr] at h
    injection h with h2 _
    subst h2
    exact .inr rfl
  · by_cases hroom : n + m ≤ cap
    · have hfit : n * i.size + news.length ≤ cur.size := by rw [hl, hcs, ← Nat.add_mul]; exact Nat.mul_le_mul_right _ hroom
      have h := run_append_room (P := P) w t ty e i ht hi g n cap cur hg a m c news hl hnews h1 hroom hfit
      rw [hr] at h
      injection h with h2 _
      subst h2
      exact .inl rfl
    · have holds : ∀ j u, xs[j]? = some u → w.cell? ((⟨g, 0, none⟩ : Addr).add j) = some u := hown.cells (g := g) rfl
      have h := run_append_grow (P := P) w t ty e i z ht hi hz ⟨g, 0, none⟩ n cap xs hown.1 holds a m c news hl hnews (by omega) (by omega) (growslice_fits (by omega) hbytes)
      rw [hr] at h
      injection h with h2 _
      subst h2
      exact .inr rfl

/-- An append as a step of the walk: what it may have changed is the row's own block. -/
theorem wpList_append_row {ops : Array Oper} {rest : List Oper} {o : Oper} {a : Act} {Q : Exit → Act → World → Prop} (hgd : o.guard = none) (s x : Operand) (t : TypeId)
    (ho : o.op = .call { callee := .builtin .append, args := #[s, x], argTypes := #[t, t] })
    (base : Nat) (e : TypeId) (i : TypeInfo) (z : Value) (size bytes : Nat) (ht : P.underlying t = some (.slice e)) (hi : P.info? e = some i) (hz : i.zero = some z)
    (hsize : i.size = size) (hby : i.bytes = bytes) (hzs : z.cells.size = size) (hsz : 0 < size)
    (v : Value) (n : Nat) (xs : List Value) (hs : a.eval s = v) (hown : w.ownsRow base e size v n xs)
    (ad : Addr) (m c : Nat) (news : List Value) (hx : a.eval x = .slice (some ad) m c) (hl : news.length = m * size) (hnews : ∀ j u, news[j]? = some u → w.cell? (ad.add j) = some u) (h1 : ∀ u ∈ news, u.oneCell' = true) (hm : 0 < m)
    (h63 : n + m ≤ maxLen) (hbytes : (n + m) * bytes ≤ 140737488355328) (hbase : base ≤ w.heap.size)
    (h : ∀ v' w', w'.ownsRow base e size v' (n + m) (xs ++ news) → w.grownBy w' v.ownBlock → (v'.ownBlock = v.ownBlock ∨ v'.ownBlock = some w.heap.size) → wpList P ops Q rest (a.put o.dst v') w') : wpList P ops Q (o :: rest) a w := by
  refine wpList_plain hgd fun K hK => ?_
  obtain ⟨v', w', hr, h2, h3, _⟩ := run_append_own (P := P) w base t o.type e i z size bytes ht hi hz hsize hby hzs hsz v n xs hown ad m c news hl hnews h1 h63 hbytes hbase
  have h4 := append_block (P := P) w base t o.type e i z size bytes ht hi hz hsize hby v n xs hown ad m c news hl hnews h1 hm h63 hbytes hr
  unfold Oper.wp execOp
  simp only [ho, resolve, invoke, builtin, Sem.run_bind, Sem.run_pure, Result.andThen_ok, List.map_toArray, List.map_cons, List.map_nil, hs, hx, hr]
  exact hK _ _ (h v' w' h2 h3 h4)
end
end Bw
