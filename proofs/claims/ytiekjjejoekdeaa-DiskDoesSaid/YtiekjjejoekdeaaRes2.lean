/- Rows and slices of a law's own, as things in memory. -/
import Derived.Test.YtiekjjejoekdeaaRes
import Derived.Maps.AppendAt
import Derived.Laws.MakeOwn
import Derived.Test.YtiekjjejoekdeaaDsWalk4
namespace Bw
open Go Go.RowKit
set_option linter.unusedVariables false
def row8 (h : Nat → Value) : List Value := [h 0, h 1, h 2, h 3, h 4, h 5, h 6, h 7]
theorem row8_length (h : Nat → Value) : (row8 h).length = 8 := rfl
theorem row8_get (h : Nat → Value) : ∀ (k : Nat) (hk : k < (row8 h).length), (row8 h)[k] = h k
  | 0, _ => rfl | 1, _ => rfl | 2, _ => rfl | 3, _ => rfl | 4, _ => rfl | 5, _ => rfl | 6, _ => rfl | 7, _ => rfl
  | k + 8, hk => by rw [row8_length] at hk; omega
theorem row8_set (h : Nat → Value) (m : Nat) (v : Value) (hm : m < 8) : (row8 h).set m v = row8 (fun j => if j = m then v else h j) := by
  apply List.ext_getElem (by simp [row8_length])
  intro i h1 h2
  rw [row8_get, List.getElem_set]
  split
  · rw [if_pos (by omega)]
  · rw [if_neg (by omega), row8_get]
def row8R (g : Nat) (h : Nat → Value) : Res := ⟨fun k => k = g, fun w => RowAt w g (row8 h), fun hA hk hr => RowAt.allS hr hA (hk g rfl), fun {w k} hr hk => by have hk' : k = g := hk; rw [hk']; exact RowAt.lt hr⟩
variable {W w : World} {l : List Res}
theorem Hold.cell8 (h : Hold W w l) (i : Nat) {g : Nat} {f : Nat → Value} (hi : l[i]? = some (row8R g f)) (k : Nat) (hk : k < 8) : w.cell? ⟨g, k, none⟩ = some (f k) ∧ w.frozen? ⟨g, k, none⟩ = false := by
  have hr : RowAt w g (row8 f) := h.get i hi
  have hk' : k < (row8 f).length := hk
  exact ⟨(hr.cell k hk').trans (congrArg some (row8_get f k hk')), hr.free k hk'⟩
theorem Hold.set8 (h : Hold W w l) (i : Nat) {g : Nat} {f : Nat → Value} (hi : l[i]? = some (row8R g f)) (m : Nat) (hm : m < 8) (v : Value) : Hold W (w.setCell ⟨g, m, none⟩ v) (l.set i (row8R g (fun j => if j = m then v else f j))) := by
  have hr : RowAt w g (row8 f) := h.get i hi
  refine h.step i hi (row8R g _) ?_ (fun k hk => .inl hk) ((AllS.refl _ w).setCell g m v (.inl rfl))
  show RowAt _ g (row8 _)
  rw [← row8_set f m v hm]
  exact hr.set m v hm
theorem Hold.made8 (h : Hold W w l) (f : Nat → Value) (e : TypeId) : Hold W (w.alloc (.cells (row8 f).toArray e)) (l ++ [row8R w.heap.size f]) :=
  h.add ((Below.refl _ w).alloc (Nat.le_refl _) _) (row8R _ f) (RowAt.made w e (row8 f)) fun k hk => by have hk' : k = w.heap.size := hk; omega
end Bw
namespace Bw
open Go Go.RowKit
set_option linter.unusedVariables false
def ownR (e : TypeId) (v : Value) (L : List Value) : Res := ⟨fun k => v.ownBlock = some k, fun w => w.ownsRow 0 e 1 v L.length L, fun hA hk h => ownsRow_allS h hA (fun k hk' => hk k hk'), fun h hk => (World.ownsRow.lt h _ hk).2⟩
variable {W w : World} {l : List Res}
theorem Hold.made0 (h : Hold W w l) (e : TypeId) : Hold W (w.alloc (.cells #[] e)) (l ++ [ownR e (.slice (some ⟨w.heap.size, 0, none⟩) 0 0) []]) :=
  h.add ((Below.refl _ w).alloc (Nat.le_refl _) _) (ownR e _ []) (World.ownsRow_made (base := 0) (e := e) (size := 1) w #[] 0 (Nat.zero_le _) (by decide) (by rfl)) fun k hk => by
    have hk' : (Value.slice (some ⟨w.heap.size, 0, none⟩) 0 0).ownBlock = some k := hk
    have : w.heap.size = k := by simpa [Value.ownBlock] using hk'
    omega
theorem Hold.nil0 (h : Hold W w l) (e : TypeId) : Hold W w (l ++ [ownR e (.slice none 0 0) []]) :=
  h.add (Below.refl _ w) (ownR e _ []) (World.ownsRow_nil _ _ _ _) fun k hk => by
    have hk' : (Value.slice none 0 0).ownBlock = some k := hk
    simp [Value.ownBlock] at hk'
theorem ownR_form {e : TypeId} {v : Value} {L : List Value} (h : (ownR e v L).holds w) : ∃ q cap, v = .slice q L.length cap ∧ (∀ a, q = some a → v.ownBlock = some a.block) ∧ ∀ k (hk : k < L.length), ∃ b, q = some ⟨b, 0, none⟩ ∧ w.cell? ⟨b, k, none⟩ = some L[k] := by
  have h' : w.ownsRow 0 e 1 v L.length L := h
  rcases h'.2 with ⟨rfl, h0⟩ | ⟨g, cap, cur, rfl, hb, hg, -⟩
  · have e : L = [] := List.length_eq_zero_iff.1 h0
    subst e
    exact ⟨none, 0, rfl, fun a ha => (by cases ha), fun k hk => absurd hk (Nat.not_lt_zero _)⟩
  · refine ⟨some ⟨g, 0, none⟩, cap, rfl, fun a ha => by injection ha with ha; subst ha; rfl, fun k hk => ⟨g, rfl, ?_⟩⟩
    rw [World.ownsRow.cellAt h' _ (by omega)]
    exact List.getElem?_eq_getElem hk
theorem own_ints {e : TypeId} {v : Value} {L : List Int} (h : (ownR e v (L.map (.int .i64 ·))).holds w) : ∃ q cap, v = .slice q L.length cap ∧ IntsAt w q L ∧ ∀ a, q = some a → v.ownBlock = some a.block := by
  obtain ⟨q, cap, hv, ho, hc⟩ := ownR_form h
  rw [List.length_map] at hv
  refine ⟨q, cap, hv, fun k hk => ?_, ho⟩
  obtain ⟨b, rfl, hcell⟩ := hc k (by rw [List.length_map]; exact hk)
  refine ⟨b, 0, rfl, ?_⟩
  rw [Nat.zero_add, hcell, List.getElem_map]

section
variable {P : Program} {ops : Array Oper} {rest : List Oper} {o : Oper} {a : Act} {Q : Exit → Act → World → Prop}
/-- append of one value to a slice of the law's own. -/
theorem wpList_append1 (hgd : o.guard = none) (s x : Operand) (t : TypeId) (ho : o.op = .call { callee := .builtin .append, args := #[s, x], argTypes := #[t, t] })
    (e : TypeId) (i : TypeInfo) (z : Value) (bytes : Nat) (ht : P.underlying t = some (.slice e)) (hi : P.info? e = some i) (hz : i.zero = some z) (hsize : i.size = 1) (hby : i.bytes = bytes) (hzs : z.cells.size = 1)
    (hH : Hold W w l) (j : Nat) (v : Value) (L : List Value) (n : Nat) (hn : L.length = n) (hj : l[j]? = some (ownR e v L)) (hs : a.eval s = v) (ad : Addr) (c : Nat) (u : Value) (hx : a.eval x = .slice (some ad) 1 c)
    (hnews : ∀ j v, [u][j]? = some v → w.cell? (ad.add j) = some v) (hu : u.oneCell' = true) (h63 : n + 1 ≤ maxLen) (hbytes : (n + 1) * bytes ≤ 140737488355328)
    (h : ∀ b cap w', Hold W w' (l.set j (ownR e (.slice (some ⟨b, 0, none⟩) (n + 1) cap) (L ++ [u]))) → wpList P ops Q rest (a.put o.dst (.slice (some ⟨b, 0, none⟩) (n + 1) cap)) w') :
    wpList P ops Q (o :: rest) a w := by
  subst hn
  refine wpList_append_own_at w hgd s x t ho 0 e i z 1 bytes ht hi hz hsize hby hzs (by omega) v L.length L hs (hH.get j hj) ad 1 c [u] hx rfl hnews (fun y hy => by simp at hy; subst hy; exact hu) h63 hbytes (Nat.zero_le _) ?_
  intro v' w' how hgrow _ hloc
  obtain ⟨b, cap, rfl⟩ : ∃ b cap, v' = .slice (some ⟨b, 0, none⟩) (L.length + 1) cap := by
    rcases how.2 with ⟨_, h0⟩ | ⟨g, cap, cur, rfl, _⟩
    · omega
    · exact ⟨g, cap, rfl⟩
  refine h b cap w' (hH.step j hj (ownR e _ _) ?_ ?_ ((AllS.refl _ w).grown hgrow (fun k hk => .inl hk)))
  · show w'.ownsRow 0 e 1 _ (L ++ [u]).length (L ++ [u])
    rw [List.length_append]
    exact how
  · intro k hk
    have hk' : (Value.slice (some ⟨b, 0, none⟩) (L.length + 1) cap).ownBlock = some k := hk
    rcases hloc with e1 | e1
    · exact .inl (e1.symm.trans hk')
    · rw [hk'] at e1
      injection e1 with e1
      exact .inr (by omega)
end
end Bw
namespace Bw
open Go Go.RowKit
set_option linter.unusedVariables false
def texts (L : List ByteArray) : List Value := L.map .string
def own8 (e : TypeId) (v : Nat → Value) (M : Nat → List ByteArray) : List Res :=
  [ownR e (v 0) (texts (M 0)), ownR e (v 1) (texts (M 1)), ownR e (v 2) (texts (M 2)), ownR e (v 3) (texts (M 3)), ownR e (v 4) (texts (M 4)), ownR e (v 5) (texts (M 5)), ownR e (v 6) (texts (M 6)), ownR e (v 7) (texts (M 7))]
theorem own8_get (e : TypeId) (v : Nat → Value) (M : Nat → List ByteArray) : ∀ (m : Nat) (hm : m < 8), (own8 e v M)[m]? = some (ownR e (v m) (texts (M m)))
  | 0, _ => rfl | 1, _ => rfl | 2, _ => rfl | 3, _ => rfl | 4, _ => rfl | 5, _ => rfl | 6, _ => rfl | 7, _ => rfl
  | k + 8, hk => by omega
theorem own8_set (e : TypeId) (v : Nat → Value) (M : Nat → List ByteArray) (x : Value) (L : List ByteArray) : ∀ (m : Nat) (hm : m < 8), (own8 e v M).set m (ownR e x (texts L)) = own8 e (fun j => if j = m then x else v j) (fun j => if j = m then L else M j)
  | 0, _ => rfl | 1, _ => rfl | 2, _ => rfl | 3, _ => rfl | 4, _ => rfl | 5, _ => rfl | 6, _ => rfl | 7, _ => rfl
  | k + 8, hk => by omega
variable {W w : World} {A B : Res} {gm m : Nat} {e : TypeId} {v : Nat → Value} {M : Nat → List ByteArray}
theorem may_get (hm : m < 8) : (A :: B :: row8R gm v :: own8 e v M)[m + 3]? = some (ownR e (v m) (texts (M m))) := own8_get e v M m hm
theorem may_done {x : Value} {L : List ByteArray} (h : Hold W w ((A :: B :: row8R gm v :: own8 e v M).set (m + 3) (ownR e x (texts L)))) (hm : m < 8) :
    Hold W (w.setCell ⟨gm, m, none⟩ x) (A :: B :: row8R gm (fun j => if j = m then x else v j) :: own8 e (fun j => if j = m then x else v j) (fun j => if j = m then L else M j)) := by
  have h2 := h.set8 2 (g := gm) (f := v) rfl m hm x
  rw [← own8_set e v M x L m hm]
  exact h2
theorem may_form (h : Hold W w (A :: B :: row8R gm v :: own8 e v M)) (hm : m < 8) : ∃ q cap, v m = .slice q (M m).length cap ∧ ∀ k (hk : k < (M m).length), ∃ b, q = some ⟨b, 0, none⟩ ∧ w.cell? ⟨b, k, none⟩ = some (.string (M m)[k]) := by
  obtain ⟨q, cap, hv, -, hc⟩ := ownR_form (h.get (m + 3) (may_get hm))
  refine ⟨q, cap, by rw [hv, texts, List.length_map], fun k hk => ?_⟩
  obtain ⟨b, e1, e2⟩ := hc k (by rw [texts, List.length_map]; exact hk)
  exact ⟨b, e1, by rw [e2]; simp [texts]⟩
theorem may_made (h : Hold W w [A, B, row8R gm (fun _ => .slice none 0 0)]) (e : TypeId) : Hold W w (A :: B :: row8R gm (fun _ => .slice none 0 0) :: own8 e (fun _ => .slice none 0 0) (fun _ => [])) :=
  (((((((h.nil0 e).nil0 e).nil0 e).nil0 e).nil0 e).nil0 e).nil0 e).nil0 e
theorem may_last {q : Option Addr} {n c : Nat} {L : List ByteArray} (h : Hold W w (A :: B :: row8R gm (fun j => if j = m then .slice q n c else v j) :: own8 e (fun j => if j = m then .slice q n c else v j) (fun j => if j = m then L else M j))) (hm : m < 8) :
    n = L.length ∧ (∀ k (hk : k < L.length), ∃ b, q = some ⟨b, 0, none⟩ ∧ w.cell? ⟨b, k, none⟩ = some (.string L[k])) ∧ w.cell? ⟨gm, m, none⟩ = some (.slice q n c) := by
  obtain ⟨q', cap, hv, hc⟩ := may_form h hm
  have hr := (h.cell8 2 (g := gm) rfl m hm).1
  simp only [if_pos] at hv hr hc
  injection hv with e1 e2 e3
  subst e1 e2 e3
  exact ⟨rfl, hc, hr⟩
end Bw
