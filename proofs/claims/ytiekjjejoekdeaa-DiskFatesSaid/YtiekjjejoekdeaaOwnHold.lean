/- Slices of one-cell elements of the law's own, that append makes longer, as things in memory. -/
import Derived.Test.YtiekjjejoekdeaaRes
import Derived.Maps.AppendAt
import Derived.Laws.MakeOwn
import Derived.Test.YtiekjjejoekdeaaDsWalk4
namespace Bw
open Go Go.RowKit
set_option linter.unusedVariables false
def ownR (e : TypeId) (v : Value) (L : List Value) : Res := ⟨fun k => v.ownBlock = some k, fun w => w.ownsRow 0 e 1 v L.length L, fun hA hk h => ownsRow_allS h hA (fun k hk' => hk k hk'), fun h hk => (World.ownsRow.lt h _ hk).2⟩
variable {W w : World} {l : List Res}
theorem Hold.made0 (h : Hold W w l) (e : TypeId) : Hold W (w.alloc (.cells #[] e)) (l ++ [ownR e (.slice (some ⟨w.heap.size, 0, none⟩) 0 0) []]) :=
  h.add ((Below.refl _ w).alloc (Nat.le_refl _) _) (ownR e _ []) (World.ownsRow_made (base := 0) (e := e) (size := 1) w #[] 0 (Nat.zero_le _) (by decide) (by rfl)) fun k hk => by
    have hk' : (Value.slice (some ⟨w.heap.size, 0, none⟩) 0 0).ownBlock = some k := hk
    have : w.heap.size = k := by simpa [Value.ownBlock] using hk'
    omega
theorem Hold.nil0 (h : Hold W w l) (e : TypeId) : Hold W w (l ++ [ownR e (.slice none 0 0) []]) :=
  h.add (Below.refl _ w) (ownR e _ []) (World.ownsRow_nil _ _ _ _) fun k hk => by
    have hk' : (Value.slice none 0 0).ownBlock = some k := hk
    simp [Value.ownBlock] at hk'
theorem ownR_form {e : TypeId} {v : Value} {L : List Value} (h : (ownR e v L).holds w) : ∃ q cap, v = .slice q L.length cap ∧ (∀ a, q = some a → v.ownBlock = some a.block) ∧ ∀ k (hk : k < L.length), ∃ b, q = some ⟨b, 0, none⟩ ∧ w.cell? ⟨b, k, none⟩ = some L[k] := by
  have h' : w.ownsRow 0 e 1 v L.length L := h
  rcases h'.2 with ⟨rfl, h0⟩ | ⟨g, cap, cur, rfl, hb, hg, -⟩
  · have e : L = [] := List.length_eq_zero_iff.1 h0
    subst e
    exact ⟨none, 0, rfl, fun a ha => (by cases ha), fun k hk => absurd hk (Nat.not_lt_zero _)⟩
  · refine ⟨some ⟨g, 0, none⟩, cap, rfl, fun a ha => by injection ha with ha; subst ha; rfl, fun k hk => ⟨g, rfl, ?_⟩⟩
    rw [World.ownsRow.cellAt h' _ (by omega)]
    exact List.getElem?_eq_getElem hk
theorem own_ints {e : TypeId} {v : Value} {L : List Int} (h : (ownR e v (L.map (.int .i64 ·))).holds w) : ∃ q cap, v = .slice q L.length cap ∧ IntsAt w q L ∧ ∀ a, q = some a → v.ownBlock = some a.block := by
  obtain ⟨q, cap, hv, ho, hc⟩ := ownR_form h
  rw [List.length_map] at hv
  refine ⟨q, cap, hv, fun k hk => ?_, ho⟩
  obtain ⟨b, rfl, hcell⟩ := hc k (by rw [List.length_map]; exact hk)
  refine ⟨b, 0, rfl, ?_⟩
  rw [Nat.zero_add, hcell, List.getElem_map]

section
variable {P : Program} {ops : Array Oper} {rest : List Oper} {o : Oper} {a : Act} {Q : Exit → Act → World → Prop}
/-- append of one value to a slice of the law's own. -/
theorem wpList_append1 (hgd : o.guard = none) (s x : Operand) (t : TypeId) (ho : o.op = .call { callee := .builtin .append, args := #[s, x], argTypes := #[t, t] })
    (e : TypeId) (i : TypeInfo) (z : Value) (bytes : Nat) (ht : P.underlying t = some (.slice e)) (hi : P.info? e = some i) (hz : i.zero = some z) (hsize : i.size = 1) (hby : i.bytes = bytes) (hzs : z.cells.size = 1)
    (hH : Hold W w l) (j : Nat) (v : Value) (L : List Value) (n : Nat) (hn : L.length = n) (hj : l[j]? = some (ownR e v L)) (hs : a.eval s = v) (ad : Addr) (c : Nat) (u : Value) (hx : a.eval x = .slice (some ad) 1 c)
    (hnews : ∀ j v, [u][j]? = some v → w.cell? (ad.add j) = some v) (hu : u.oneCell' = true) (h63 : n + 1 ≤ maxLen) (hbytes : (n + 1) * bytes ≤ 140737488355328)
    (h : ∀ b cap w', Hold W w' (l.set j (ownR e (.slice (some ⟨b, 0, none⟩) (n + 1) cap) (L ++ [u]))) → wpList P ops Q rest (a.put o.dst (.slice (some ⟨b, 0, none⟩) (n + 1) cap)) w') :
    wpList P ops Q (o :: rest) a w := by
  subst hn
  refine wpList_append_own_at w hgd s x t ho 0 e i z 1 bytes ht hi hz hsize hby hzs (by omega) v L.length L hs (hH.get j hj) ad 1 c [u] hx rfl hnews (fun y hy => by simp at hy; subst hy; exact hu) h63 hbytes (Nat.zero_le _) ?_
  intro v' w' how hgrow _ hloc
  obtain ⟨b, cap, rfl⟩ : ∃ b cap, v' = .slice (some ⟨b, 0, none⟩) (L.length + 1) cap := by
    rcases how.2 with ⟨_, h0⟩ | ⟨g, cap, cur, rfl, _⟩
    · omega
    · exact ⟨g, cap, rfl⟩
  refine h b cap w' (hH.step j hj (ownR e _ _) ?_ ?_ ((AllS.refl _ w).grown hgrow (fun k hk => .inl hk)))
  · show w'.ownsRow 0 e 1 _ (L ++ [u]).length (L ++ [u])
    rw [List.length_append]
    exact how
  · intro k hk
    have hk' : (Value.slice (some ⟨b, 0, none⟩) (L.length + 1) cap).ownBlock = some k := hk
    rcases hloc with e1 | e1
    · exact .inl (e1.symm.trans hk')
    · rw [hk'] at e1
      injection e1 with e1
      exact .inr (by omega)
end
end Bw
