/- The document's disk, as things in memory: a row of two slices, a slice of texts, a slice of writes. -/
import Derived.Test.YtiekjjejoekdeaaDsHold
import Derived.Test.YtiekjjejoekdeaaRes2
import Derived.Laws.OwnMore
namespace Bw
open Go Go.RowKit
set_option linter.unusedVariables false
/-- A slice of the law's own, of whatever elements. -/
def ownZ (e : TypeId) (size : Nat) (v : Value) (n : Nat) (xs : List Value) : Res := ⟨fun k => v.ownBlock = some k, fun w => w.ownsRow 0 e size v n xs, fun hA hk h => ownsRow_allS h hA (fun k hk' => hk k hk'), fun h hk => (World.ownsRow.lt h _ hk).2⟩
variable {W w : World} {l : List Res}
def textsK (n : Nat) (K : Int → ByteArray) : List Value := (List.range n).map fun j : Nat => .string (K j)
theorem textsK_length (n : Nat) (K : Int → ByteArray) : (textsK n K).length = n := by simp [textsK]
theorem textsK_get (n : Nat) (K : Int → ByteArray) (j : Nat) (h : j < n) : (textsK n K)[j]? = some (.string (K j)) := by simp [textsK, h]
theorem textsK_set (n : Nat) (K : Int → ByteArray) (p : Nat) (s : ByteArray) : (textsK n K).set p (.string s) = textsK n (setK K p s) := by
  apply List.ext_getElem (by simp [textsK])
  intro i h1 h2
  rw [List.getElem_set]
  simp only [textsK, List.getElem_map, List.getElem_range]
  unfold setK
  by_cases e : p = i
  · subst e; simp
  · rw [if_neg e, if_neg (by omega)]
theorem textsK_succ (n : Nat) (K : Int → ByteArray) : textsK n K ++ [.string (K n)] = textsK (n + 1) K := by simp [textsK, List.range_succ]
/-- What lies in a slice of the law's own. -/
theorem ownZ_form {e : TypeId} {size : Nat} {v : Value} {n : Nat} {xs : List Value} (h : (ownZ e size v n xs).holds w) : ∃ q cap, v = .slice q n cap ∧ (∀ a, q = some a → v.ownBlock = some a.block) ∧
    (0 < n → ∃ b, q = some ⟨b, 0, none⟩ ∧ b < w.heap.size ∧ ∀ j, j < n * size → w.cell? ⟨b, j, none⟩ = xs[j]?) := by
  have h' : w.ownsRow 0 e size v n xs := h
  rcases h'.2 with ⟨rfl, h0⟩ | ⟨g, cap, cur, rfl, hb, hg, -⟩
  · subst h0
    exact ⟨none, 0, rfl, fun a ha => (by cases ha), fun h0 => absurd h0 (Nat.lt_irrefl _)⟩
  · refine ⟨some ⟨g, 0, none⟩, cap, rfl, fun a ha => by injection ha with ha; subst ha; rfl, fun _ => ⟨g, rfl, (Array.getElem?_eq_some_iff.1 hg).1, fun j hj => ?_⟩⟩
    exact World.ownsRow.cellAt h' _ hj
theorem Hold.putZ (h : Hold W w l) (i : Nat) {e : TypeId} {size n cap b : Nat} {xs : List Value} (hi : l[i]? = some (ownZ e size (.slice (some ⟨b, 0, none⟩) n cap) n xs)) (j : Nat) (u : Value) :
    Hold W (w.setCell ⟨b, j, none⟩ u) (l.set i (ownZ e size (.slice (some ⟨b, 0, none⟩) n cap) n (xs.set j u))) := by
  have h' : w.ownsRow 0 e size (.slice (some ⟨b, 0, none⟩) n cap) n xs := h.get i hi
  obtain ⟨h1, h2⟩ := h'.stored j u
  exact h.step i hi (ownZ e size _ n _) h1 (fun k hk => .inl hk) ((AllS.refl _ w).grown h2 (fun k hk => .inl hk))
theorem Hold.putRow (h : Hold W w l) (i : Nat) {g : Nat} {v : Value} {vs : List Value} (hi : l[i]? = some (rowR g v vs)) (j : Nat) (u v' : Value) (vs' : List Value) (hj : j < (v :: vs).length) (he : (v :: vs).set j u = v' :: vs') :
    Hold W (w.setCell ⟨g, j, none⟩ u) (l.set i (rowR g v' vs')) := by
  have hr : RowAt w g (v :: vs) := h.get i hi
  refine h.step i hi (rowR g v' vs') ?_ (fun k hk => .inl hk) ((AllS.refl _ w).setCell g j u (.inl rfl))
  show RowAt _ g (v' :: vs')
  rw [← he]
  exact hr.set j u hj
theorem Hold.row2 (h : Hold W w l) (i : Nat) {g : Nat} {a b : Value} (hi : l[i]? = some (rowR g a [b])) : w.cell? ⟨g, 0, none⟩ = some a ∧ w.cell? ⟨g, 1, none⟩ = some b ∧ w.frozen? ⟨g, 0, none⟩ = false ∧ w.frozen? ⟨g, 1, none⟩ = false :=
  RowAt.c2 (h.get i hi)
theorem Hold.perm {l' : List Res} (h : Hold W w l) (hp : l.Perm l') : Hold W w l' :=
  ⟨h.up, fun R hR => h.all R (hp.mem_iff.2 hR), (hp.pairwise_iff (fun {R T} hRT k hk hk' => hRT k hk' hk)).1 h.apart⟩
theorem Hold.madeZ (h : Hold W w l) (e : TypeId) (size : Nat) : Hold W (w.alloc (.cells #[] e)) (l ++ [ownZ e size (.slice (some ⟨w.heap.size, 0, none⟩) 0 0) 0 []]) :=
  h.add ((Below.refl _ w).alloc (Nat.le_refl _) _) (ownZ e size _ 0 []) (World.ownsRow_made (base := 0) (e := e) (size := size) w #[] 0 (Nat.zero_le _) (by decide) (by simp)) fun k hk => by
    have hk' : (Value.slice (some ⟨w.heap.size, 0, none⟩) 0 0).ownBlock = some k := hk
    have : w.heap.size = k := by simpa [Value.ownBlock] using hk'
    omega
theorem Hold.nilZ (h : Hold W w l) (e : TypeId) (size : Nat) : Hold W w (l ++ [ownZ e size (.slice none 0 0) 0 []]) :=
  h.add (Below.refl _ w) (ownZ e size _ 0 []) (World.ownsRow_nil _ _ _ _) fun k hk => by
    have hk' : (Value.slice none 0 0).ownBlock = some k := hk
    simp [Value.ownBlock] at hk'
theorem Hold.turnNil (h : Hold W w l) (i : Nat) {e : TypeId} {size n : Nat} {v : Value} {xs : List Value} (hi : l[i]? = some (ownZ e size v n xs)) : Hold W w (l.set i (ownZ e size (.slice none 0 0) 0 [])) :=
  h.step i hi (ownZ e size _ 0 []) (World.ownsRow_nil _ _ _ _) (fun k hk => by
    have hk' : (Value.slice none 0 0).ownBlock = some k := hk
    simp [Value.ownBlock] at hk') (AllS.refl _ w)
theorem Hold.madeRow (h : Hold W w l) (v : Value) (vs : List Value) (e : TypeId) : Hold W (w.alloc (.cells (v :: vs).toArray e)) (l ++ [rowR w.heap.size v vs]) :=
  h.add ((Below.refl _ w).alloc (Nat.le_refl _) _) (rowR _ v vs) (RowAt.made w e (v :: vs)) fun k hk => by have hk' : k = w.heap.size := hk; omega

section
variable {P : Program} {ops : Array Oper} {rest : List Oper} {o : Oper} {a : Act} {Q : Exit → Act → World → Prop}
/-- append of one element of whatever size to a slice of the law's own. -/
theorem wpList_appendZ (hgd : o.guard = none) (s x : Operand) (t : TypeId) (ho : o.op = .call { callee := .builtin .append, args := #[s, x], argTypes := #[t, t] })
    (e : TypeId) (i : TypeInfo) (z : Value) (size bytes : Nat) (ht : P.underlying t = some (.slice e)) (hi : P.info? e = some i) (hz : i.zero = some z) (hsize : i.size = size) (hby : i.bytes = bytes) (hzs : z.cells.size = size) (hsz : 0 < size)
    (hH : Hold W w l) (j : Nat) (v : Value) (L : List Value) (n : Nat) (hj : l[j]? = some (ownZ e size v n L)) (hs : a.eval s = v) (ad : Addr) (c : Nat) (news : List Value) (hx : a.eval x = .slice (some ad) 1 c) (hl : news.length = 1 * size)
    (hnews : ∀ j v, news[j]? = some v → w.cell? (ad.add j) = some v) (hu : ∀ u ∈ news, u.oneCell' = true) (h63 : n + 1 ≤ maxLen) (hbytes : (n + 1) * bytes ≤ 140737488355328)
    (h : ∀ b cap w', Hold W w' (l.set j (ownZ e size (.slice (some ⟨b, 0, none⟩) (n + 1) cap) (n + 1) (L ++ news))) → wpList P ops Q rest (a.put o.dst (.slice (some ⟨b, 0, none⟩) (n + 1) cap)) w') :
    wpList P ops Q (o :: rest) a w := by
  refine wpList_append_own_at w hgd s x t ho 0 e i z size bytes ht hi hz hsize hby hzs hsz v n L hs (hH.get j hj) ad 1 c news hx hl hnews hu h63 hbytes (Nat.zero_le _) ?_
  intro v' w' how hgrow _ hloc
  obtain ⟨b, cap, rfl⟩ : ∃ b cap, v' = .slice (some ⟨b, 0, none⟩) (n + 1) cap := by
    rcases how.2 with ⟨_, h0⟩ | ⟨g, cap, cur, rfl, _⟩
    · omega
    · exact ⟨g, cap, rfl⟩
  refine h b cap w' (hH.step j hj (ownZ e size _ _ _) how ?_ ((AllS.refl _ w).grown hgrow (fun k hk => .inl hk)))
  intro k hk
  have hk' : (Value.slice (some ⟨b, 0, none⟩) (n + 1) cap).ownBlock = some k := hk
  rcases hloc with e1 | e1
  · exact .inl (e1.symm.trans hk')
  · rw [hk'] at e1
    injection e1 with e1
    exact .inr (by omega)
end
end Bw
namespace Go.Proofs.Ytiekjjejoekdeaa
open Go.RowKit Bw
set_option linter.unusedVariables false
def rL (vL : Value) (d : DiskD) : Res := ownZ 9 1 vL d.n (textsK d.n d.K)
def rW (vW : Value) (L : List WriteD) : Res := ownZ 68 2 vW L.length (cellsW L)
/-- A thing, the document's disk, and other things. -/
def refs (X : Res) (g : Nat) (vL vW : Value) (d : DiskD) (T : List Res) : List Res := X :: rowR g vL [vW] :: rL vL d :: rW vW d.W :: T
variable {W w : World} {X : Res} {T : List Res} {g : Nat} {vL vW : Value} {d : DiskD}
theorem refs_row (h : Hold W w (refs X g vL vW d T)) : w.cell? ⟨g, 0, none⟩ = some vL ∧ w.cell? ⟨g, 1, none⟩ = some vW ∧ w.frozen? ⟨g, 0, none⟩ = false ∧ w.frozen? ⟨g, 1, none⟩ = false := h.row2 1 rfl
theorem refs_L (h : Hold W w (refs X g vL vW d T)) (hn : 0 < d.n) : ∃ b cap, vL = .slice (some ⟨b, 0, none⟩) d.n cap ∧ ∀ p, p < d.n → w.cell? ⟨b, p, none⟩ = some (.string (d.K p)) := by
  obtain ⟨q, cap, rfl, -, hc⟩ := ownZ_form (h.get 2 (R := rL vL d) rfl)
  obtain ⟨b, rfl, -, hc⟩ := hc hn
  exact ⟨b, cap, rfl, fun p hp => by rw [hc p (by omega), textsK_get _ _ _ hp]⟩
theorem refs_W (h : Hold W w (refs X g vL vW d T)) : ∃ q cap, vW = .slice q d.W.length cap ∧ ∀ k (hk : k < d.W.length), ∃ b, q = some ⟨b, 0, none⟩ ∧ w.cell? ⟨b, k * 2, none⟩ = some (.int .i64 d.W[k].1) ∧ w.cell? ⟨b, k * 2 + 1, none⟩ = some (.string d.W[k].2) := by
  obtain ⟨q, cap, rfl, -, hc⟩ := ownZ_form (h.get 3 (R := rW vW d.W) rfl)
  refine ⟨q, cap, rfl, fun k hk => ?_⟩
  obtain ⟨b, rfl, -, hc⟩ := hc (by omega)
  refine ⟨b, rfl, ?_, ?_⟩
  · rw [hc _ (by omega), Nat.mul_comm]; exact (cellsW_get d.W k hk).1
  · rw [hc _ (by omega), Nat.mul_comm]; exact (cellsW_get d.W k hk).2
theorem refs_free {b cap n : Nat} (h : Hold W w (refs X g (.slice (some ⟨b, 0, none⟩) n cap) vW d T)) (hn : d.n = n) (p : Nat) (hp : p < n) : w.cell? ⟨b, p, none⟩ = some (.string (d.K p)) ∧ w.frozen? ⟨b, p, none⟩ = false := by
  have h2 : w.ownsRow 0 9 1 (.slice (some ⟨b, 0, none⟩) n cap) d.n (textsK d.n d.K) := h.get 2 (R := rL _ d) rfl
  rw [hn] at h2
  refine ⟨?_, h2.frozenAt p⟩
  rw [World.ownsRow.cellAt h2 p (by omega), textsK_get _ _ _ hp]
/-- L[p] = s. -/
theorem refs_put {b cap : Nat} (h : Hold W w (refs X g (.slice (some ⟨b, 0, none⟩) d.n cap) vW d T)) (p : Nat) (s : ByteArray) : Hold W (w.setCell ⟨b, p, none⟩ (.string s)) (refs X g (.slice (some ⟨b, 0, none⟩) d.n cap) vW { d with K := setK d.K p s } T) := by
  have h2 := h.putZ 2 (e := 9) (size := 1) (n := d.n) (cap := cap) (b := b) (xs := textsK d.n d.K) rfl p (.string s)
  rw [textsK_set] at h2
  exact h2
/-- W = nil. -/
theorem refs_clear (h : Hold W w (refs X g vL vW d T)) : Hold W (w.setCell ⟨g, 1, none⟩ (.slice none 0 0)) (refs X g vL (.slice none 0 0) { d with W := [] } T) := by
  have h2 := h.turnNil 3 (e := 68) (size := 2) (n := d.W.length) (v := vW) (xs := cellsW d.W) rfl
  exact h2.putRow 1 (g := g) (v := vL) (vs := [vW]) rfl 1 (.slice none 0 0) vL [.slice none 0 0] (by simp) rfl
end Go.Proofs.Ytiekjjejoekdeaa
