/- Rows and slices of a law's own, as things in memory. -/
import Derived.Test.YtokpkkjgagbpfaaHold
import Derived.Maps.AppendAt
import Derived.Laws.MakeOwn
import Derived.Test.YtokpkkjgagbpfaaDsWalkM
import Derived.Test.YtokpkkjgagbpfaaDsHold
import Derived.Laws.OwnMore
import Derived.Test.YtokpkkjgagbpfaaDsPure2
import Derived.Test.YtokpkkjgagbpfaaDsDirty
namespace Bw
open Go Go.RowKit
set_option linter.unusedVariables false
def row8 (h : Nat → Value) : List Value := [h 0, h 1, h 2, h 3, h 4, h 5, h 6, h 7]
theorem row8_length (h : Nat → Value) : (row8 h).length = 8 := rfl
theorem row8_get (h : Nat → Value) : ∀ (k : Nat) (hk : k < (row8 h).length), (row8 h)[k] = h k
  | 0, _ => rfl | 1, _ => rfl | 2, _ => rfl | 3, _ => rfl | 4, _ => rfl | 5, _ => rfl | 6, _ => rfl | 7, _ => rfl
  | k + 8, hk => by rw [row8_length] at hk; omega
theorem row8_set (h : Nat → Value) (m : Nat) (v : Value) (hm : m < 8) : (row8 h).set m v = row8 (fun j => if j = m then v else h j) := by
  apply List.ext_getElem (by simp [row8_length])
  intro i h1 h2
  rw [row8_get, List.getElem_set]
  split
  · rw [if_pos (by omega)]
  · rw [if_neg (by omega), row8_get]
def row8R (g : Nat) (h : Nat → Value) : Res := ⟨fun k => k = g, fun w => RowAt w g (row8 h), fun hA hk hr => RowAt.allS hr hA (hk g rfl), fun {w k} hr hk => by have hk' : k = g := hk; rw [hk']; exact RowAt.lt hr⟩
variable {W w : World} {l : List Res}
theorem Hold.cell8 (h : Hold W w l) (i : Nat) {g : Nat} {f : Nat → Value} (hi : l[i]? = some (row8R g f)) (k : Nat) (hk : k < 8) : w.cell? ⟨g, k, none⟩ = some (f k) ∧ w.frozen? ⟨g, k, none⟩ = false := by
  have hr : RowAt w g (row8 f) := h.get i hi
  have hk' : k < (row8 f).length := hk
  exact ⟨(hr.cell k hk').trans (congrArg some (row8_get f k hk')), hr.free k hk'⟩
theorem Hold.set8 (h : Hold W w l) (i : Nat) {g : Nat} {f : Nat → Value} (hi : l[i]? = some (row8R g f)) (m : Nat) (hm : m < 8) (v : Value) : Hold W (w.setCell ⟨g, m, none⟩ v) (l.set i (row8R g (fun j => if j = m then v else f j))) := by
  have hr : RowAt w g (row8 f) := h.get i hi
  refine h.step i hi (row8R g _) ?_ (fun k hk => .inl hk) ((AllS.refl _ w).setCell g m v (.inl rfl))
  show RowAt _ g (row8 _)
  rw [← row8_set f m v hm]
  exact hr.set m v hm
theorem Hold.made8 (h : Hold W w l) (f : Nat → Value) (e : TypeId) : Hold W (w.alloc (.cells (row8 f).toArray e)) (l ++ [row8R w.heap.size f]) :=
  h.add ((Below.refl _ w).alloc (Nat.le_refl _) _) (row8R _ f) (RowAt.made w e (row8 f)) fun k hk => by have hk' : k = w.heap.size := hk; omega
end Bw
namespace Bw
open Go Go.RowKit
set_option linter.unusedVariables false
def ownR (e : TypeId) (v : Value) (L : List Value) : Res := ⟨fun k => v.ownBlock = some k, fun w => w.ownsRow 0 e 1 v L.length L, fun hA hk h => ownsRow_allS h hA (fun k hk' => hk k hk'), fun h hk => (World.ownsRow.lt h _ hk).2⟩
variable {W w : World} {l : List Res}
theorem Hold.made0 (h : Hold W w l) (e : TypeId) : Hold W (w.alloc (.cells #[] e)) (l ++ [ownR e (.slice (some ⟨w.heap.size, 0, none⟩) 0 0) []]) :=
  h.add ((Below.refl _ w).alloc (Nat.le_refl _) _) (ownR e _ []) (World.ownsRow_made (base := 0) (e := e) (size := 1) w #[] 0 (Nat.zero_le _) (by decide) (by rfl)) fun k hk => by
    have hk' : (Value.slice (some ⟨w.heap.size, 0, none⟩) 0 0).ownBlock = some k := hk
    have : w.heap.size = k := by simpa [Value.ownBlock] using hk'
    omega
theorem Hold.nil0 (h : Hold W w l) (e : TypeId) : Hold W w (l ++ [ownR e (.slice none 0 0) []]) :=
  h.add (Below.refl _ w) (ownR e _ []) (World.ownsRow_nil _ _ _ _) fun k hk => by
    have hk' : (Value.slice none 0 0).ownBlock = some k := hk
    simp [Value.ownBlock] at hk'
theorem ownR_form {e : TypeId} {v : Value} {L : List Value} (h : (ownR e v L).holds w) : ∃ q cap, v = .slice q L.length cap ∧ (∀ a, q = some a → v.ownBlock = some a.block) ∧ ∀ k (hk : k < L.length), ∃ b, q = some ⟨b, 0, none⟩ ∧ w.cell? ⟨b, k, none⟩ = some L[k] := by
  have h' : w.ownsRow 0 e 1 v L.length L := h
  rcases h'.2 with ⟨rfl, h0⟩ | ⟨g, cap, cur, rfl, hb, hg, -⟩
  · have e : L = [] := List.length_eq_zero_iff.1 h0
    subst e
    exact ⟨none, 0, rfl, fun a ha => (by cases ha), fun k hk => absurd hk (Nat.not_lt_zero _)⟩
  · refine ⟨some ⟨g, 0, none⟩, cap, rfl, fun a ha => by injection ha with ha; subst ha; rfl, fun k hk => ⟨g, rfl, ?_⟩⟩
    rw [World.ownsRow.cellAt h' _ (by omega)]
    exact List.getElem?_eq_getElem hk
theorem own_ints {e : TypeId} {v : Value} {L : List Int} (h : (ownR e v (L.map (.int .i64 ·))).holds w) : ∃ q cap, v = .slice q L.length cap ∧ IntsAt w q L ∧ ∀ a, q = some a → v.ownBlock = some a.block := by
  obtain ⟨q, cap, hv, ho, hc⟩ := ownR_form h
  rw [List.length_map] at hv
  refine ⟨q, cap, hv, fun k hk => ?_, ho⟩
  obtain ⟨b, rfl, hcell⟩ := hc k (by rw [List.length_map]; exact hk)
  refine ⟨b, 0, rfl, ?_⟩
  rw [Nat.zero_add, hcell, List.getElem_map]

section
variable {P : Program} {ops : Array Oper} {rest : List Oper} {o : Oper} {a : Act} {Q : Exit → Act → World → Prop}
/-- append of one value to a slice of the law's own. -/
theorem wpList_append1 (hgd : o.guard = none) (s x : Operand) (t : TypeId) (ho : o.op = .call { callee := .builtin .append, args := #[s, x], argTypes := #[t, t] })
    (e : TypeId) (i : TypeInfo) (z : Value) (bytes : Nat) (ht : P.underlying t = some (.slice e)) (hi : P.info? e = some i) (hz : i.zero = some z) (hsize : i.size = 1) (hby : i.bytes = bytes) (hzs : z.cells.size = 1)
    (hH : Hold W w l) (j : Nat) (v : Value) (L : List Value) (n : Nat) (hn : L.length = n) (hj : l[j]? = some (ownR e v L)) (hs : a.eval s = v) (ad : Addr) (c : Nat) (u : Value) (hx : a.eval x = .slice (some ad) 1 c)
    (hnews : ∀ j v, [u][j]? = some v → w.cell? (ad.add j) = some v) (hu : u.oneCell' = true) (h63 : n + 1 ≤ maxLen) (hbytes : (n + 1) * bytes ≤ 140737488355328)
    (h : ∀ b cap w', Hold W w' (l.set j (ownR e (.slice (some ⟨b, 0, none⟩) (n + 1) cap) (L ++ [u]))) → wpList P ops Q rest (a.put o.dst (.slice (some ⟨b, 0, none⟩) (n + 1) cap)) w') :
    wpList P ops Q (o :: rest) a w := by
  subst hn
  refine wpList_append_own_at w hgd s x t ho 0 e i z 1 bytes ht hi hz hsize hby hzs (by omega) v L.length L hs (hH.get j hj) ad 1 c [u] hx rfl hnews (fun y hy => by simp at hy; subst hy; exact hu) h63 hbytes (Nat.zero_le _) ?_
  intro v' w' how hgrow _ hloc
  obtain ⟨b, cap, rfl⟩ : ∃ b cap, v' = .slice (some ⟨b, 0, none⟩) (L.length + 1) cap := by
    rcases how.2 with ⟨_, h0⟩ | ⟨g, cap, cur, rfl, _⟩
    · omega
    · exact ⟨g, cap, rfl⟩
  refine h b cap w' (hH.step j hj (ownR e _ _) ?_ ?_ ((AllS.refl _ w).grown hgrow (fun k hk => .inl hk)))
  · show w'.ownsRow 0 e 1 _ (L ++ [u]).length (L ++ [u])
    rw [List.length_append]
    exact how
  · intro k hk
    have hk' : (Value.slice (some ⟨b, 0, none⟩) (L.length + 1) cap).ownBlock = some k := hk
    rcases hloc with e1 | e1
    · exact .inl (e1.symm.trans hk')
    · rw [hk'] at e1
      injection e1 with e1
      exact .inr (by omega)
end
end Bw
namespace Bw
open Go Go.RowKit
set_option linter.unusedVariables false
def texts (L : List ByteArray) : List Value := L.map .string
def own8 (e : TypeId) (v : Nat → Value) (M : Nat → List ByteArray) : List Res :=
  [ownR e (v 0) (texts (M 0)), ownR e (v 1) (texts (M 1)), ownR e (v 2) (texts (M 2)), ownR e (v 3) (texts (M 3)), ownR e (v 4) (texts (M 4)), ownR e (v 5) (texts (M 5)), ownR e (v 6) (texts (M 6)), ownR e (v 7) (texts (M 7))]
theorem own8_get (e : TypeId) (v : Nat → Value) (M : Nat → List ByteArray) : ∀ (m : Nat) (hm : m < 8), (own8 e v M)[m]? = some (ownR e (v m) (texts (M m)))
  | 0, _ => rfl | 1, _ => rfl | 2, _ => rfl | 3, _ => rfl | 4, _ => rfl | 5, _ => rfl | 6, _ => rfl | 7, _ => rfl
  | k + 8, hk => by omega
theorem own8_set (e : TypeId) (v : Nat → Value) (M : Nat → List ByteArray) (x : Value) (L : List ByteArray) : ∀ (m : Nat) (hm : m < 8), (own8 e v M).set m (ownR e x (texts L)) = own8 e (fun j => if j = m then x else v j) (fun j => if j = m then L else M j)
  | 0, _ => rfl | 1, _ => rfl | 2, _ => rfl | 3, _ => rfl | 4, _ => rfl | 5, _ => rfl | 6, _ => rfl | 7, _ => rfl
  | k + 8, hk => by omega
variable {W w : World} {A B : Res} {gm m : Nat} {e : TypeId} {v : Nat → Value} {M : Nat → List ByteArray}
theorem may_get (hm : m < 8) : (A :: B :: row8R gm v :: own8 e v M)[m + 3]? = some (ownR e (v m) (texts (M m))) := own8_get e v M m hm
theorem may_done {x : Value} {L : List ByteArray} (h : Hold W w ((A :: B :: row8R gm v :: own8 e v M).set (m + 3) (ownR e x (texts L)))) (hm : m < 8) :
    Hold W (w.setCell ⟨gm, m, none⟩ x) (A :: B :: row8R gm (fun j => if j = m then x else v j) :: own8 e (fun j => if j = m then x else v j) (fun j => if j = m then L else M j)) := by
  have h2 := h.set8 2 (g := gm) (f := v) rfl m hm x
  rw [← own8_set e v M x L m hm]
  exact h2
theorem may_form (h : Hold W w (A :: B :: row8R gm v :: own8 e v M)) (hm : m < 8) : ∃ q cap, v m = .slice q (M m).length cap ∧ ∀ k (hk : k < (M m).length), ∃ b, q = some ⟨b, 0, none⟩ ∧ w.cell? ⟨b, k, none⟩ = some (.string (M m)[k]) := by
  obtain ⟨q, cap, hv, -, hc⟩ := ownR_form (h.get (m + 3) (may_get hm))
  refine ⟨q, cap, by rw [hv, texts, List.length_map], fun k hk => ?_⟩
  obtain ⟨b, e1, e2⟩ := hc k (by rw [texts, List.length_map]; exact hk)
  exact ⟨b, e1, by rw [e2]; simp [texts]⟩
theorem may_made (h : Hold W w [A, B, row8R gm (fun _ => .slice none 0 0)]) (e : TypeId) : Hold W w (A :: B :: row8R gm (fun _ => .slice none 0 0) :: own8 e (fun _ => .slice none 0 0) (fun _ => [])) :=
  (((((((h.nil0 e).nil0 e).nil0 e).nil0 e).nil0 e).nil0 e).nil0 e).nil0 e
theorem may_last {q : Option Addr} {n c : Nat} {L : List ByteArray} (h : Hold W w (A :: B :: row8R gm (fun j => if j = m then .slice q n c else v j) :: own8 e (fun j => if j = m then .slice q n c else v j) (fun j => if j = m then L else M j))) (hm : m < 8) :
    n = L.length ∧ (∀ k (hk : k < L.length), ∃ b, q = some ⟨b, 0, none⟩ ∧ w.cell? ⟨b, k, none⟩ = some (.string L[k])) ∧ w.cell? ⟨gm, m, none⟩ = some (.slice q n c) := by
  obtain ⟨q', cap, hv, hc⟩ := may_form h hm
  have hr := (h.cell8 2 (g := gm) rfl m hm).1
  simp only [if_pos] at hv hr hc
  injection hv with e1 e2 e3
  subst e1 e2 e3
  exact ⟨rfl, hc, hr⟩
end Bw
namespace Bw
open Go Go.RowKit
set_option linter.unusedVariables false
def textsK (n : Nat) (K : Int → ByteArray) : List Value := (List.range n).map fun j : Nat => .string (K j)
theorem textsK_length (n : Nat) (K : Int → ByteArray) : (textsK n K).length = n := by simp [textsK]
theorem textsK_get (n : Nat) (K : Int → ByteArray) (j : Nat) (h : j < n) : (textsK n K)[j]? = some (.string (K j)) := by simp [textsK, h]
theorem textsK_set (n : Nat) (K : Int → ByteArray) (p : Nat) (s : ByteArray) : (textsK n K).set p (.string s) = textsK n (setK K p s) := by
  apply List.ext_getElem (by simp [textsK])
  intro i h1 h2
  rw [List.getElem_set]
  simp only [textsK, List.getElem_map, List.getElem_range]
  unfold setK
  by_cases e : p = i
  · subst e; simp
  · rw [if_neg e, if_neg (by omega)]
theorem textsK_succ (n : Nat) (K : Int → ByteArray) : textsK n K ++ [.string (K n)] = textsK (n + 1) K := by simp [textsK, List.range_succ]
end Bw
namespace Go.Proofs.Ytokpkkjgagbpfaa
set_option maxRecDepth 100000
open Go.RowKit Bw
set_option linter.unusedVariables false
def rL (vL : Value) (d : DiskD) : Res := ownZ 9 1 vL d.n (textsK d.n d.K)
def rW (vW : Value) (L : List WriteD) : Res := ownZ 86 2 vW L.length (cellsW L)
/-- A thing, the document's disk, and other things. -/
def refs (X : Res) (g : Nat) (vL vW : Value) (d : DiskD) (T : List Res) : List Res := X :: rowR g vL [vW] :: rL vL d :: rW vW d.W :: T
variable {W w : World} {X : Res} {T : List Res} {g : Nat} {vL vW : Value} {d : DiskD}
theorem refs_row (h : Hold W w (refs X g vL vW d T)) : w.cell? ⟨g, 0, none⟩ = some vL ∧ w.cell? ⟨g, 1, none⟩ = some vW ∧ w.frozen? ⟨g, 0, none⟩ = false ∧ w.frozen? ⟨g, 1, none⟩ = false := h.row2 1 rfl
theorem refs_L (h : Hold W w (refs X g vL vW d T)) (hn : 0 < d.n) : ∃ b cap, vL = .slice (some ⟨b, 0, none⟩) d.n cap ∧ ∀ p, p < d.n → w.cell? ⟨b, p, none⟩ = some (.string (d.K p)) := by
  obtain ⟨q, cap, rfl, -, hc⟩ := ownZ_form (h.get 2 (R := rL vL d) rfl)
  obtain ⟨b, rfl, -, hc⟩ := hc hn
  exact ⟨b, cap, rfl, fun p hp => by rw [hc p (by omega), textsK_get _ _ _ hp]⟩
theorem refs_W (h : Hold W w (refs X g vL vW d T)) : ∃ q cap, vW = .slice q d.W.length cap ∧ ∀ k (hk : k < d.W.length), ∃ b, q = some ⟨b, 0, none⟩ ∧ w.cell? ⟨b, k * 2, none⟩ = some (.int .i64 d.W[k].1) ∧ w.cell? ⟨b, k * 2 + 1, none⟩ = some (.string d.W[k].2) := by
  obtain ⟨q, cap, rfl, -, hc⟩ := ownZ_form (h.get 3 (R := rW vW d.W) rfl)
  refine ⟨q, cap, rfl, fun k hk => ?_⟩
  obtain ⟨b, rfl, -, hc⟩ := hc (by omega)
  refine ⟨b, rfl, ?_, ?_⟩
  · rw [hc _ (by omega), Nat.mul_comm]; exact (cellsW_get d.W k hk).1
  · rw [hc _ (by omega), Nat.mul_comm]; exact (cellsW_get d.W k hk).2
theorem refs_free {b cap n : Nat} (h : Hold W w (refs X g (.slice (some ⟨b, 0, none⟩) n cap) vW d T)) (hn : d.n = n) (p : Nat) (hp : p < n) : w.cell? ⟨b, p, none⟩ = some (.string (d.K p)) ∧ w.frozen? ⟨b, p, none⟩ = false := by
  have h2 : w.ownsRow 0 9 1 (.slice (some ⟨b, 0, none⟩) n cap) d.n (textsK d.n d.K) := h.get 2 (R := rL _ d) rfl
  rw [hn] at h2
  refine ⟨?_, h2.frozenAt p⟩
  rw [World.ownsRow.cellAt h2 p (by omega), textsK_get _ _ _ hp]
/-- L[p] = s. -/
theorem refs_put {b cap : Nat} (h : Hold W w (refs X g (.slice (some ⟨b, 0, none⟩) d.n cap) vW d T)) (p : Nat) (s : ByteArray) : Hold W (w.setCell ⟨b, p, none⟩ (.string s)) (refs X g (.slice (some ⟨b, 0, none⟩) d.n cap) vW { d with K := setK d.K p s } T) := by
  have h2 := h.putZ 2 (e := 9) (size := 1) (n := d.n) (cap := cap) (b := b) (xs := textsK d.n d.K) rfl p (.string s)
  rw [textsK_set] at h2
  exact h2
/-- W = nil. -/
theorem refs_clear (h : Hold W w (refs X g vL vW d T)) : Hold W (w.setCell ⟨g, 1, none⟩ (.slice none 0 0)) (refs X g vL (.slice none 0 0) { d with W := [] } T) := by
  have h2 := h.turnNil 3 (e := 86) (size := 2) (n := d.W.length) (v := vW) (xs := cellsW d.W) rfl
  exact h2.putRow 1 (g := g) (v := vL) (vs := [vW]) rfl 1 (.slice none 0 0) vL [.slice none 0 0] (by simp) rfl
end Go.Proofs.Ytokpkkjgagbpfaa
namespace Bw
theorem lastW_step (L : List WriteD) (p : Int) (s : ByteArray) (k : Nat) (h : k < L.length) : lastW (L.take (k + 1)) p s = if L[k].1 = p then L[k].2 else lastW (L.take k) p s := by
  rw [List.take_succ_eq_append_getElem h, lastW_append]
  rfl
end Bw
namespace Go.Proofs.Ytokpkkjgagbpfaa
set_option maxRecDepth 100000
open Go.RowKit Bw
set_option linter.unusedVariables false
variable {W w : World} {X : Res} {T : List Res} {g : Nat} {vL vW : Value} {d : DiskD}
theorem ref4_Raw_no (h : Hold W w (refs X g vL vW d T)) (hok : d.Ok) (hl : d.W.length ≤ 1000) (p : Int) (hp : ¬ (0 ≤ p ∧ p < d.n)) :
    Calls Try.prog 26 #[.pointer (some ⟨g, 0, none⟩), .int .i64 p] w fun e w' => e = .returned (.string ⟨#[]⟩) ∧ w' = w := by
  obtain ⟨x0, x1, -, -⟩ := refs_row h
  obtain ⟨b, cap, rfl, hc⟩ := refs_L h (by have := hok.n1; omega)
  have hn := hok.n1
  clear h hc
  by_cases h0 : p < 0
  · clear hp
    go_enter Try.func26, Try.ntmps26
    go_wp2_with fail
    go_ret
    exact ⟨rfl, rfl⟩
  · have h1 : (d.n : Int) ≤ p := by omega
    have h2 : 0 ≤ p := by omega
    clear hp h0
    go_enter Try.func26, Try.ntmps26
    go_wp2_with fail
    go_ret
    exact ⟨rfl, rfl⟩
set_option maxHeartbeats 1000000 in
theorem ref4_Raw_yes (h : Hold W w (refs X g vL vW d T)) (hok : d.Ok) (hl : d.W.length ≤ 1000) (p : Nat) (hp : p < d.n) :
    Calls Try.prog 26 #[.pointer (some ⟨g, 0, none⟩), .int .i64 p] w fun e w' => e = .returned (.string (lastW d.W p (d.K p))) ∧ w' = w := by
  obtain ⟨x0, x1, -, -⟩ := refs_row h
  obtain ⟨b, cap, rfl, hc⟩ := refs_L h (by have := hok.n1; omega)
  obtain ⟨qw, cw, rfl, hw⟩ := refs_W h
  have y0 := hc p hp
  have h2 : (0 : Int) ≤ (p : Int) := by omega
  have h1 : (p : Int) < (d.n : Int) := by omega
  clear h hc
  have HW := Lib.hid hw
  clear hw hok
  go_enter Try.func26, Try.ntmps26
  go_wp2_with fail
  go_loopw [5, 6] (fun v5 v6 wr => ∃ k : Nat, k ≤ d.W.length ∧ v5 = .string (lastW (d.W.take k) p (d.K p)) ∧ v6 = .int .i64 k ∧ wr = w) (fun _ v _ => d.W.length - (intOf v).toNat)
  case atStart => exact ⟨0, by omega, rfl, rfl, rfl⟩
  case round =>
  obtain ⟨k, hk, rfl, rfl, rfl⟩ := hrel
  clear y0
  by_cases hlt : k < d.W.length
  · have j0 : (0 : Int) ≤ (k : Int) := by omega
    have j1 : (k : Int) < (d.W.length : Int) := by omega
    obtain ⟨bw, rfl, c0, c1⟩ := HW.out k hlt
    have hs := lastW_step d.W p (d.K p) k hlt
    by_cases he : d.W[k].1 = (p : Int)
    · rw [if_pos he] at hs
      have e1 : (d.W[k].1 == (p : Int)) = true := by rw [he]; exact beq_self_eq_true _
      clear he
      have HS := Lib.hid hs
      clear hs
      generalize d.W[k] = x at *
      obtain ⟨xp, xs⟩ := x
      simp only at c0 c1 e1 HS
      go_wp2_with fail
      exact ⟨⟨k + 1, by omega, by rw [HS.out], by go_num, trivial⟩, by simp [intOf]; omega⟩
    · rw [if_neg he] at hs
      have e1 : (d.W[k].1 == (p : Int)) = false := beq_eq_false_iff_ne.2 he
      clear he
      have HS := Lib.hid hs
      clear hs
      generalize d.W[k] = x at *
      obtain ⟨xp, xs⟩ := x
      simp only at c0 c1 e1 HS
      go_wp2_with fail
      exact ⟨⟨k + 1, by omega, by rw [HS.out], by go_num, trivial⟩, by simp [intOf]; omega⟩
  · have j1 : ¬ (k : Int) < (d.W.length : Int) := by omega
    have HT := Lib.hid (show d.W.take k = d.W from List.take_of_length_le (by omega))
    clear hlt
    go_wp2_with fail
    go_ret
    exact ⟨by rw [HT.out]; rfl, rfl⟩
theorem ref4_Raw (h : Hold W w (refs X g vL vW d T)) (hok : d.Ok) (hl : d.W.length ≤ 1000) (p : Int) :
    Calls Try.prog 26 #[.pointer (some ⟨g, 0, none⟩), .int .i64 p] w fun e w' => e = .returned (.string (d.rawD p)) ∧ w' = w := by
  by_cases hp : 0 ≤ p ∧ p < d.n
  · have hb : d.hasB p = true := hasB_iff.2 hp
    obtain ⟨m, rfl⟩ := Int.eq_ofNat_of_zero_le hp.1
    rw [DiskD.rawD, if_pos hb]
    exact ref4_Raw_yes h hok hl m (by have := hp.2; omega)
  · have hb : d.hasB p = false := by
      cases hh : d.hasB p
      · rfl
      · exact absurd (hasB_iff.1 hh) hp
    rw [DiskD.rawD, hb]
    exact ref4_Raw_no h hok hl p hp
theorem ref4_Read_no (h : Hold W w (refs X g vL vW d T)) (hok : d.Ok) (hl : d.W.length ≤ 1000) (p : Int) (hp : ¬ (0 ≤ p ∧ p < d.n)) :
    Calls Try.prog 83 #[.pointer (some ⟨g, 0, none⟩), .int .i64 p] w fun e w' => e = .returned (.tuple #[.string ⟨#[]⟩, .int .i64 1]) ∧ Below w.heap.size w w' := by
  obtain ⟨x0, x1, -, -⟩ := refs_row h
  obtain ⟨b, cap, rfl, hc⟩ := refs_L h (by have := hok.n1; omega)
  have hn := hok.n1
  clear h hc
  by_cases h0 : p < 0
  · clear hp
    go_enter Try.func83, Try.ntmps83
    go_wp2_with fail
    go_ret2
    exact ⟨rfl, Below.refl _ _⟩
  · have h1 : (d.n : Int) ≤ p := by omega
    have h2 : 0 ≤ p := by omega
    clear hp h0
    go_enter Try.func83, Try.ntmps83
    go_wp2_with fail
    go_ret2
    exact ⟨rfl, Below.refl _ _⟩
theorem ref4_Read (h : Hold W w (refs X g vL vW d T)) (hok : d.Ok) (hl : d.W.length ≤ 1000) (p : Int) :
    Calls Try.prog 83 #[.pointer (some ⟨g, 0, none⟩), .int .i64 p] w fun e w' => e = .returned (.tuple #[.string (d.readS p), .int .i64 (d.readE p)]) ∧ Below w.heap.size w w' := by
  by_cases hp : 0 ≤ p ∧ p < d.n
  · have hb : d.hasB p = true := hasB_iff.2 hp
    have C1 := Lib.hid (ref4_Raw h hok hl p)
    have C2 := Lib.hid (fun w => ref2_Open (d.rawD p) w (by have := rawD_size hok p; omega))
    have HS := Lib.hid (show d.readS p = openS (d.rawD p) ∧ d.readE p = openE (d.rawD p) by rw [DiskD.readS, DiskD.readE, if_pos hb, if_pos hb]; exact ⟨rfl, rfl⟩)
    obtain ⟨x0, x1, -, -⟩ := refs_row h
    obtain ⟨b, cap, rfl, hc⟩ := refs_L h (by have := hok.n1; omega)
    have hu := Up.refl w
    have h0 : ¬ p < 0 := by omega
    have h1 : ¬ (d.n : Int) ≤ p := by omega
    have h2 : p < (d.n : Int) := by omega
    clear h hc hok hb hp
    rw [HS.out.1, HS.out.2]
    clear HS
    generalize openS (d.rawD p) = S at *
    generalize openE (d.rawD p) = E at *
    generalize d.rawD p = R at *
    go_enter Try.func83, Try.ntmps83
    go_wp2_with (first
      | ((with_reducible refine C1.out.mono ?_); rintro e w1 ⟨rfl, rfl⟩)
      | ((with_reducible refine (C2.out _).mono ?_); rintro e w2 ⟨rfl, hB⟩; replace hu := hu.next hB; clear hB))
    go_ret2
    exact ⟨rfl, hu⟩
  · have hb : d.hasB p = false := by
      cases hh : d.hasB p
      · rfl
      · exact absurd (hasB_iff.1 hh) hp
    rw [DiskD.readS, DiskD.readE, hb]
    exact ref4_Read_no h hok hl p hp
end Go.Proofs.Ytokpkkjgagbpfaa
namespace Go.Proofs.Ytokpkkjgagbpfaa
set_option maxRecDepth 100000
open Go.RowKit Bw
set_option linter.unusedVariables false
variable {W w : World} {X : Res} {T : List Res} {g : Nat} {vL vW : Value} {d : DiskD}
theorem infoRS : (Try.prog.info? 9).map (fun i => (i.zero, i.size, i.bytes)) = some (some (.string ⟨#[]⟩), 1, 16) := by kernel_rfl
theorem infoRW : (Try.prog.info? 86).map (fun i => (i.zero, i.size, i.bytes)) = some (some (.agg #[.int .i64 0, .string ⟨#[]⟩]), 2, 24) := by kernel_rfl
set_option maxHeartbeats 1000000 in
theorem ref4_Write (h : Hold W w (refs X g vL vW d T)) (hok : d.Ok) (hl : d.W.length ≤ 1000) (p : Int) (s : ByteArray) (hs : s.size ≤ 1099511627776) :
    Calls Try.prog 74 #[.pointer (some ⟨g, 0, none⟩), .int .i64 p, .string s] w fun e w' => e = .returned (.int .i64 (d.writeE p s)) ∧ ∃ vW', Hold W w' (refs X g vL vW' (d.writeD p s) T) := by
  obtain ⟨x0, x1, x2, x3⟩ := refs_row h
  obtain ⟨b, cap, rfl, hc⟩ := refs_L h (by have := hok.n1; omega)
  have hn := hok.n1
  clear hc
  by_cases hp : 0 ≤ p ∧ p < d.n
  · have hb : d.hasB p = true := hasB_iff.2 hp
    have h0 : ¬ p < 0 := by omega
    have h1 : ¬ (d.n : Int) ≤ p := by omega
    have h2 : p < (d.n : Int) := by omega
    by_cases hE : sealE s = 0
    · have e1 : d.writeE p s = 0 := by rw [DiskD.writeE, if_pos hb, hE]
      have e2 : d.writeD p s = { d with W := d.W ++ [(p, sealS s)] } := by rw [DiskD.writeD, if_pos e1]
      have c1 := fun w => ref2_Seal s w hs
      rw [hE] at c1
      have C1 := Lib.hid c1
      rw [e1, e2]
      obtain ⟨qw, cw, rfl, -⟩ := refs_W h
      obtain ⟨inf, hi0', hz0, hz1, hz2⟩ := info_parts infoRW
      have HI := Lib.hid (show Try.prog.info? 86 = some inf ∧ inf.zero = _ ∧ inf.size = 2 ∧ inf.bytes = 24 from ⟨hi0', hz0, hz1, hz2⟩)
      clear hi0' hz0 hz1 hz2 c1 hE e1 e2 hb hp hs
      generalize sealS s = raw at *
      have hD := h
      clear h
      go_enter Try.func74, Try.ntmps74
      go_upto_region 6 with ((with_reducible refine (C1.out _).mono ?_); rintro e w1 ⟨rfl, hB⟩; replace hD := hD.next hB; clear hB)
      clear x0 x1 x2 x3
      obtain ⟨x0, x1, x2, x3⟩ := refs_row hD
      have r6 := RowAt.made w1 86 [.int .i64 p, .string raw]
      obtain ⟨hi0', hz0, hz1, hz2⟩ := HI.out
      go_wp2_with (at_builtin; refine wpList_appendZ rfl _ _ 62 rfl 86 inf (.agg #[.int .i64 0, .string ⟨#[]⟩]) 2 24 (by kernel_rfl) hi0' hz0 hz1 hz2 rfl (by decide) (hD.next ((Below.refl _ _).alloc (Nat.le_refl _) (.cells #[.int .i64 p, .string raw] 86))) 3 _ (cellsW d.W) d.W.length rfl rfl ⟨w1.heap.size, 0, none⟩ 1 [.int .i64 p, .string raw] rfl rfl r6.addsAt (fun x hx => by simp at hx; rcases hx with rfl | rfl <;> rfl) (by unfold maxLen; omega) (by omega) ?_; intro b5 c5 w5 hw; clear x0 x1 x2 x3; obtain ⟨x0, x1, x2, x3⟩ := hw.row2 1 rfl)
      go_ret
      refine ⟨rfl, .slice (some ⟨b5, 0, none⟩) (d.W.length + 1) c5, ?_⟩
      have h3 := hw.putRow 1 rfl 1 (.slice (some ⟨b5, 0, none⟩) (d.W.length + 1) c5) _ _ (by simp) rfl
      have e3 : rW (.slice (some ⟨b5, 0, none⟩) (d.W.length + 1) c5) (d.W ++ [(p, raw)]) = ownZ 86 2 (.slice (some ⟨b5, 0, none⟩) (d.W.length + 1) c5) (d.W.length + 1) (cellsW d.W ++ [.int .i64 p, .string raw]) := by
        unfold rW; rw [cellsW_append, List.length_append]; rfl
      show Hold W _ (X :: rowR g _ [_] :: rL _ d :: rW _ (d.W ++ [(p, raw)]) :: T)
      rw [e3]
      exact h3
    · have e1 : d.writeE p s = 2 := by rw [DiskD.writeE, if_pos hb]; unfold sealE at hE ⊢; split at hE <;> simp_all
      have e2 : d.writeD p s = d := by rw [DiskD.writeD, if_neg (by rw [e1]; decide)]
      have c1 := fun w => ref2_Seal s w hs
      rw [show sealE s = 2 by unfold sealE at hE ⊢; split at hE <;> simp_all] at c1
      have C1 := Lib.hid c1
      rw [e1, e2]
      have hD := h
      clear h c1 hE e1 e2 hb hp hs
      go_enter Try.func74, Try.ntmps74
      go_wp2_with ((with_reducible refine (C1.out _).mono ?_); rintro e w1 ⟨rfl, hB⟩; replace hD := hD.next hB; clear hB)
      go_ret
      exact ⟨rfl, _, hD⟩
  · have hb : d.hasB p = false := by
      cases hh : d.hasB p
      · rfl
      · exact absurd (hasB_iff.1 hh) hp
    have e1 : d.writeE p s = 1 := by rw [DiskD.writeE, hb]; rfl
    have e2 : d.writeD p s = d := by rw [DiskD.writeD, if_neg (by rw [e1]; decide)]
    rw [e1, e2]
    have hD := h
    clear h e1 e2 hb
    by_cases h0 : p < 0
    · clear hp
      go_enter Try.func74, Try.ntmps74
      go_wp2_with fail
      go_ret
      exact ⟨rfl, _, hD⟩
    · have h1 : (d.n : Int) ≤ p := by omega
      have h2 : 0 ≤ p := by omega
      clear hp h0
      go_enter Try.func74, Try.ntmps74
      go_wp2_with fail
      go_ret
      exact ⟨rfl, _, hD⟩
end Go.Proofs.Ytokpkkjgagbpfaa
namespace Bw
theorem syncK_step (L : List WriteD) (K : Int → ByteArray) (k : Nat) (h : k < L.length) : syncK (L.take (k + 1)) K = setK (syncK (L.take k) K) L[k].1 L[k].2 := by
  rw [List.take_succ_eq_append_getElem h, syncK, List.foldl_append]
  rfl
end Bw
namespace Go.Proofs.Ytokpkkjgagbpfaa
set_option maxRecDepth 100000
open Go.RowKit Bw
set_option linter.unusedVariables false
variable {W w : World} {X : Res} {T : List Res} {g : Nat} {vL vW : Value} {d : DiskD}
theorem ref4_New_body (n : Nat) (h1 : 1 ≤ n) (h2 : n ≤ 1024) (h : Hold W w [X]) : Calls Try.prog 11 #[.int .i64 n] w fun e w' => ∃ g vL vW, e = .returned (.tuple #[.pointer (some ⟨g, 0, none⟩), .int .i64 0]) ∧ Hold W w' (refs X g vL vW (initD n) []) := by
  have c1 := fun w => ref2_Seal ⟨#[]⟩ w (by decide)
  rw [show sealS ⟨#[]⟩ = page0 from rfl, show sealE ⟨#[]⟩ = 0 from rfl] at c1
  have C1 := Lib.hid c1; clear c1
  obtain ⟨inf, hi0', hz0, hz1, hz2⟩ := info_parts infoRS
  have HI := Lib.hid (show Try.prog.info? 9 = some inf ∧ inf.zero = _ ∧ inf.size = 1 ∧ inf.bytes = 16 from ⟨hi0', hz0, hz1, hz2⟩)
  clear hi0' hz0 hz1 hz2
  have j1 : ¬ (n : Int) < 1 := by omega
  have j2 : ¬ 1024 < (n : Int) := by omega
  have hD := h
  clear h
  go_enter Try.func11, Try.ntmps11
  go_upto_region 4 with fail
  have hm := ((hD.madeRow (.slice none 0 0) [.slice none 0 0] 64).nilZ 9 1).nilZ 86 2
  replace hD : Hold W _ [X, rowR w.heap.size (.slice none 0 0) [.slice none 0 0], ownZ 9 1 (.slice none 0 0) 0 (textsK 0 (fun _ => page0)), rW (.slice none 0 0) []] := hm
  clear hm
  generalize w.heap.size = g at *
  generalize w.alloc _ = w1 at *
  go_wp2_with ((with_reducible refine (C1.out _).mono ?_); rintro e w2 ⟨rfl, hB⟩; replace hD := hD.next hB; clear hB)
  go_loopw [7] (fun v7 wr => ∃ (k : Nat) (q : Option Addr) (cap : Nat), k ≤ n ∧ v7 = .int .i64 k ∧ Hold W wr [X, rowR g (.slice q k cap) [.slice none 0 0], ownZ 9 1 (.slice q k cap) k (textsK k (fun _ => page0)), rW (.slice none 0 0) []]) (fun v _ => n - (intOf v).toNat)
  case atStart => exact ⟨0, none, 0, by omega, rfl, hD⟩
  case round =>
    clear hD
    obtain ⟨k, q, cap, hk, rfl, hD⟩ := hrel
    obtain ⟨x0, x1, x2, x3⟩ := hD.row2 1 rfl
    by_cases hlt : k < n
    · have j3 : (k : Int) < (n : Int) := by omega
      have HT := Lib.hid (textsK_succ k (fun _ => page0))
      obtain ⟨hi0', hz0, hz1, hz2⟩ := HI.out
      go_wp2_with (at_builtin; refine wpList_appendZ rfl _ _ 49 rfl 9 inf (.string ⟨#[]⟩) 1 16 (by kernel_rfl) hi0' hz0 hz1 hz2 rfl (by decide) (hD.next ((Below.refl _ _).alloc (Nat.le_refl _) (.cells #[.string page0] 9))) 2 _ (textsK k (fun _ => page0)) k rfl rfl ⟨wr.heap.size, 0, none⟩ 1 [.string page0] rfl rfl (cell_one_new _ _ _) (fun x hx => by simp at hx; subst hx; rfl) (by unfold maxLen; omega) (by omega) ?_; intro b5 c5 w5 hw; clear x0 x1 x2 x3; obtain ⟨x0, x1, x2, x3⟩ := hw.row2 1 rfl)
      have h3 := hw.putRow 1 rfl 0 (.slice (some ⟨b5, 0, none⟩) (k + 1) c5) _ _ (by simp) rfl
      rw [HT.out] at h3
      exact ⟨⟨k + 1, some ⟨b5, 0, none⟩, c5, by omega, by go_num, h3⟩, by simp [intOf]; omega⟩
    · have j3 : ¬ (k : Int) < (n : Int) := by omega
      obtain rfl : k = n := by omega
      go_wp2_with fail
      go_ret2
      exact ⟨g, rfl, _, _, hD⟩

set_option maxHeartbeats 2000000 in
theorem ref4_Sync (h : Hold W w (refs X g vL vW d T)) (hok : d.Ok) (hl : d.W.length ≤ 1000) :
    Calls Try.prog 52 #[.pointer (some ⟨g, 0, none⟩)] w fun e w' => e = .returned (.tuple #[]) ∧ ∃ vW', Hold W w' (refs X g vL vW' d.syncD T) := by
  obtain ⟨qw, cw, rfl, -⟩ := refs_W h
  obtain ⟨b, cap, rfl, -⟩ := refs_L h (by have := hok.n1; omega)
  go_enter Try.func52, Try.ntmps52
  go_wp2_with fail
  go_loopw [2] (fun v2 wr => ∃ k : Nat, k ≤ d.W.length ∧ v2 = .int .i64 k ∧ Hold W wr (refs X g (.slice (some ⟨b, 0, none⟩) d.n cap) (.slice qw d.W.length cw) { d with K := syncK (d.W.take k) d.K } T)) (fun v _ => d.W.length - (intOf v).toNat)
  case atStart => exact ⟨0, by omega, rfl, h⟩
  case round =>
    clear h
    obtain ⟨k, hk, rfl, hD⟩ := hrel
    obtain ⟨x0, x1, x2, x3⟩ := refs_row hD
    by_cases hlt : k < d.W.length
    · have j0 : (0 : Int) ≤ (k : Int) := by omega
      have j1 : (k : Int) < (d.W.length : Int) := by omega
      obtain ⟨q', c', hv, hc⟩ := refs_W hD
      injection hv with hv _ _
      subst hv
      obtain ⟨bq, rfl, a1, a2⟩ := hc k hlt
      obtain ⟨hp0, hp1, -⟩ := hok.W1 _ (List.getElem_mem hlt)
      have hst := syncK_step d.W d.K k hlt
      clear hc
      simp only at a1 a2
      generalize d.W[k] = x at *
      obtain ⟨p, s⟩ := x
      simp only at a1 a2 hp0 hp1 hst
      obtain ⟨m, rfl⟩ := Int.eq_ofNat_of_zero_le hp0
      have hm : m < d.n := by omega
      go_upto_region 3 with fail
      refine wp_region_later_tail 21 (by kernel_rfl) (by kernel_rfl) ?_
      have l1 := Later.cell_of x0; have l2 := Later.cell_of x1; have l3 := Later.cell_of a1; have l4 := Later.cell_of a2
      have hne := later_ne wr
      simp only [List.take_succ_cons, List.take_zero]
      repeat (go_big_quiet_step (fail))
      refine wpQuiet_nil ?_
      intro w9 hw9
      obtain ⟨u9, rfl⟩ := hw9
      replace hD := hD.next u9.up
      clear l1 l2 l3 l4 hne x0 x1 x2 x3 a1 a2
      generalize u9.world = w9 at *
      obtain ⟨hcz, hfz⟩ := refs_free hD rfl m hm
      have hD2 := refs_put (d := { d with K := syncK (d.W.take k) d.K }) hD m s
      simp only [List.drop_succ_cons, List.drop_zero]
      go_wp2_with fail
      rw [← hst] at hD2
      exact ⟨⟨k + 1, by omega, by go_num, hD2⟩, by simp [intOf]; omega⟩
    · have j1 : ¬ (k : Int) < (d.W.length : Int) := by omega
      have hT := Lib.hid (show syncK (d.W.take k) d.K = syncK d.W d.K by rw [List.take_of_length_le (by omega)])
      have hD2 := refs_clear hD
      go_wp2_with fail
      go_end0
      rw [hT.out] at hD2
      exact ⟨rfl, _, hD2⟩
end Go.Proofs.Ytokpkkjgagbpfaa
namespace Bw
theorem crashK_over : ∀ (W : List WriteD) (L : List Int) (K : Int → ByteArray) (k : Nat), L.length ≤ k → crashK (W.take k) L K = crashK W L K
  | [], L, K, k, _ => by simp
  | w :: W, [], K, k, _ => by cases k <;> simp [crashK]
  | w :: W, f :: L, K, 0, h => by simp at h
  | w :: W, f :: L, K, k + 1, h => by
    rw [List.take_succ_cons]
    exact crashK_over W L (meetK K w f) k (by simpa using h)
end Bw
namespace Go.Proofs.Ytokpkkjgagbpfaa
set_option maxRecDepth 100000
open Go.RowKit Bw
set_option linter.unusedVariables false
variable {W w : World} {X : Res} {T : List Res} {g : Nat} {vL vW : Value} {d : DiskD}
set_option maxHeartbeats 4000000 in
set_option maxRecDepth 100000 in
theorem ref4_Crash (h : Hold W w (refs X g vL vW d T)) (hok : d.Ok) (hl : d.W.length ≤ 1000) (L : List Int) (fa : Option Addr) (fc : Nat) (hI : IntsAt W fa L) (hL : L.length ≤ 1000) :
    Calls Try.prog 23 #[.pointer (some ⟨g, 0, none⟩), .slice fa L.length fc] w fun e w' => e = .returned (.tuple #[]) ∧ ∃ vW', Hold W w' (refs X g vL vW' (d.crashD L) T) := by
  obtain ⟨qw, cw, rfl, -⟩ := refs_W h
  obtain ⟨b, cap, rfl, -⟩ := refs_L h (by have := hok.n1; omega)
  go_enter Try.func23, Try.ntmps23
  go_wp2_with fail
  go_loopw [4] (fun v4 wr => ∃ k : Nat, k ≤ d.W.length ∧ k ≤ L.length ∧ v4 = .int .i64 k ∧ Hold W wr (refs X g (.slice (some ⟨b, 0, none⟩) d.n cap) (.slice qw d.W.length cw) { d with K := crashK (d.W.take k) L d.K } T)) (fun v _ => d.W.length - (intOf v).toNat)
  case atStart => exact ⟨0, by omega, by omega, rfl, by rw [List.take_zero, crashK_nil]; exact h⟩
  case round =>
    clear h
    obtain ⟨k, hk, hk2, rfl, hD⟩ := hrel
    obtain ⟨x0, x1, x2, x3⟩ := refs_row hD
    by_cases hlt : k < d.W.length
    · by_cases hlt2 : k < L.length
      · have j0 : (0 : Int) ≤ (k : Int) := by omega
        have j1 : (k : Int) < (d.W.length : Int) := by omega
        have j2 : (k : Int) < (L.length : Int) := by omega
        obtain ⟨q', c', hv, hc⟩ := refs_W hD
        injection hv with hv _ _
        subst hv
        obtain ⟨bq, rfl, a1, a2⟩ := hc k hlt
        obtain ⟨hp0, hp1, hps⟩ := hok.W1 _ (List.getElem_mem hlt)
        have hst := crashK_step d.W L d.K k hlt
        rw [dif_pos hlt2] at hst
        obtain ⟨gi, oi, rfl, hcW⟩ := hI k hlt2
        have hcell := (AllS.of_up (S := fun _ => False) hD.up).cell hcW id
        clear hc
        simp only at a1 a2
        generalize d.W[k] = x at *
        obtain ⟨p, s⟩ := x
        simp only at a1 a2 hp0 hp1 hst hps
        obtain ⟨m, rfl⟩ := Int.eq_ofNat_of_zero_le hp0
        have hm : m < d.n := by omega
        generalize L[k] = f at *
        go_upto_region 4 with fail
        have r5 := RowAt.made wr 86 [.int .i64 m, .string s]
        replace hD := hD.next ((Below.refl _ _).alloc (Nat.le_refl _) (.cells #[.int .i64 m, .string s] 86))
        clear hcell x0 x1 x2 x3 a1 a2
        generalize wr.heap.size = g5 at *
        generalize wr.alloc (.cells #[.int .i64 m, .string s] 86) = w3 at *
        have hcell := (AllS.of_up (S := fun _ => False) hD.up).cell hcW id
        obtain ⟨x0, x1, x2, x3⟩ := refs_row hD
        obtain ⟨y0, y1, -, -⟩ := r5.c2
        obtain ⟨hcz, hfz⟩ := refs_free hD rfl m hm
        have HP := Lib.hid (fun (w : World) (vW : Value) (s : ByteArray) (h : Hold W w (refs X g (.slice (some ⟨b, 0, none⟩) d.n cap) vW { d with K := crashK (d.W.take k) L d.K } T)) => (show Hold W (w.setCell ⟨b, m, none⟩ (.string s)) (refs X g (.slice (some ⟨b, 0, none⟩) d.n cap) vW { d with K := setK (crashK (d.W.take k) L d.K) m s } T) from refs_put (d := { d with K := crashK (d.W.take k) L d.K }) h m s))
        have hKz : (crashK (d.W.take k) L d.K m).size = 256 := crashK_size _ _ _ (fun w hw => (hok.W1 w (List.mem_of_mem_take hw)).2.2) hok.K1 m
        simp only at hcz
        generalize hKK : crashK (d.W.take k) L d.K = KK at *
        by_cases hf1 : f = 1
        · have hK2 : meetK KK ((m : Int), s) f = setK KK m s := by rw [hf1]; rfl
          have b1 : (f == 1) = true := by rw [hf1]; rfl
          have b2 : (f == 2) = false := by rw [hf1]; rfl
          rw [hK2] at hst
          clear hf1 hK2 hcz hfz
          go_upto_region 5 with fail
          refine wp_region_later_tail 9 (by kernel_rfl) (by kernel_rfl) ?_
          have l1 := Later.cell_of x0; have l2 := Later.cell_of y0; have l3 := Later.cell_of y1
          have hne := later_ne w3
          simp only [List.take_succ_cons, List.take_zero]
          repeat (go_big_quiet_step (fail))
          refine wpQuiet_nil ?_
          intro w9 hw9
          obtain ⟨u9, rfl⟩ := hw9
          replace hD := hD.next u9.up
          clear l1 l2 l3 hne x0 x1 x2 x3 y0 y1 r5 hcell
          generalize u9.world = w9 at *
          obtain ⟨hcz, hfz⟩ := refs_free hD rfl m hm
          have hD2 := HP.out _ _ s hD
          have hcell2 := (AllS.of_up (S := fun _ => False) hD2.up).cell hcW id
          simp only [List.drop_succ_cons, List.drop_zero]
          go_upto_region 6 with fail
          clear hcz hfz
          generalize w9.setCell ⟨b, m, none⟩ (.string s) = w10 at *
          go_wp2_with fail
          rw [← hst] at hD2
          exact ⟨⟨k + 1, by omega, by omega, by go_num, hD2⟩, by simp [intOf]; omega⟩
        · by_cases hf2 : f = 2
          · have hK2 : meetK KK ((m : Int), s) f = setK KK m (tornS s (KK m)) := by rw [hf2]; rfl
            have b1 : (f == 1) = false := by rw [hf2]; rfl
            have b2 : (f == 2) = true := by rw [hf2]; rfl
            rw [hK2] at hst
            have C2 := Lib.hid (fun w => ref2_Torn s (KK m) w (by omega) (by omega))
            clear hf1 hf2 hK2
            go_upto_region 7 with fail
            refine wp_region_later_tail 18 (by kernel_rfl) (by kernel_rfl) ?_
            have l1 := Later.cell_of x0; have l2 := Later.cell_of y0; have l3 := Later.cell_of y1; have l4 := Later.cell_of hcz
            have hne := later_ne w3
            simp only [List.take_succ_cons, List.take_zero]
            repeat (go_big_quiet_step ((go_at_call 55; with_reducible exact Calls.later_same (C2.out _))))
            refine wpQuiet_nil ?_
            intro w9 hw9
            obtain ⟨u9, rfl⟩ := hw9
            replace hD := hD.next u9.up
            clear l1 l2 l3 l4 hne x0 x1 x2 x3 y0 y1 r5 hcell hcz hfz
            generalize u9.world = w9 at *
            obtain ⟨hcz, hfz⟩ := refs_free hD rfl m hm
            have hD2 := HP.out _ _ (tornS s (KK m)) hD
            simp only [List.drop_succ_cons, List.drop_zero]
            go_wp2_with fail
            rw [← hst] at hD2
            exact ⟨⟨k + 1, by omega, by omega, by go_num, hD2⟩, by simp [intOf]; omega⟩
          · have hK2 : meetK KK ((m : Int), s) f = KK := by simp [meetK, hf1, hf2]
            have b1 : (f == 1) = false := beq_eq_false_iff_ne.2 hf1
            have b2 : (f == 2) = false := beq_eq_false_iff_ne.2 hf2
            rw [hK2] at hst
            clear hf1 hf2 hK2 hcz hfz
            go_wp2_with fail
            rw [← hst] at hD
            exact ⟨⟨k + 1, by omega, by omega, by go_num, hD⟩, by simp [intOf]; omega⟩
      · have j1 : (k : Int) < (d.W.length : Int) := by omega
        have j2 : ¬ (k : Int) < (L.length : Int) := by omega
        have hT := Lib.hid (crashK_over d.W L d.K k (by omega))
        have hD2 := refs_clear hD
        clear hlt hlt2
        go_wp2_with fail
        go_end0
        rw [hT.out] at hD2
        exact ⟨rfl, _, hD2⟩
    · have j1 : ¬ (k : Int) < (d.W.length : Int) := by omega
      have hT := Lib.hid (show crashK (d.W.take k) L d.K = crashK d.W L d.K by rw [List.take_of_length_le (by omega)])
      have hD2 := refs_clear hD
      clear hlt
      go_wp2_with fail
      go_end0
      rw [hT.out] at hD2
      exact ⟨rfl, _, hD2⟩
end Go.Proofs.Ytokpkkjgagbpfaa
