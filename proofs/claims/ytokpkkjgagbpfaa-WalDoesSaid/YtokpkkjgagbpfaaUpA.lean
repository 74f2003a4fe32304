/- Small laws on worlds that have grown. No program in sight. -/
import Derived.Test.YtokpkkjgagbpfaaRegionA
import Derived.OrdersHeld
import Derived.StillTail
namespace Bw
open Go Go.RowKit

/-- All old cells and marks read as before. -/
theorem ucell {W w1 : World} (hb : Below W.heap.size W w1) : (∀ b o, b < W.heap.size → w1.cell? ⟨b, o, none⟩ = W.cell? ⟨b, o, none⟩) ∧ (∀ b o, b < W.heap.size → w1.frozen? ⟨b, o, none⟩ = W.frozen? ⟨b, o, none⟩) :=
  ⟨fun b o h => hb.cell (p := ⟨b, o, none⟩) h, fun b o h => hb.frozen (p := ⟨b, o, none⟩) h⟩
theorem Up.setCell {W w : World} (h : Up W w) (b o : Nat) (v : Value) (hb : W.heap.size ≤ b) : Up W (w.setCell ⟨b, o, none⟩ v) := Below.setCell h hb v

/-- Block g begins with the cells l, and they may be written. -/
structure RowAt (w : World) (g : Nat) (l : List Value) : Prop where
  cell : ∀ j (h : j < l.length), w.cell? ⟨g, j, none⟩ = some l[j]
  free : ∀ j, j < l.length → w.frozen? ⟨g, j, none⟩ = false

theorem RowAt.lt {w : World} {g : Nat} {v : Value} {l : List Value} (h : RowAt w g (v :: l)) : g < w.heap.size :=
  World.block_lt_of_cell? w ⟨g, 0, none⟩ (h.cell 0 (by simp))
theorem RowAt.up {w w' : World} {g : Nat} {v : Value} {l : List Value} (h : RowAt w g (v :: l)) (hu : Below w.heap.size w w') : RowAt w' g (v :: l) :=
  ⟨fun j hj => (Below.cell (p := ⟨g, j, none⟩) hu h.lt).trans (h.cell j hj), fun j hj => (Below.frozen (p := ⟨g, j, none⟩) hu h.lt).trans (h.free j hj)⟩
theorem RowAt.drew {w : World} {g : Nat} {l : List Value} (h : RowAt w g l) : RowAt w.drew g l := ⟨h.cell, h.free⟩
theorem RowAt.alloc {w : World} {g : Nat} {v : Value} {l : List Value} (h : RowAt w g (v :: l)) (o : Obj) : RowAt (w.alloc o) g (v :: l) := h.up ((Below.refl _ w).alloc (Nat.le_refl _) o)
theorem RowAt.made (w : World) (e : TypeId) (l : List Value) : RowAt (w.alloc (.cells l.toArray e)) w.heap.size l :=
  ⟨fun j hj => (World.cell?_alloc_mark w _ e (0, 0) j).trans (by simp [hj]), fun j hj => (World.frozen?_alloc_mark w _ e 0 0 j).trans (by simp)⟩
theorem RowAt.set {w : World} {g : Nat} {l : List Value} (h : RowAt w g l) (i : Nat) (v : Value) (hi : i < l.length) : RowAt (w.setCell ⟨g, i, none⟩ v) g (l.set i v) := by
  refine ⟨fun j hj => ?_, fun j hj => ?_⟩
  · by_cases e : i = j
    · subst e
      rw [World.cell?_setCell_same _ _ _ (h.cell i hi)]
      simp
    · rw [World.cell?_setCell_other _ _ _ _ (show (⟨g, i, none⟩ : Addr) ≠ ⟨g, j, none⟩ from fun h' => e (by have := congrArg Addr.off h'; simpa using this))]
      rw [List.getElem_set_ne e]
      exact h.cell j (by simpa using hj)
  · rw [World.frozen?_setCell]
    exact h.free j (by simpa using hj)
theorem RowAt.other {w : World} {g : Nat} {l : List Value} (h : RowAt w g l) (g' i : Nat) (v : Value) (hg : g' ≠ g) : RowAt (w.setCell ⟨g', i, none⟩ v) g l := by
  refine ⟨fun j hj => ?_, fun j hj => ?_⟩
  · rw [World.cell?_setCell_other _ _ _ _ (show (⟨g', i, none⟩ : Addr) ≠ ⟨g, j, none⟩ from fun h' => hg (by have := congrArg Addr.block h'; simpa using this))]
    exact h.cell j hj
  · rw [World.frozen?_setCell]
    exact h.free j hj
theorem RowAt.c2 {w : World} {g : Nat} {a b : Value} (h : RowAt w g [a, b]) : w.cell? ⟨g, 0, none⟩ = some a ∧ w.cell? ⟨g, 1, none⟩ = some b ∧ w.frozen? ⟨g, 0, none⟩ = false ∧ w.frozen? ⟨g, 1, none⟩ = false :=
  ⟨h.cell 0 (by simp), h.cell 1 (by simp), h.free 0 (by simp), h.free 1 (by simp)⟩
theorem RowAt.c3 {w : World} {g : Nat} {a b c : Value} (h : RowAt w g [a, b, c]) : w.cell? ⟨g, 0, none⟩ = some a ∧ w.cell? ⟨g, 1, none⟩ = some b ∧ w.cell? ⟨g, 2, none⟩ = some c ∧ w.frozen? ⟨g, 0, none⟩ = false ∧ w.frozen? ⟨g, 1, none⟩ = false ∧ w.frozen? ⟨g, 2, none⟩ = false :=
  ⟨h.cell 0 (by simp), h.cell 1 (by simp), h.cell 2 (by simp), h.free 0 (by simp), h.free 1 (by simp), h.free 2 (by simp)⟩
theorem RowAt.c5 {w : World} {g : Nat} {a b c d e : Value} (h : RowAt w g [a, b, c, d, e]) : w.cell? ⟨g, 0, none⟩ = some a ∧ w.cell? ⟨g, 1, none⟩ = some b ∧ w.cell? ⟨g, 2, none⟩ = some c ∧ w.cell? ⟨g, 3, none⟩ = some d ∧ w.cell? ⟨g, 4, none⟩ = some e ∧ w.frozen? ⟨g, 0, none⟩ = false ∧ w.frozen? ⟨g, 1, none⟩ = false ∧ w.frozen? ⟨g, 2, none⟩ = false ∧ w.frozen? ⟨g, 3, none⟩ = false ∧ w.frozen? ⟨g, 4, none⟩ = false :=
  ⟨h.cell 0 (by simp), h.cell 1 (by simp), h.cell 2 (by simp), h.cell 3 (by simp), h.cell 4 (by simp), h.free 0 (by simp), h.free 1 (by simp), h.free 2 (by simp), h.free 3 (by simp), h.free 4 (by simp)⟩
theorem RowAt.c8 {w : World} {g : Nat} {a0 a1 a2 a3 a4 a5 a6 a7 : Value} (h : RowAt w g [a0, a1, a2, a3, a4, a5, a6, a7]) : w.cell? ⟨g, 0, none⟩ = some a0 ∧ w.cell? ⟨g, 1, none⟩ = some a1 ∧ w.cell? ⟨g, 2, none⟩ = some a2 ∧ w.cell? ⟨g, 3, none⟩ = some a3 ∧ w.cell? ⟨g, 4, none⟩ = some a4 ∧ w.cell? ⟨g, 5, none⟩ = some a5 ∧ w.cell? ⟨g, 6, none⟩ = some a6 ∧ w.cell? ⟨g, 7, none⟩ = some a7 ∧ w.frozen? ⟨g, 0, none⟩ = false ∧ w.frozen? ⟨g, 1, none⟩ = false ∧ w.frozen? ⟨g, 2, none⟩ = false ∧ w.frozen? ⟨g, 3, none⟩ = false ∧ w.frozen? ⟨g, 4, none⟩ = false ∧ w.frozen? ⟨g, 5, none⟩ = false ∧ w.frozen? ⟨g, 6, none⟩ = false ∧ w.frozen? ⟨g, 7, none⟩ = false :=
  ⟨h.cell 0 (by simp), h.cell 1 (by simp), h.cell 2 (by simp), h.cell 3 (by simp), h.cell 4 (by simp), h.cell 5 (by simp), h.cell 6 (by simp), h.cell 7 (by simp), h.free 0 (by simp), h.free 1 (by simp), h.free 2 (by simp), h.free 3 (by simp), h.free 4 (by simp), h.free 5 (by simp), h.free 6 (by simp), h.free 7 (by simp)⟩
end Bw
namespace Bw
open Go Go.RowKit
section
variable {P : Program} {ops : Array Oper} {md : Region.Mode} {Q : Exit → Act → World → Prop}

/-- The worlds that have grown out of w. -/
def CU (w : World) : World → Prop := fun w' => ∃ u : Later w, w' = u.world
theorem CU.self (w : World) : CU w w := ⟨⟨w, Up.refl w⟩, rfl⟩

theorem Later.of_base {w w1 : World} {p : Addr} {v : Value} (h : w.cell? p = some v) (hu : Up w w1) : ∀ u : Later w1, u.world.cell? p = some v :=
  Later.cell_of ((Below.cell (p := p) hu (World.block_lt_of_cell? w p h)).trans h)

/-- Whatever order is picked from here on, and from whatever later world. -/
def wpAnyU (P : Program) (md : Region.Mode) (ops : Array Oper) (Q : Exit → Act → World → Prop) : Nat → Array Bool → Act → World → Prop
  | 0, listed, a, w => Region.ready md ops listed = [] ∧ ∀ w1, Up w w1 → Q .normal a w1
  | f + 1, listed, a, w => ∀ w1, Up w w1 → (Region.ready md ops listed = [] → Q .normal a w1) ∧
      ∀ i ∈ Region.ready md ops listed, wpOp P ops Q i (fun a' w' => Up w1 w' ∧ wpAnyU P md ops Q f (listed.setIfInBounds i true) a' w') a w1

theorem wpAnyU.up : ∀ {f : Nat} {listed : Array Bool} {a : Act} {w w2 : World}, Up w w2 → wpAnyU P md ops Q f listed a w → wpAnyU P md ops Q f listed a w2
  | 0, _, _, _, _, hu, h => ⟨h.1, fun w1 h1 => h.2 w1 (hu.trans h1)⟩
  | _ + 1, _, _, _, _, hu, h => fun w1 h1 => h w1 (hu.trans h1)

theorem wpAny_of_U : ∀ (f : Nat) (listed : Array Bool) (a : Act) (w : World), wpAnyU P md ops Q f listed a w → wpAny P md ops Q f listed a w
  | 0, _, _, w, h => ⟨h.1, h.2 w (Up.refl w)⟩
  | f + 1, _, _, w, h => ⟨(h w (Up.refl w)).1, fun i hi => wpOp_mono (fun a' w' h' => wpAny_of_U f _ a' w' h'.2) ((h w (Up.refl w)).2 i hi)⟩

/-- An operation changes the frame at its own slot alone. -/
theorem wpOp_shape {j : Nat} {oj : Oper} (hj : ops[j]? = some oj) {K : Act → World → Prop} {a : Act} {w : World} (h : wpOp P ops Q j K a w) :
    wpOp P ops Q j (fun a' w' => K a' w' ∧ ∃ u d, a' = Act.put { a with defers := d } oj.dst u) a w := by
  unfold wpOp at *
  simp only [hj] at *
  split
  · rename_i hw
    simp only [hw, if_true] at h
    rcases h with h | h
    · refine .inl ?_
      unfold Oper.wp at *
      generalize (execOp a.eval oj).run P w = r at *
      cases r with
      | ok n w' =>
        cases n <;> simp only [Oper.upon] at h ⊢
        case value u => exact ⟨h, u, a.defers, rfl⟩
        case skip => exact ⟨h, undef, a.defers, rfl⟩
        case defer d => exact ⟨h, undef, _, rfl⟩
        case enter f args =>
          refine Calls.mono h fun e w'' he => ?_
          cases e with
          | returned u => exact ⟨he, u, a.defers, rfl⟩
          | panicked c => exact he
          | outgrown => exact he
        case row row args => exact Rows.mono h fun u w'' he => ⟨he, u, a.defers, rfl⟩
      | halt x w' =>
        cases x <;> simp only [Oper.upon] at h ⊢
        case panic u => exact h
    · exact .inr h
  · rename_i hw
    simp only [hw] at h
    exact ⟨h, undef, a.defers, rfl⟩

/-- In every later world the operation yields v, and leaves a later one. -/
def SY (P : Program) (ops : Array Oper) (w : World) (o : Oper) (v : Value) (a : Act) : Prop := ∀ w1, Up w w1 → YieldsIn P ops (CU w1) o v a
theorem SY.up {w w2 : World} {o : Oper} {v : Value} {a : Act} (h : SY P ops w o v a) (hu : Up w w2) : SY P ops w2 o v a := fun w1 h1 => h w1 (hu.trans h1)

theorem wpAnyU_first {i : Nat} {oi : Oper} {v : Value} (hi : ops[i]? = some oi) (hsel : ∀ (j : Nat) (o : Oper) cs b, ops[j]? = some o → o.op ≠ .select cs b)
    (hQ : ∀ c a w, Q (.panic c) (a.put oi.dst v) w → Q (.panic c) a w) :
    ∀ (f : Nat) (listed : Array Bool) (a : Act) (w : World),
      (∀ j oj, ops[j]? = some oj → j ≠ i → listed.getD j true = false → (∀ e ∈ oj.after, Region.binds md e = true → e.on ≠ i) → oi.apart ops oj = true) →
      i ∈ Region.ready md ops listed → SY P ops w oi v a →
      wpAnyU P md ops Q f (listed.setIfInBounds i true) (a.put oi.dst v) w → wpAnyU P md ops Q (f + 1) listed a w := by
  intro f
  induction f with
  | zero =>
    intro listed a w _ hr hy H w1 h1
    refine ⟨fun h => (by rw [h] at hr; cases hr), fun j hj => ?_⟩
    by_cases hji : j = i
    · subst hji
      refine wpOp_of_qOp (C := CU w1) (K := fun a' => a' = a.put oi.dst v) (CU.self w1) ?_ ((hy w1 h1).qOp hi rfl)
      rintro a' w' ⟨u, rfl⟩ rfl
      exact ⟨u.up, H.up (h1.trans u.up)⟩
    · have := ready_mono hj hji
      rw [H.1] at this
      cases this
  | succ f ih =>
    intro listed a w hfree hr hy H w1 h1
    refine ⟨fun h => (by rw [h] at hr; cases hr), fun j hj => ?_⟩
    by_cases hji : j = i
    · subst hji
      refine wpOp_of_qOp (C := CU w1) (K := fun a' => a' = a.put oi.dst v) (CU.self w1) ?_ ((hy w1 h1).qOp hi rfl)
      rintro a' w' ⟨u, rfl⟩ rfl
      exact ⟨u.up, H.up (h1.trans u.up)⟩
    · have h2 := (H w1 h1).2 j (ready_mono hj hji)
      obtain ⟨hjun, oj, hoj, hall⟩ := mem_ready.1 hj
      have hnot : ∀ e ∈ oj.after, Region.binds md e = true → e.on ≠ i := fun e he hb heq => by
        have h3 := hall e he hb
        rw [heq, getD_both (mem_ready.1 hr).1] at h3
        cases h3
      have hap := hfree j oj hoj hji hjun hnot
      obtain ⟨_, _, h3⟩ := Oper.apart_spec hap
      have hsi := fun cs b => hsel i oi cs b hi
      have hsj := fun cs b => hsel j oj cs b hoj
      have hw : YieldsIf P ops (fun _ => False) oi v a := by
        rcases hy w1 h1 with ⟨h4, _⟩ | ⟨h4, h5⟩
        · exact .inl ⟨h4, fun _ h => h.elim⟩
        · exact .inr ⟨h4, h5⟩
      have h5 := wpOp_shape hoj (wpOp_putIf hoj hap hsi hsj hQ hw h2)
      refine wpOp_mono (fun a' w' h6 => ?_) h5
      obtain ⟨⟨_, h7, h8⟩, u, d, rfl⟩ := h6
      refine ⟨h7, ?_⟩
      have hy' : SY P ops w' oi v (Act.put { a with defers := d } oj.dst u) := by
        have hd : SY P ops w oi v { a with defers := d } := fun w3 h9 => (hy w3 h9).of_same rfl rfl
        exact fun w3 h9 => ((hd w3 ((h1.trans h7).trans h9)).of_same (execOp_put oi hsi _ oj.dst u h3) (wanted_put oi _ oj.dst u h3))
      have hfree' : ∀ k ok, ops[k]? = some ok → k ≠ i → (listed.setIfInBounds j true).getD k true = false →
          (∀ e ∈ ok.after, Region.binds md e = true → e.on ≠ i) → oi.apart ops ok = true := fun k ok hk hki hun hno => by
        refine hfree k ok hk hki ?_ hno
        by_cases hjk : j = k
        · subst hjk; exact hjun
        · rw [getD_set_ne true hjk] at hun; exact hun
      refine ih (listed.setIfInBounds j true) _ w' hfree' (ready_mono hr (Ne.symm hji)) hy' ?_
      rw [Array.setIfInBounds_comm _ _ hji]
      exact h8

/-! ### A quiet piece -/

theorem put_slot_ne {a : Act} {d : Nat} {t : Option Tmp} {v : Value} (h : t ≠ some d) : (a.put t v).tmps[d]? = a.tmps[d]? := by
  cases t with
  | none => rfl
  | some e =>
    have he : e ≠ d := fun h2 => h (by rw [h2])
    simp [Act.put, Array.getElem?_setIfInBounds_ne he]
theorem put_slot_eq {a : Act} {d : Nat} {v : Value} (h : d < a.tmps.size) : (a.put (some d) v).tmps[d]? = some v := by
  simp [Act.put, h]
theorem put_size {a : Act} {t : Option Tmp} {v : Value} : (a.put t v).tmps.size = a.tmps.size := by
  cases t <;> simp [Act.put]

theorem quiet_slot {C : World → Prop} {E : Act} : ∀ (l : List Oper) (a : Act), wpQuiet P ops C (· = E) l a → ∀ d, (∀ o ∈ l, o.dst ≠ some d) → E.tmps[d]? = a.tmps[d]?
  | [], a, h, d, _ => by rw [show a = E from h]
  | o :: rest, a, h, d, hd => by
    unfold wpQuiet at h
    split at h
    · obtain ⟨v, _, h2⟩ := h
      rw [quiet_slot rest _ h2 d (fun o' ho' => hd o' (List.mem_cons_of_mem _ ho')), put_slot_ne (hd o List.mem_cons_self)]
    · rw [quiet_slot rest _ h d (fun o' ho' => hd o' (List.mem_cons_of_mem _ ho')), put_slot_ne (hd o List.mem_cons_self)]

theorem quiet_cons {w : World} {E : Act} {o : Oper} {rest : List Oper} {a : Act} {d : Nat} (hd : o.dst = some d) (hs : d < a.tmps.size) (hr : ∀ o' ∈ rest, o'.dst ≠ some d)
    (h : ∀ w1, Up w w1 → wpQuiet P ops (CU w1) (· = E) (o :: rest) a) :
    ∃ v, SY P ops w o v a ∧ ∀ w1, Up w w1 → wpQuiet P ops (CU w1) (· = E) rest (a.put o.dst v) := by
  refine ⟨(E.tmps[d]?).getD undef, ?_⟩
  have key : ∀ w1, Up w w1 → YieldsIn P ops (CU w1) o ((E.tmps[d]?).getD undef) a ∧ wpQuiet P ops (CU w1) (· = E) rest (a.put o.dst ((E.tmps[d]?).getD undef)) := by
    intro w1 h1
    have h2 := h w1 h1
    unfold wpQuiet at h2
    split at h2
    · rename_i hw
      obtain ⟨v, h3, h4⟩ := h2
      have h5 := quiet_slot rest _ h4 d hr
      rw [hd, put_slot_eq hs] at h5
      rw [h5]
      exact ⟨.inl ⟨hw, h3⟩, h4⟩
    · rename_i hw
      have h5 := quiet_slot rest _ h2 d hr
      rw [hd, put_slot_eq hs] at h5
      rw [h5]
      exact ⟨.inr ⟨by simpa using hw, rfl⟩, h2⟩
  exact ⟨fun w1 h1 => (key w1 h1).1, fun w1 h1 => (key w1 h1).2⟩

/-- Each operation of the piece may come up when it is its turn, is apart from all others that have not come up and do not wait for it, and has a slot of its own. -/
def blockB (md : Region.Mode) (ops : Array Oper) (n : Nat) : List Nat → Array Bool → Bool
  | [], _ => true
  | i :: r, listed =>
    (match ops[i]? with
      | none => false
      | some o => match o.dst with
        | none => false
        | some d => decide (d < n) && r.all (fun j => match ops[j]? with | some o' => o'.dst != some d | none => true)) &&
    (Region.ready md ops listed).contains i && Region.free md ops listed i && blockB md ops n r (listed.setIfInBounds i true)

def setAll (listed : Array Bool) (h : List Nat) : Array Bool := h.foldl (fun l i => l.setIfInBounds i true) listed

theorem wpAnyU_block (hsel : Region.noSelect ops = true) (hQ : ∀ c a w d v, Q (.panic c) (Act.put a (some d) v) w → Q (.panic c) a w) {E : Act} :
    ∀ (h : List Nat) (L : List Oper) (f n : Nat) (listed : Array Bool) (a : Act) (w : World), h.filterMap (fun i => ops[i]?) = L → a.tmps.size = n → blockB md ops n h listed = true →
      (∀ w1, Up w w1 → wpQuiet P ops (CU w1) (· = E) L a) → wpAnyU P md ops Q f (setAll listed h) E w → wpAnyU P md ops Q (f + h.length) listed a w
  | [], L, f, n, listed, a, w, hL, _, _, hq, H => by
    subst hL
    have : a = E := hq w (Up.refl w)
    subst this
    exact H
  | i :: r, L, f, n, listed, a, w, hL, hn, hB, hq, H => by
    simp only [blockB, Bool.and_eq_true] at hB
    obtain ⟨⟨⟨h1, h2⟩, h3⟩, h4⟩ := hB
    cases hoi : ops[i]? with
    | none => rw [hoi] at h1; simp at h1
    | some oi =>
      cases hd : oi.dst with
      | none => simp only [hoi, hd] at h1; cases h1
      | some d =>
        simp only [hoi, hd, Bool.and_eq_true, decide_eq_true_eq, List.all_eq_true] at h1
        obtain ⟨h5, h6⟩ := h1
        rw [List.filterMap_cons, hoi] at hL
        subst hL
        have hr : ∀ o' ∈ r.filterMap (fun i => ops[i]?), o'.dst ≠ some d := by
          intro o' ho'
          obtain ⟨j, hj, hj2⟩ := List.mem_filterMap.1 ho'
          have := h6 j hj
          rw [hj2] at this
          simpa using this
        obtain ⟨v, hy, hq2⟩ := quiet_cons hd (by rw [hn]; exact h5) hr hq
        have H2 := wpAnyU_block hsel hQ r _ f n (listed.setIfInBounds i true) (a.put oi.dst v) w rfl (by rw [put_size]; exact hn) h4 hq2 H
        have := wpAnyU_first hoi (Region.noSelect_spec hsel) (fun c a w => by rw [hd]; exact hQ c a w d v) (f + r.length) listed a w (Region.free_spec hoi h3) (by simpa using h2) hy H2
        simpa [Nat.add_assoc] using this

theorem opsAt_range (l : List Oper) : ∀ (n s : Nat), s + n ≤ l.length → (List.range' s n).filterMap (fun i => l.toArray[i]?) = (l.drop s).take n := by
  intro n
  induction n with
  | zero => intro s _; simp
  | succ n ih =>
    intro s hs
    have hlt : s < l.length := by omega
    rw [List.range'_succ, List.filterMap_cons]
    simp only [List.getElem?_toArray, List.getElem?_eq_getElem hlt]
    have h2 := ih (s + 1) (by omega)
    simp only [List.getElem?_toArray] at h2
    rw [h2, List.drop_eq_getElem_cons hlt, List.take_succ_cons]

/-- The piece: operations s to s + n - 1. -/
theorem wpAnyU_quiet {l : List Oper} {E : Act} {listed : Array Bool} {a : Act} {w : World} {fuel : Nat} (s n m N : Nat) (hf : fuel = m + n) (hl : Nat.ble (s + n) l.length = true) (hsel : Region.noSelect l.toArray = true)
    (hQ : ∀ c a w d v, Q (.panic c) (Act.put a (some d) v) w → Q (.panic c) a w) (hn : a.tmps.size = N) (hB : blockB md l.toArray N (List.range' s n) listed = true)
    (h1 : ∀ w1, Up w w1 → wpQuiet P l.toArray (CU w1) (· = E) ((l.drop s).take n) a) (h2 : wpAnyU P md l.toArray Q m (setAll listed (List.range' s n)) E w) :
    wpAnyU P md l.toArray Q fuel listed a w := by
  subst hf
  have := wpAnyU_block hsel hQ (List.range' s n) _ m N listed a w rfl hn hB (by rw [opsAt_range l n s (Nat.le_of_ble_eq_true hl)]; exact h1) h2
  simpa using this

/-! ### The same where each slot is written by one operation alone, and of who reads it and who writes it one waits for the other -/

def edgeB (md : Region.Mode) (o : Oper) (looks : List Tmp) (j : Nat) : Nat → List Oper → Bool
  | _, [] => true
  | k, x :: r => (match x.dst with
      | some d => !(looks.contains d) || o.after.any (fun e => Region.binds md e && e.on == k) || x.after.any (fun e => Region.binds md e && e.on == j)
      | none => true) && edgeB md o looks j (k + 1) r
def apartDst : Option Tmp → List Oper → Bool
  | none, _ => true
  | some d, l => l.all fun x => x.dst != some d
def nodupB : List Oper → Bool
  | [] => true
  | x :: r => apartDst x.dst r && nodupB r
def edgesB (md : Region.Mode) (l : List Oper) : Nat → List Oper → Bool
  | _, [] => true
  | j, o :: r => edgeB md o (o.looksAt l.toArray) j 0 l && edgesB md l (j + 1) r
def ssaB (md : Region.Mode) (l : List Oper) : Bool := nodupB l && edgesB md l 0 l

theorem any_edge {md : Region.Mode} {es : Array Edge} {k : Nat} (h : es.any (fun e => Region.binds md e && e.on == k) = true) : ∃ e ∈ es, Region.binds md e = true ∧ e.on = k := by
  rw [← Array.any_toList, List.any_eq_true] at h
  obtain ⟨e, he, h2⟩ := h
  rw [Array.mem_toList_iff] at he
  simp only [Bool.and_eq_true, beq_iff_eq] at h2
  exact ⟨e, he, h2⟩

theorem edgeB_spec {o : Oper} {looks : List Tmp} {j : Nat} : ∀ (l : List Oper) (k : Nat), edgeB md o looks j k l = true → ∀ (i : Nat) (x : Oper) (d : Tmp), l[i]? = some x → x.dst = some d → d ∈ looks →
    (∃ e ∈ o.after, Region.binds md e = true ∧ e.on = k + i) ∨ (∃ e ∈ x.after, Region.binds md e = true ∧ e.on = j)
  | [], _, _, i, x, d, hi, _, _ => by simp at hi
  | y :: r, k, h, i, x, d, hi, hd, hl => by
    simp only [edgeB, Bool.and_eq_true] at h
    cases i with
    | zero =>
      simp at hi
      subst hi
      simp only [hd, Bool.or_eq_true, Bool.not_eq_true', List.contains_eq_mem, decide_eq_false_iff_not] at h
      rcases h.1 with (h1 | h1) | h1
      · exact absurd hl h1
      · exact .inl (any_edge h1)
      · exact .inr (any_edge h1)
    | succ i =>
      rcases edgeB_spec r (k + 1) h.2 i x d (by simpa using hi) hd hl with ⟨e, he, hb, hk⟩ | h1
      · exact .inl ⟨e, he, hb, by omega⟩
      · exact .inr h1

theorem edgesB_spec {l : List Oper} : ∀ (r : List Oper) (j : Nat), edgesB md l j r = true → ∀ (i : Nat) (o : Oper), r[i]? = some o → edgeB md o (o.looksAt l.toArray) (j + i) 0 l = true
  | [], _, _, i, o, hi => by simp at hi
  | y :: r, j, h, i, o, hi => by
    simp only [edgesB, Bool.and_eq_true] at h
    cases i with
    | zero => simp at hi; subst hi; exact h.1
    | succ i => rw [show j + (i + 1) = j + 1 + i by omega]; exact edgesB_spec r (j + 1) h.2 i o (by simpa using hi)

theorem nodupB_spec : ∀ (l : List Oper), nodupB l = true → ∀ (i j : Nat) (x y : Oper) (d : Tmp), l[i]? = some x → l[j]? = some y → i ≠ j → x.dst = some d → y.dst ≠ some d
  | [], _, i, _, x, _, _, hi, _, _, _ => by simp at hi
  | z :: r, h, i, j, x, y, d, hi, hj, hne, hd => by
    simp only [nodupB, Bool.and_eq_true] at h
    cases i with
    | zero =>
      simp at hi
      subst hi
      cases j with
      | zero => exact absurd rfl hne
      | succ j =>
        rw [hd] at h
        have h1 := h.1
        simp only [apartDst, List.all_eq_true] at h1
        have h2 := h1 y (List.mem_of_getElem? (by simpa using hj))
        simpa using h2
    | succ i =>
      cases j with
      | zero =>
        simp at hj
        subst hj
        intro h2
        rw [h2] at h
        have h1 := h.1
        simp only [apartDst, List.all_eq_true] at h1
        have h3 := h1 x (List.mem_of_getElem? (by simpa using hi))
        simp [hd] at h3
      | succ j => exact nodupB_spec r h.2 i j x y d (by simpa using hi) (by simpa using hj) (by omega) hd

theorem ssa_apart {l : List Oper} (hS : ssaB md l = true) {listed : Array Bool} {i : Nat} {oi : Oper} (hi : l.toArray[i]? = some oi) (hr : ∀ e ∈ oi.after, Region.binds md e = true → listed.getD e.on false = true)
    (j : Nat) (oj : Oper) (hj : l.toArray[j]? = some oj) (hne : j ≠ i) (hun : listed.getD j true = false) (hno : ∀ e ∈ oj.after, Region.binds md e = true → e.on ≠ i) : oi.apart l.toArray oj = true := by
  simp only [ssaB, Bool.and_eq_true] at hS
  obtain ⟨h1, h2⟩ := hS
  have hi' : l[i]? = some oi := by simpa using hi
  have hj' : l[j]? = some oj := by simpa using hj
  have ei := edgeB_spec l 0 (edgesB_spec l 0 h2 i oi hi')
  have ej := edgeB_spec l 0 (edgesB_spec l 0 h2 j oj hj')
  simp only [Nat.zero_add] at ei ej
  have noi : ∀ e ∈ oi.after, Region.binds md e = true → e.on ≠ j := fun e he hb heq => by
    have := hr e he hb
    rw [heq, getD_both hun] at this
    cases this
  have n1 : ∀ d, oi.dst = some d → d ∉ oj.looksAt l.toArray := fun d hd hm => by
    rcases ej i oi d hi' hd hm with ⟨x, hx, hb, hk⟩ | ⟨x, hx, hb, hk⟩
    · exact hno x hx hb hk
    · exact noi x hx hb hk
  have n2 : ∀ d, oj.dst = some d → d ∉ oi.looksAt l.toArray := fun d hd hm => by
    rcases ei j oj d hj' hd hm with ⟨x, hx, hb, hk⟩ | ⟨x, hx, hb, hk⟩
    · exact noi x hx hb hk
    · exact hno x hx hb hk
  unfold Oper.apart
  cases hd : oi.dst with
  | none =>
    cases he : oj.dst with
    | none => rfl
    | some e =>
      simp only [Bool.true_and, Bool.not_eq_true', List.contains_eq_mem, decide_eq_false_iff_not]
      exact n2 e he
  | some d =>
    have a1 : (oj.looksAt l.toArray).contains d = false := by
      simp only [List.contains_eq_mem, decide_eq_false_iff_not]
      exact n1 d hd
    have a2 := nodupB_spec l h1 i j oi oj d hi' hj' (Ne.symm hne) hd
    cases he : oj.dst with
    | none => simp only [a1]; rfl
    | some e =>
      have a3 : (oi.looksAt l.toArray).contains e = false := by
        simp only [List.contains_eq_mem, decide_eq_false_iff_not]
        exact n2 e he
      rw [he] at a2
      simp only [a1, a3]
      simpa using a2

def wpAnyS (P : Program) (md : Region.Mode) (l : List Oper) (Q : Exit → Act → World → Prop) (f : Nat) (listed : Array Bool) (a : Act) (w : World) : Prop :=
  Region.noSelect l.toArray = true → ssaB md l = true → wpAnyU P md l.toArray Q f listed a w

/-- The operations of a piece, from number s on: each may come up when it is its turn. -/
def pieceB (md : Region.Mode) (n : Nat) : Nat → List Oper → Array Bool → Bool
  | _, [], _ => true
  | s, o :: r, listed => (match o.dst with | some d => decide (d < n) | none => false) && !listed.getD s true && o.after.all (fun e => !Region.binds md e || listed.getD e.on false) && pieceB md n (s + 1) r (listed.setIfInBounds s true)

def setFrom (listed : Array Bool) : Nat → Nat → Array Bool
  | _, 0 => listed
  | s, n + 1 => setFrom (listed.setIfInBounds s true) (s + 1) n

theorem wpAnyS_piece {l : List Oper} (hQ : ∀ c a w d v, Q (.panic c) (Act.put a (some d) v) w → Q (.panic c) a w) (hsel : Region.noSelect l.toArray = true) (hS : ssaB md l = true) {E : Act} :
    ∀ (L : List Oper) (s f n : Nat) (listed : Array Bool) (a : Act) (w : World), (∀ k o, L[k]? = some o → l[s + k]? = some o) → a.tmps.size = n → pieceB md n s L listed = true →
      (∀ w1, Up w w1 → wpQuiet P l.toArray (CU w1) (· = E) L a) → wpAnyU P md l.toArray Q f (setFrom listed s L.length) E w → wpAnyU P md l.toArray Q (f + L.length) listed a w
  | [], s, f, n, listed, a, w, _, _, _, hq, H => by
    have : a = E := hq w (Up.refl w)
    subst this
    exact H
  | o :: r, s, f, n, listed, a, w, hL, hn, hB, hq, H => by
    simp only [pieceB, Bool.and_eq_true] at hB
    obtain ⟨⟨⟨h1, h2⟩, h3⟩, h4⟩ := hB
    have hoi : l.toArray[s]? = some o := by simpa using hL 0 o (by simp)
    have hun : listed.getD s true = false := by simpa using h2
    have hall : ∀ e ∈ o.after, Region.binds md e = true → listed.getD e.on false = true := fun e he hb => by
      have := Array.all_eq_true_iff_forall_mem.1 h3 e he
      simpa [hb] using this
    cases hd : o.dst with
    | none => simp only [hd] at h1; cases h1
    | some d =>
      simp only [hd, decide_eq_true_eq] at h1
      have hr : ∀ o' ∈ r, o'.dst ≠ some d := by
        intro o' ho'
        obtain ⟨k, hk⟩ := List.mem_iff_getElem?.1 ho'
        have hk2 := hL (k + 1) o' (by simpa using hk)
        simp only [ssaB, Bool.and_eq_true] at hS
        exact nodupB_spec l hS.1 s (s + (k + 1)) o o' d (by simpa using hL 0 o (by simp)) hk2 (by omega) hd
      obtain ⟨v, hy, hq2⟩ := quiet_cons hd (by rw [hn]; exact h1) hr hq
      have H2 := wpAnyS_piece hQ hsel hS r (s + 1) f n (listed.setIfInBounds s true) (a.put o.dst v) w (fun k o' hk => by have := hL (k + 1) o' (by simpa using hk); rw [show s + 1 + k = s + (k + 1) by omega]; exact this)
        (by rw [put_size]; exact hn) h4 hq2 H
      have := wpAnyU_first hoi (Region.noSelect_spec hsel) (fun c a w => by rw [hd]; exact hQ c a w d v) (f + r.length) listed a w (ssa_apart hS hoi hall) (mem_ready.2 ⟨hun, o, hoi, hall⟩) hy H2
      simpa [Nat.add_assoc] using this

/-- The piece: operations s to s + n - 1. -/
theorem wpAnyS_quiet {l : List Oper} {listed : Array Bool} {a : Act} {w : World} {fuel : Nat} (s n m N : Nat) (hf : fuel = m + n) (hl : Nat.ble (s + n) l.length = true)
    (hQ : ∀ c a w d v, Q (.panic c) (Act.put a (some d) v) w → Q (.panic c) a w) (hn : a.tmps.size = N) (hB : pieceB md N s ((l.drop s).take n) listed = true)
    (h : ∃ E, (∀ w1, Up w w1 → wpQuiet P l.toArray (fun w' => ∃ u : Later w1, w' = u.world) (· = E) ((l.drop s).take n) a) ∧ wpAnyS P md l Q m (setFrom listed s n) E w) :
    wpAnyS P md l Q fuel listed a w := by
  obtain ⟨E, h1, h2⟩ := h
  intro hsel hS
  subst hf
  have hl' := Nat.le_of_ble_eq_true hl
  have hlen : ((l.drop s).take n).length = n := by simp; omega
  have := wpAnyS_piece hQ hsel hS ((l.drop s).take n) s m N listed a w (fun k o hk => by
    rw [List.getElem?_take] at hk
    split at hk
    · rwa [List.getElem?_drop] at hk
    · cases hk) hn hB h1 (by rw [hlen]; exact h2 hsel hS)
  rwa [hlen] at this

/-! ### One operation whose value depends on the world -/

theorem oper_wp_q {o : Oper} {a : Act} {w : World} {K : Act → World → Prop} {Q' : Exit → Act → World → Prop} (hp : ∀ c a w, Q' (.panic c) a w → Q (.panic c) a w) (ho : ∀ a w, Q' .outgrown a w → Q .outgrown a w)
    (h : o.wp P a w K Q') : o.wp P a w K Q := by
  unfold Oper.wp at *
  generalize (execOp a.eval o).run P w = r at *
  cases r with
  | ok n w' =>
    cases n <;> simp only [Oper.upon] at h ⊢
    case value u => exact h
    case skip => exact h
    case defer d => exact h
    case enter f args =>
      refine Calls.mono h fun e w'' he => ?_
      cases e with
      | returned u => exact he
      | panicked c => exact hp _ _ _ he
      | outgrown =>
        obtain ⟨a1, w1, h1⟩ := he
        exact ⟨a1, w1, ho _ _ h1⟩
    case row row args => exact h
  | halt x w' =>
    cases x <;> simp only [Oper.upon] at h ⊢
    case panic u => exact hp _ _ _ h

/-- What is asked behind the one operation. -/
def oneQ (P : Program) (md : Region.Mode) (ops : Array Oper) (Q : Exit → Act → World → Prop) (m : Nat) (listed : Array Bool) (w1 : World) : Exit → Act → World → Prop
  | .normal, a, w => Up w1 w ∧ wpAnyU P md ops Q m listed a w
  | e, a, w => Q e a w
theorem oneQ_on {m : Nat} {listed : Array Bool} {w1 w : World} {a : Act} (hu : Up w1 w) (h : wpAnyU P md ops Q m listed a w) : oneQ P md ops Q m listed w1 .normal a w := ⟨hu, h⟩

theorem wpAnyU_one {l : List Oper} {listed : Array Bool} {a : Act} {w : World} {fuel : Nat} (i m : Nat) (hf : fuel = m + 1) (o : Oper) (ho : l[i]? = some o) (hr : Region.ready md l.toArray listed = [i])
    (h : ∀ w1, Up w w1 → wpList P l.toArray (oneQ P md l.toArray Q m (listed.setIfInBounds i true) w1) [o] a w1) : wpAnyU P md l.toArray Q fuel listed a w := by
  subst hf
  intro w1 h1
  refine ⟨fun h0 => (by rw [h0] at hr; cases hr), fun j hj => ?_⟩
  rw [hr] at hj
  obtain rfl : j = i := by simpa using hj
  have h2 := h w1 h1
  have ho' : l.toArray[j]? = some o := by simpa using ho
  unfold wpOp
  simp only [ho']
  unfold wpList at h2
  split at h2
  · rename_i hw
    simp only [hw, if_true]
    rcases h2 with h2 | ⟨h3, a3, w3, h4⟩
    · exact .inl (oper_wp_q (fun c a w h => h) (fun a w h => h) h2)
    · exact .inr ⟨h3, a3, w3, h4⟩
  · rename_i hw
    simp only [hw]
    exact h2

/-- May a single operation come up, and no other one? -/
def onlyB (md : Region.Mode) (i : Nat) : Nat → List Oper → Array Bool → Bool
  | _, [], _ => true
  | k, o :: r, listed => ((!listed.getD k true && o.after.all (fun e => !Region.binds md e || listed.getD e.on false)) == (k == i)) && onlyB md i (k + 1) r listed

theorem onlyB_spec {listed : Array Bool} {i : Nat} : ∀ (l : List Oper) (k : Nat), onlyB md i k l listed = true → ∀ j o, l[j]? = some o → ((!listed.getD (k + j) true && o.after.all (fun e => !Region.binds md e || listed.getD e.on false)) = (k + j == i))
  | [], _, _, j, o, hj => by simp at hj
  | x :: r, k, h, j, o, hj => by
    simp only [onlyB, Bool.and_eq_true, beq_iff_eq] at h
    cases j with
    | zero => simp at hj; subst hj; exact h.1
    | succ j =>
      have := onlyB_spec r (k + 1) h.2 j o (by simpa using hj)
      rw [show k + (j + 1) = k + 1 + j by omega]
      exact this

theorem wpAnyS_one {l : List Oper} {listed : Array Bool} {a : Act} {w : World} {fuel : Nat} (i m : Nat) (hf : fuel = m + 1) (hl : Nat.ble (i + 1) l.length = true) (hB : onlyB md i 0 l listed = true)
    (h : ∀ w1, Up w w1 → wpList P l.toArray (fun e a w => match e with | .normal => Up w1 w ∧ wpAnyS P md l Q m (listed.setIfInBounds i true) a w | e => Q e a w) ((l.drop i).take 1) a w1) : wpAnyS P md l Q fuel listed a w := by
  intro hsel hS
  subst hf
  intro w1 h1
  have key : ∀ j ∈ Region.ready md l.toArray listed, j = i := by
    intro j hj
    obtain ⟨hun, o, ho, hall⟩ := mem_ready.1 hj
    have h2 := onlyB_spec l 0 hB j o (by simpa using ho)
    rw [Nat.zero_add] at h2
    have h3 : (!listed.getD j true && o.after.all (fun e => !Region.binds md e || listed.getD e.on false)) = true := by
      rw [hun]
      simp only [Bool.not_false, Bool.true_and, Array.all_eq_true_iff_forall_mem]
      intro e he
      cases hb : Region.binds md e
      · rfl
      · simp [hall e he hb]
    rw [h3] at h2
    simpa using h2.symm
  have h2 := h w1 h1
  have hi : i < l.length := Nat.le_of_ble_eq_true hl
  have hd : (l.drop i).take 1 = [l[i]] := by rw [List.drop_eq_getElem_cons hi]; rfl
  rw [hd] at h2
  have hoi : l.toArray[i]? = some l[i] := by simp [hi]
  have h9 := onlyB_spec l 0 hB i l[i] (by simp [hi])
  rw [Nat.zero_add] at h9
  simp only [beq_self_eq_true, Bool.and_eq_true, Bool.not_eq_true', Array.all_eq_true_iff_forall_mem] at h9
  have hrdy : i ∈ Region.ready md l.toArray listed := mem_ready.2 ⟨h9.1, l[i], hoi, fun e he hb => by simpa [hb] using h9.2 e he⟩
  refine ⟨fun h0 => (by rw [h0] at hrdy; cases hrdy), fun j hj => ?_⟩
  obtain rfl := key j hj
  unfold wpOp
  simp only [hoi]
  unfold wpList at h2
  split at h2
  · rename_i hw
    simp only [hw, if_true]
    rcases h2 with h2 | ⟨h3, a3, w3, h4⟩
    · refine .inl (Oper.wp_mono (fun a' w' h5 => ?_) (oper_wp_q (fun c a w h => h) (fun a w h => h) h2))
      have h6 : Up w1 w' ∧ wpAnyS P md l Q m (listed.setIfInBounds j true) a' w' := h5
      exact ⟨h6.1, h6.2 hsel hS⟩
    · exact .inr ⟨h3, a3, w3, h4⟩
  · rename_i hw
    simp only [hw]
    have h6 : Up w1 w1 ∧ wpAnyS P md l Q m (listed.setIfInBounds j true) _ w1 := h2
    exact ⟨h6.1, h6.2 hsel hS⟩

theorem wpAnyU_done {l : List Oper} {listed : Array Bool} {a : Act} {w : World} {fuel : Nat} (hr : Region.ready md l.toArray listed = []) (h : ∀ w1, Up w w1 → Q .normal a w1) : wpAnyU P md l.toArray Q fuel listed a w := by
  cases fuel with
  | zero => exact ⟨hr, h⟩
  | succ f => exact fun w1 h1 => ⟨fun _ => h w1 h1, fun i hi => by rw [hr] at hi; cases hi⟩

theorem wpAnyS_done {l : List Oper} {listed : Array Bool} {a : Act} {w : World} {fuel : Nat} (hB : onlyB md l.length 0 l listed = true) (h : ∀ w1, Up w w1 → Q .normal a w1) : wpAnyS P md l Q fuel listed a w := by
  intro _ _
  refine wpAnyU_done ?_ h
  apply List.eq_nil_iff_forall_not_mem.2
  intro j hj
  obtain ⟨hun, o, ho, hall⟩ := mem_ready.1 hj
  have h2 := onlyB_spec l 0 hB j o (by simpa using ho)
  have hlt : j < l.length := by have := (Array.getElem?_eq_some_iff.1 ho).1; simpa using this
  rw [Nat.zero_add, hun] at h2
  have h3 : o.after.all (fun e => !Region.binds md e || listed.getD e.on false) = true := by
    simp only [Array.all_eq_true_iff_forall_mem]
    intro e he
    cases hb : Region.binds md e
    · rfl
    · simp [hall e he hb]
  rw [h3] at h2
  simp at h2
  omega

theorem wp_region_ssa {id : Nat} {a : Act} {w : World} {l : List Oper} (hm : P.follows .mixedOrders = true) (hsel : Region.noSelect l.toArray = true) (hS : ssaB .any l = true)
    (h : wpAnyS P .any l Q l.length (Array.replicate l.length false) a w) : (Code.region id l.toArray true).wp P Q a w := by
  refine wp_region_any hm (wpAny_of_U _ _ _ _ ?_)
  have h2 := wpAnyU.up (Up.refl w).drew (h hsel hS)
  simpa using h2

theorem wp_region_up {id : Nat} {a : Act} {w : World} {l : List Oper} (hm : P.follows .mixedOrders = true)
    (h : wpAnyU P .any l.toArray Q l.length (Array.replicate l.length false) a w) : (Code.region id l.toArray true).wp P Q a w := by
  refine wp_region_any hm (wpAny_of_U _ _ _ _ ?_)
  have h2 := wpAnyU.up (Up.refl w).drew h
  simpa using h2
end
end Bw
namespace Bw
open Go Go.RowKit
section
variable {P : Program} {ops : Array Oper} {md : Region.Mode} {Q : Exit → Act → World → Prop}

/-- Whatever order the operations ahead of number n are taken in, and from whatever later world; T: what holds at the tail. -/
def wpHeadU (P : Program) (md : Region.Mode) (ops : Array Oper) (Q : Exit → Act → World → Prop) (n : Nat) (T : Array Bool → Act → World → Prop) : Nat → Array Bool → Act → World → Prop
  | 0, listed, a, w => ∀ w1, Up w w1 → T listed a w1
  | f + 1, listed, a, w => ∀ w1, Up w w1 → Region.ready md ops listed ≠ [] ∧
      ∀ i ∈ Region.ready md ops listed, i < n ∧ wpOp P ops Q i (fun a' w' => Up w1 w' ∧ wpHeadU P md ops Q n T f (listed.setIfInBounds i true) a' w') a w1

variable {n : Nat} {T : Array Bool → Act → World → Prop}

theorem wpHeadU.up : ∀ {f : Nat} {listed : Array Bool} {a : Act} {w w2 : World}, Up w w2 → wpHeadU P md ops Q n T f listed a w → wpHeadU P md ops Q n T f listed a w2
  | 0, _, _, _, _, hu, h => fun w1 h1 => h w1 (hu.trans h1)
  | _ + 1, _, _, _, _, hu, h => fun w1 h1 => h w1 (hu.trans h1)

theorem wpAny_of_headU {g : Nat} (hT : ∀ listed a w, T listed a w → wpAny P md ops Q g listed a w) : ∀ (f : Nat) (listed : Array Bool) (a : Act) (w : World), wpHeadU P md ops Q n T f listed a w → wpAny P md ops Q (f + g) listed a w
  | 0, _, _, w, h => by rw [Nat.zero_add]; exact hT _ _ _ (h w (Up.refl w))
  | f + 1, _, _, w, h => by
    rw [show f + 1 + g = (f + g) + 1 by omega]
    exact ⟨fun h0 => absurd h0 (h w (Up.refl w)).1, fun i hi => wpOp_mono (fun a' w' h' => wpAny_of_headU hT f _ a' w' h'.2) ((h w (Up.refl w)).2 i hi).2⟩

theorem wpHeadU_first {i : Nat} {oi : Oper} {v : Value} (hi : ops[i]? = some oi) (hsel : ∀ (j : Nat) (o : Oper) cs b, ops[j]? = some o → o.op ≠ .select cs b)
    (hs : Region.sinkB md ops n = true) (hc : Region.chainB md ops n = true) (hn : n < ops.size) (hin : i < n)
    (hdone : ∀ listed a w, T listed a w → ∀ j ∈ Region.ready md ops listed, n ≤ j)
    (hQ : ∀ c a w, Q (.panic c) (a.put oi.dst v) w → Q (.panic c) a w) :
    ∀ (f : Nat) (listed : Array Bool) (a : Act) (w : World), HeadInv md ops n listed →
      (∀ j oj, ops[j]? = some oj → j ≠ i → listed.getD j true = false → (∀ e ∈ oj.after, Region.binds md e = true → e.on ≠ i) → oi.apart ops oj = true) →
      i ∈ Region.ready md ops listed → SY P ops w oi v a →
      wpHeadU P md ops Q n T f (listed.setIfInBounds i true) (a.put oi.dst v) w → wpHeadU P md ops Q n T (f + 1) listed a w := by
  intro f
  induction f with
  | zero =>
    intro listed a w inv _ hr hy H w1 h1
    have hun := (mem_ready.1 hr).1
    refine ⟨fun h => (by rw [h] at hr; cases hr), fun j hj => ?_⟩
    have hjn : j < n := by
      rcases Nat.lt_or_ge j n with h | h
      · exact h
      · exact absurd hj (tail_waits hs hc hn inv _ i rfl hin hun j h)
    refine ⟨hjn, ?_⟩
    by_cases hji : j = i
    · subst hji
      refine wpOp_of_qOp (C := CU w1) (K := fun a' => a' = a.put oi.dst v) (CU.self w1) ?_ ((hy w1 h1).qOp hi rfl)
      rintro a' w' ⟨u, rfl⟩ rfl
      exact ⟨u.up, H.up (h1.trans u.up)⟩
    · have := hdone _ _ _ (H w1 h1) j (ready_mono hj hji)
      omega
  | succ f ih =>
    intro listed a w inv hfree hr hy H w1 h1
    have hun := (mem_ready.1 hr).1
    refine ⟨fun h => (by rw [h] at hr; cases hr), fun j hj => ?_⟩
    have hjn : j < n := by
      rcases Nat.lt_or_ge j n with h | h
      · exact h
      · exact absurd hj (tail_waits hs hc hn inv _ i rfl hin hun j h)
    refine ⟨hjn, ?_⟩
    by_cases hji : j = i
    · subst hji
      refine wpOp_of_qOp (C := CU w1) (K := fun a' => a' = a.put oi.dst v) (CU.self w1) ?_ ((hy w1 h1).qOp hi rfl)
      rintro a' w' ⟨u, rfl⟩ rfl
      exact ⟨u.up, H.up (h1.trans u.up)⟩
    · have h2 := ((H w1 h1).2 j (ready_mono hj hji)).2
      obtain ⟨hjun, oj, hoj, hall⟩ := mem_ready.1 hj
      have hnot : ∀ e ∈ oj.after, Region.binds md e = true → e.on ≠ i := fun e he hb heq => by
        have h3 := hall e he hb
        rw [heq, getD_both hun] at h3
        cases h3
      have hap := hfree j oj hoj hji hjun hnot
      obtain ⟨_, _, h3⟩ := Oper.apart_spec hap
      have hsi := fun cs b => hsel i oi cs b hi
      have hsj := fun cs b => hsel j oj cs b hoj
      have hw : YieldsIf P ops (fun _ => False) oi v a := by
        rcases hy w1 h1 with ⟨h4, _⟩ | ⟨h4, h5⟩
        · exact .inl ⟨h4, fun _ h => h.elim⟩
        · exact .inr ⟨h4, h5⟩
      have h5 := wpOp_shape hoj (wpOp_putIf hoj hap hsi hsj hQ hw h2)
      refine wpOp_mono (fun a' w' h6 => ?_) h5
      obtain ⟨⟨_, h7, h8⟩, u, d, rfl⟩ := h6
      refine ⟨h7, ?_⟩
      have hy' : SY P ops w' oi v (Act.put { a with defers := d } oj.dst u) := by
        have hd : SY P ops w oi v { a with defers := d } := fun w3 h9 => (hy w3 h9).of_same rfl rfl
        exact fun w3 h9 => ((hd w3 ((h1.trans h7).trans h9)).of_same (execOp_put oi hsi _ oj.dst u h3) (wanted_put oi _ oj.dst u h3))
      have hfree' : ∀ k ok, ops[k]? = some ok → k ≠ i → (listed.setIfInBounds j true).getD k true = false →
          (∀ e ∈ ok.after, Region.binds md e = true → e.on ≠ i) → oi.apart ops ok = true := fun k ok hk hki hun hno => by
        refine hfree k ok hk hki ?_ hno
        by_cases hjk : j = k
        · subst hjk; exact hjun
        · rw [getD_set_ne true hjk] at hun; exact hun
      refine ih (listed.setIfInBounds j true) _ w' (inv.set hj hjn) hfree' (ready_mono hr (Ne.symm hji)) hy' ?_
      rw [Array.setIfInBounds_comm _ _ hji]
      exact h8

/-- The tail: in one order. -/
def tailT (P : Program) (l : List Oper) (Q : Exit → Act → World → Prop) (n : Nat) (listed : Array Bool) (a : Act) (w : World) : Prop :=
  Region.seqB .any l.toArray (l.length - n) n listed = true ∧ wpList P l.toArray Q (l.drop n) a w

structure TailOk (l : List Oper) (n : Nat) : Prop where
  sel : Region.noSelect l.toArray = true
  ssa : ssaB .any l = true
  lt : n < l.toArray.size
  sink : Region.sinkB .any l.toArray n = true
  chain : Region.chainB .any l.toArray n = true

def wpHeadS (P : Program) (l : List Oper) (Q : Exit → Act → World → Prop) (n f : Nat) (listed : Array Bool) (a : Act) (w : World) : Prop :=
  TailOk l n → HeadInv .any l.toArray n listed → wpHeadU P .any l.toArray Q n (tailT P l Q n) f listed a w

theorem tailT_done {l : List Oper} {n : Nat} (listed : Array Bool) (a : Act) (w : World) (h : tailT P l Q n listed a w) : ∀ j ∈ Region.ready .any l.toArray listed, n ≤ j := seqB_ready h.1

theorem wpHeadS_piece {l : List Oper} {n : Nat} (hQ : ∀ c a w d v, Q (.panic c) (Act.put a (some d) v) w → Q (.panic c) a w) (hO : TailOk l n) {E : Act} :
    ∀ (L : List Oper) (s f N : Nat) (listed : Array Bool) (a : Act) (w : World), (∀ k o, L[k]? = some o → l[s + k]? = some o) → s + L.length ≤ n → a.tmps.size = N → pieceB .any N s L listed = true →
      HeadInv .any l.toArray n listed →
      (∀ w1, Up w w1 → wpQuiet P l.toArray (CU w1) (· = E) L a) → (HeadInv .any l.toArray n (setFrom listed s L.length) → wpHeadU P .any l.toArray Q n (tailT P l Q n) f (setFrom listed s L.length) E w) →
      wpHeadU P .any l.toArray Q n (tailT P l Q n) (f + L.length) listed a w
  | [], s, f, N, listed, a, w, _, _, _, _, inv, hq, H => by
    have : a = E := hq w (Up.refl w)
    subst this
    exact H inv
  | o :: r, s, f, N, listed, a, w, hL, hsn, hn, hB, inv, hq, H => by
    simp only [pieceB, Bool.and_eq_true] at hB
    obtain ⟨⟨⟨h1, h2⟩, h3⟩, h4⟩ := hB
    have hoi : l.toArray[s]? = some o := by simpa using hL 0 o (by simp)
    have hun : listed.getD s true = false := by simpa using h2
    have hall : ∀ e ∈ o.after, Region.binds .any e = true → listed.getD e.on false = true := fun e he hb => by
      have := Array.all_eq_true_iff_forall_mem.1 h3 e he
      simpa [hb] using this
    have hsn' : s < n := by simp at hsn; omega
    cases hd : o.dst with
    | none => simp only [hd] at h1; cases h1
    | some d =>
      simp only [hd, decide_eq_true_eq] at h1
      have hr : ∀ o' ∈ r, o'.dst ≠ some d := by
        intro o' ho'
        obtain ⟨k, hk⟩ := List.mem_iff_getElem?.1 ho'
        have hk2 := hL (k + 1) o' (by simpa using hk)
        have hS := hO.ssa
        simp only [ssaB, Bool.and_eq_true] at hS
        exact nodupB_spec l hS.1 s (s + (k + 1)) o o' d (by simpa using hL 0 o (by simp)) hk2 (by omega) hd
      obtain ⟨v, hy, hq2⟩ := quiet_cons hd (by rw [hn]; exact h1) hr hq
      have hrdy : s ∈ Region.ready .any l.toArray listed := mem_ready.2 ⟨hun, o, hoi, hall⟩
      have H2 := wpHeadS_piece hQ hO r (s + 1) f N (listed.setIfInBounds s true) (a.put o.dst v) w (fun k o' hk => by have := hL (k + 1) o' (by simpa using hk); rw [show s + 1 + k = s + (k + 1) by omega]; exact this)
        (by simp at hsn; omega) (by rw [put_size]; exact hn) h4 (inv.set hrdy hsn') hq2 H
      have := wpHeadU_first hoi (Region.noSelect_spec hO.sel) hO.sink hO.chain hO.lt hsn' (fun listed a w => tailT_done listed a w) (fun c a w => by rw [hd]; exact hQ c a w d v) (f + r.length) listed a w inv (ssa_apart hO.ssa hoi hall) hrdy hy H2
      simpa [Nat.add_assoc] using this

/-- A quiet piece: operations s to s + k - 1. -/
theorem wpHeadS_quiet {l : List Oper} {n : Nat} {listed : Array Bool} {a : Act} {w : World} {fuel : Nat} (s k m N : Nat) (hf : fuel = m + k) (hl : (Nat.ble (s + k) n && Nat.ble (s + k) l.length) = true)
    (hQ : ∀ c a w d v, Q (.panic c) (Act.put a (some d) v) w → Q (.panic c) a w) (hn : a.tmps.size = N) (hB : pieceB .any N s ((l.drop s).take k) listed = true)
    (h : ∃ E, (∀ w1, Up w w1 → wpQuiet P l.toArray (fun w' => ∃ u : Later w1, w' = u.world) (· = E) ((l.drop s).take k) a) ∧ wpHeadS P l Q n m (setFrom listed s k) E w) :
    wpHeadS P l Q n fuel listed a w := by
  obtain ⟨E, h1, h2⟩ := h
  intro hO inv
  subst hf
  simp only [Bool.and_eq_true] at hl
  have hl1 := Nat.le_of_ble_eq_true hl.1
  have hl2 := Nat.le_of_ble_eq_true hl.2
  have hlen : ((l.drop s).take k).length = k := by simp; omega
  have := wpHeadS_piece hQ hO ((l.drop s).take k) s m N listed a w (fun j o hk => by
    rw [List.getElem?_take] at hk
    split at hk
    · rwa [List.getElem?_drop] at hk
    · cases hk) (by rw [hlen]; exact hl1) hn hB inv h1 (by rw [hlen]; exact h2 hO)
  rwa [hlen] at this

theorem wpHeadS_one {l : List Oper} {n : Nat} {listed : Array Bool} {a : Act} {w : World} {fuel : Nat} (i m : Nat) (hf : fuel = m + 1) (hl : (Nat.ble (i + 1) n && Nat.ble (i + 1) l.length) = true) (hB : onlyB .any i 0 l listed = true)
    (h : ∀ w1, Up w w1 → wpList P l.toArray (fun e a w => match e with | .normal => Up w1 w ∧ wpHeadS P l Q n m (listed.setIfInBounds i true) a w | e => Q e a w) ((l.drop i).take 1) a w1) : wpHeadS P l Q n fuel listed a w := by
  intro hO inv
  subst hf
  intro w1 h1
  simp only [Bool.and_eq_true] at hl
  have hin : i < n := Nat.le_of_ble_eq_true hl.1
  have key : ∀ j ∈ Region.ready .any l.toArray listed, j = i := by
    intro j hj
    obtain ⟨hun, o, ho, hall⟩ := mem_ready.1 hj
    have h2 := onlyB_spec l 0 hB j o (by simpa using ho)
    rw [Nat.zero_add] at h2
    have h3 : (!listed.getD j true && o.after.all (fun e => !Region.binds .any e || listed.getD e.on false)) = true := by
      rw [hun]
      simp only [Bool.not_false, Bool.true_and, Array.all_eq_true_iff_forall_mem]
      intro e he
      cases hb : Region.binds .any e
      · rfl
      · simp [hall e he hb]
    rw [h3] at h2
    simpa using h2.symm
  have h2 := h w1 h1
  have hi : i < l.length := Nat.le_of_ble_eq_true hl.2
  have hd : (l.drop i).take 1 = [l[i]] := by rw [List.drop_eq_getElem_cons hi]; rfl
  rw [hd] at h2
  have hoi : l.toArray[i]? = some l[i] := by simp [hi]
  have h9 := onlyB_spec l 0 hB i l[i] (by simp [hi])
  rw [Nat.zero_add] at h9
  simp only [beq_self_eq_true, Bool.and_eq_true, Bool.not_eq_true', Array.all_eq_true_iff_forall_mem] at h9
  have hrdy : i ∈ Region.ready .any l.toArray listed := mem_ready.2 ⟨h9.1, l[i], hoi, fun e he hb => by simpa [hb] using h9.2 e he⟩
  refine ⟨fun h0 => (by rw [h0] at hrdy; cases hrdy), fun j hj => ?_⟩
  obtain rfl := key j hj
  refine ⟨hin, ?_⟩
  have inv2 := inv.set hrdy hin
  unfold wpOp
  simp only [hoi]
  unfold wpList at h2
  split at h2
  · rename_i hw
    simp only [hw, if_true]
    rcases h2 with h2 | ⟨h3, a3, w3, h4⟩
    · refine .inl (Oper.wp_mono (fun a' w' h5 => ?_) (oper_wp_q (fun c a w h => h) (fun a w h => h) h2))
      have h6 : Up w1 w' ∧ wpHeadS P l Q n m (listed.setIfInBounds j true) a' w' := h5
      exact ⟨h6.1, h6.2 hO inv2⟩
    · exact .inr ⟨h3, a3, w3, h4⟩
  · rename_i hw
    simp only [hw]
    have h6 : Up w1 w1 ∧ wpHeadS P l Q n m (listed.setIfInBounds j true) _ w1 := h2
    exact ⟨h6.1, h6.2 hO inv2⟩

theorem wpHeadS_tail {l : List Oper} {n : Nat} {listed : Array Bool} {a : Act} {w : World} {fuel : Nat} (hf : fuel = 0) (hB : Region.seqB .any l.toArray (l.length - n) n listed = true) (h : ∀ w1, Up w w1 → wpList P l.toArray Q (l.drop n) a w1) :
    wpHeadS P l Q n fuel listed a w := by
  subst hf
  exact fun _ _ w1 h1 => ⟨hB, h w1 h1⟩

theorem wp_region_tail {id : Nat} {a : Act} {w : World} {l : List Oper} (n : Nat) (hm : P.follows .mixedOrders = true) (hsel : Region.noSelect l.toArray = true) (hS : ssaB .any l = true)
    (ht : (Nat.ble (n + 1) l.length && Region.sinkB .any l.toArray n && Region.chainB .any l.toArray n) = true)
    (h : wpHeadS P l Q n n (Array.replicate l.length false) a w) : (Code.region id l.toArray true).wp P Q a w := by
  simp only [Bool.and_eq_true] at ht
  have hlt := Nat.le_of_ble_eq_true ht.1.1
  have hO : TailOk l n := ⟨hsel, hS, by simp; omega, ht.1.2, ht.2⟩
  have inv0 : HeadInv .any l.toArray n (Array.replicate l.length false) :=
    ⟨by simp, fun j oj _ hl => (by rw [getD_replicate_false] at hl; cases hl), fun t _ ht => getD_in (by simpa using ht) (getD_replicate_false _ _)⟩
  refine wp_region_any hm ?_
  have h2 := wpAny_of_headU (g := l.length - n) (fun listed a' w' hT => ?_) _ _ _ _ (wpHeadU.up (Up.refl w).drew (h hO inv0))
  · rw [show n + (l.length - n) = l.length by omega] at h2
    simpa using h2
  · have := wpAny_of_seq (md := .any) (Q' := Q) (l.drop n) n listed a' w' (fun j => by simp [List.getElem?_drop]) (by rw [List.length_drop]; exact hT.1) hT.2
    rwa [List.length_drop] at this
end
end Bw
