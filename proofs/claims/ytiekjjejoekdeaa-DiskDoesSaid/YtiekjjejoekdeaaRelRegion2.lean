/- Regions that draw their order, over two relations: what an operation of a quiet piece may do (T: nothing, or growth), and what each other one keeps of what the quiet pieces look at (R). No program in sight. -/
import Derived.Test.YtiekjjejoekdeaaRelRegion
namespace Bw
open Go Go.RowKit

structure TRok (T R : World → World → Prop) : Prop where
  t : ROk T
  r : ROk R
  sub : ∀ {a b}, T a b → R a b

section
variable {P : Program} {ops : Array Oper} {md : Region.Mode} {Q : Exit → Act → World → Prop} {T R : World → World → Prop}

/-- Whatever order is picked from here on, and from whatever world that R leads to. -/
def wpAnyT (T R : World → World → Prop) (P : Program) (md : Region.Mode) (ops : Array Oper) (Q : Exit → Act → World → Prop) : Nat → Array Bool → Act → World → Prop
  | 0, listed, a, w => Region.ready md ops listed = [] ∧ ∀ w1, T w w1 → Q .normal a w1
  | f + 1, listed, a, w => ∀ w1, T w w1 → (Region.ready md ops listed = [] → Q .normal a w1) ∧
      ∀ i ∈ Region.ready md ops listed, wpOp P ops Q i (fun a' w' => (LastOp md ops i ∨ R w1 w') ∧ wpAnyT T R P md ops Q f (listed.setIfInBounds i true) a' w') a w1

theorem wpAnyT.up (hR : TRok T R) : ∀ {f : Nat} {listed : Array Bool} {a : Act} {w w2 : World}, T w w2 → wpAnyT T R P md ops Q f listed a w → wpAnyT T R P md ops Q f listed a w2
  | 0, _, _, _, _, hu, h => ⟨h.1, fun w1 h1 => h.2 w1 (hR.t.trans hu h1)⟩
  | _ + 1, _, _, _, _, hu, h => fun w1 h1 => h w1 (hR.t.trans hu h1)

theorem wpAny_of_T (hR : TRok T R) : ∀ (f : Nat) (listed : Array Bool) (a : Act) (w : World), wpAnyT T R P md ops Q f listed a w → wpAny P md ops Q f listed a w
  | 0, _, _, w, h => ⟨h.1, h.2 w (hR.t.refl w)⟩
  | f + 1, _, _, w, h => ⟨(h w (hR.t.refl w)).1, fun i hi => wpOp_mono (fun a' w' h' => wpAny_of_T hR f _ a' w' h'.2) ((h w (hR.t.refl w)).2 i hi)⟩

/-- In every world that R leads to the operation yields v, and keeps R. -/
def SYT (T R : World → World → Prop) (P : Program) (ops : Array Oper) (w : World) (o : Oper) (v : Value) (a : Act) : Prop := ∀ w1, R w w1 → YieldsIn P ops (CR T w1) o v a

theorem wpAnyT_first (hR : TRok T R) {i : Nat} {oi : Oper} {v : Value} (hi : ops[i]? = some oi) (hsel : ∀ (j : Nat) (o : Oper) cs b, ops[j]? = some o → o.op ≠ .select cs b)
    (hQ : ∀ c a w, Q (.panic c) (a.put oi.dst v) w → Q (.panic c) a w) :
    ∀ (f : Nat) (listed : Array Bool) (a : Act) (w : World),
      (∀ j oj, ops[j]? = some oj → j ≠ i → listed.getD j true = false → (∀ e ∈ oj.after, Region.binds md e = true → e.on ≠ i) → oi.apart ops oj = true) →
      i ∈ Region.ready md ops listed → SYT T R P ops w oi v a →
      wpAnyT T R P md ops Q f (listed.setIfInBounds i true) (a.put oi.dst v) w → wpAnyT T R P md ops Q (f + 1) listed a w := by
  intro f
  induction f with
  | zero =>
    intro listed a w _ hr hy H w1 h1
    refine ⟨fun h => (by rw [h] at hr; cases hr), fun j hj => ?_⟩
    by_cases hji : j = i
    · subst hji
      refine wpOp_of_qOp (C := CR T w1) (K := fun a' => a' = a.put oi.dst v) ⟨⟨w1, hR.t.refl w1⟩, rfl⟩ ?_ ((hy w1 (hR.sub h1)).qOp hi rfl)
      rintro a' w' ⟨u, rfl⟩ rfl
      exact ⟨.inr (hR.sub u.up), wpAnyT.up hR (hR.t.trans h1 u.up) H⟩
    · have := ready_mono hj hji
      rw [H.1] at this
      cases this
  | succ f ih =>
    intro listed a w hfree hr hy H w1 h1
    refine ⟨fun h => (by rw [h] at hr; cases hr), fun j hj => ?_⟩
    by_cases hji : j = i
    · subst hji
      refine wpOp_of_qOp (C := CR T w1) (K := fun a' => a' = a.put oi.dst v) ⟨⟨w1, hR.t.refl w1⟩, rfl⟩ ?_ ((hy w1 (hR.sub h1)).qOp hi rfl)
      rintro a' w' ⟨u, rfl⟩ rfl
      exact ⟨.inr (hR.sub u.up), wpAnyT.up hR (hR.t.trans h1 u.up) H⟩
    · have h2 := (H w1 h1).2 j (ready_mono hj hji)
      obtain ⟨hjun, oj, hoj, hall⟩ := mem_ready.1 hj
      have hnot : ∀ e ∈ oj.after, Region.binds md e = true → e.on ≠ i := fun e he hb heq => by
        have h3 := hall e he hb
        rw [heq, getD_both (mem_ready.1 hr).1] at h3
        cases h3
      have hap := hfree j oj hoj hji hjun hnot
      obtain ⟨_, _, h3⟩ := Oper.apart_spec hap
      have hsi := fun cs b => hsel i oi cs b hi
      have hsj := fun cs b => hsel j oj cs b hoj
      have hw : YieldsIf P ops (fun _ => False) oi v a := by
        rcases hy w1 (hR.sub h1) with ⟨h4, _⟩ | ⟨h4, h5⟩
        · exact .inl ⟨h4, fun _ h => h.elim⟩
        · exact .inr ⟨h4, h5⟩
      have h5 := wpOp_shape hoj (wpOp_putIf hoj hap hsi hsj hQ hw h2)
      refine wpOp_mono (fun a' w' h6 => ?_) h5
      obtain ⟨⟨_, h7, h8⟩, u, d, rfl⟩ := h6
      have h7' : R w1 w' := by
        rcases h7 with h7 | h7
        · obtain ⟨e, he, hb, hk⟩ := h7 oj hoj i oi hi (Ne.symm hji)
          exact absurd hk (hnot e he hb)
        · exact h7
      refine ⟨.inr h7', ?_⟩
      have hy' : SYT T R P ops w' oi v (Act.put { a with defers := d } oj.dst u) := by
        have hd : SYT T R P ops w oi v { a with defers := d } := fun w3 h9 => (hy w3 h9).of_same rfl rfl
        exact fun w3 h9 => ((hd w3 (hR.r.trans (hR.r.trans (hR.sub h1) h7') h9)).of_same (execOp_put oi hsi _ oj.dst u h3) (wanted_put oi _ oj.dst u h3))
      have hfree' : ∀ k ok, ops[k]? = some ok → k ≠ i → (listed.setIfInBounds j true).getD k true = false →
          (∀ e ∈ ok.after, Region.binds md e = true → e.on ≠ i) → oi.apart ops ok = true := fun k ok hk hki hun hno => by
        refine hfree k ok hk hki ?_ hno
        by_cases hjk : j = k
        · subst hjk; exact hjun
        · rw [getD_set_ne true hjk] at hun; exact hun
      refine ih (listed.setIfInBounds j true) _ w' hfree' (ready_mono hr (Ne.symm hji)) hy' ?_
      rw [Array.setIfInBounds_comm _ _ hji]
      exact h8

theorem quiet_consT (hR : TRok T R) {w : World} {E : Act} {o : Oper} {rest : List Oper} {a : Act} {d : Nat} (hd : o.dst = some d) (hs : d < a.tmps.size) (hr : ∀ o' ∈ rest, o'.dst ≠ some d)
    (h : ∀ w1, R w w1 → wpQuiet P ops (CR T w1) (· = E) (o :: rest) a) :
    ∃ v, SYT T R P ops w o v a ∧ ∀ w1, R w w1 → wpQuiet P ops (CR T w1) (· = E) rest (a.put o.dst v) := by
  refine ⟨(E.tmps[d]?).getD undef, ?_⟩
  have key : ∀ w1, R w w1 → YieldsIn P ops (CR T w1) o ((E.tmps[d]?).getD undef) a ∧ wpQuiet P ops (CR T w1) (· = E) rest (a.put o.dst ((E.tmps[d]?).getD undef)) := by
    intro w1 h1
    have h2 := h w1 h1
    unfold wpQuiet at h2
    split at h2
    · rename_i hw
      obtain ⟨v, h3, h4⟩ := h2
      have h5 := quiet_slot rest _ h4 d hr
      rw [hd, put_slot_eq hs] at h5
      rw [h5]
      exact ⟨.inl ⟨hw, h3⟩, h4⟩
    · rename_i hw
      have h5 := quiet_slot rest _ h2 d hr
      rw [hd, put_slot_eq hs] at h5
      rw [h5]
      exact ⟨.inr ⟨by simpa using hw, rfl⟩, h2⟩
  exact ⟨fun w1 h1 => (key w1 h1).1, fun w1 h1 => (key w1 h1).2⟩

def wpAnyTS (T R : World → World → Prop) (P : Program) (md : Region.Mode) (l : List Oper) (Q : Exit → Act → World → Prop) (f : Nat) (listed : Array Bool) (a : Act) (w : World) : Prop :=
  TRok T R → Region.noSelect l.toArray = true → ssaB md l = true → wpAnyT T R P md l.toArray Q f listed a w

theorem wpAnyTS_piece (hR : TRok T R) {l : List Oper} (hQ : ∀ c a w d v, Q (.panic c) (Act.put a (some d) v) w → Q (.panic c) a w) (hsel : Region.noSelect l.toArray = true) (hS : ssaB md l = true) {E : Act} :
    ∀ (L : List Oper) (s f n : Nat) (listed : Array Bool) (a : Act) (w : World), (∀ k o, L[k]? = some o → l[s + k]? = some o) → a.tmps.size = n → pieceB md n s L listed = true →
      (∀ w1, R w w1 → wpQuiet P l.toArray (CR T w1) (· = E) L a) → wpAnyT T R P md l.toArray Q f (setFrom listed s L.length) E w → wpAnyT T R P md l.toArray Q (f + L.length) listed a w
  | [], s, f, n, listed, a, w, _, _, _, hq, H => by
    have : a = E := hq w (hR.r.refl w)
    subst this
    exact H
  | o :: r, s, f, n, listed, a, w, hL, hn, hB, hq, H => by
    simp only [pieceB, Bool.and_eq_true] at hB
    obtain ⟨⟨⟨h1, h2⟩, h3⟩, h4⟩ := hB
    have hoi : l.toArray[s]? = some o := by simpa using hL 0 o (by simp)
    have hun : listed.getD s true = false := by simpa using h2
    have hall : ∀ e ∈ o.after, Region.binds md e = true → listed.getD e.on false = true := fun e he hb => by
      have := Array.all_eq_true_iff_forall_mem.1 h3 e he
      simpa [hb] using this
    cases hd : o.dst with
    | none => simp only [hd] at h1; cases h1
    | some d =>
      simp only [hd, decide_eq_true_eq] at h1
      have hr : ∀ o' ∈ r, o'.dst ≠ some d := by
        intro o' ho'
        obtain ⟨k, hk⟩ := List.mem_iff_getElem?.1 ho'
        have hk2 := hL (k + 1) o' (by simpa using hk)
        simp only [ssaB, Bool.and_eq_true] at hS
        exact nodupB_spec l hS.1 s (s + (k + 1)) o o' d (by simpa using hL 0 o (by simp)) hk2 (by omega) hd
      obtain ⟨v, hy, hq2⟩ := quiet_consT hR hd (by rw [hn]; exact h1) hr hq
      have H2 := wpAnyTS_piece hR hQ hsel hS r (s + 1) f n (listed.setIfInBounds s true) (a.put o.dst v) w (fun k o' hk => by have := hL (k + 1) o' (by simpa using hk); rw [show s + 1 + k = s + (k + 1) by omega]; exact this)
        (by rw [put_size]; exact hn) h4 hq2 H
      have := wpAnyT_first hR hoi (Region.noSelect_spec hsel) (fun c a w => by rw [hd]; exact hQ c a w d v) (f + r.length) listed a w (ssa_apart hS hoi hall) (mem_ready.2 ⟨hun, o, hoi, hall⟩) hy H2
      simpa [Nat.add_assoc] using this

/-- The piece: operations s to s + n - 1. -/
theorem wpAnyTS_quiet {l : List Oper} {listed : Array Bool} {a : Act} {w : World} {fuel : Nat} (s n m N : Nat) (hf : fuel = m + n) (hl : Nat.ble (s + n) l.length = true)
    (hQ : ∀ c a w d v, Q (.panic c) (Act.put a (some d) v) w → Q (.panic c) a w) (hn : a.tmps.size = N) (hB : pieceB md N s ((l.drop s).take n) listed = true)
    (h : ∃ E, (∀ w1, R w w1 → wpQuiet P l.toArray (fun w' => ∃ u : LaterR T w1, w' = u.world) (· = E) ((l.drop s).take n) a) ∧ wpAnyTS T R P md l Q m (setFrom listed s n) E w) :
    wpAnyTS T R P md l Q fuel listed a w := by
  obtain ⟨E, h1, h2⟩ := h
  intro hR hsel hS
  subst hf
  have hl' := Nat.le_of_ble_eq_true hl
  have hlen : ((l.drop s).take n).length = n := by simp; omega
  have := wpAnyTS_piece hR hQ hsel hS ((l.drop s).take n) s m N listed a w (fun k o hk => by
    rw [List.getElem?_take] at hk
    split at hk
    · rwa [List.getElem?_drop] at hk
    · cases hk) hn hB h1 (by rw [hlen]; exact h2 hR hsel hS)
  rwa [hlen] at this

/-! ### The operations that may come up, whatever they do -/
/-- What is asked behind an operation. -/
def eachT (T R : World → World → Prop) (P : Program) (md : Region.Mode) (l : List Oper) (Q : Exit → Act → World → Prop) (m : Nat) (listed : Array Bool) (a : Act) (w1 : World) : List Nat → Prop
  | [] => True
  | i :: r => wpList P l.toArray (fun e a w => match e with | .normal => (lastB md l i = true ∨ R w1 w) ∧ wpAnyTS T R P md l Q m (listed.setIfInBounds i true) a w | e => Q e a w) ((l.drop i).take 1) a w1 ∧ eachT T R P md l Q m listed a w1 r
theorem eachT_mem {l : List Oper} {m : Nat} {listed : Array Bool} {a : Act} {w1 : World} : ∀ {is : List Nat}, eachT T R P md l Q m listed a w1 is → ∀ i ∈ is,
    wpList P l.toArray (fun e a w => match e with | .normal => (lastB md l i = true ∨ R w1 w) ∧ wpAnyTS T R P md l Q m (listed.setIfInBounds i true) a w | e => Q e a w) ((l.drop i).take 1) a w1
  | [], _, i, hi => absurd hi (by simp)
  | x :: r, h, i, hi => by
    rcases List.mem_cons.1 hi with rfl | hi
    · exact h.1
    · exact eachT_mem h.2 i hi

theorem wpAnyTS_some {l : List Oper} {listed : Array Bool} {a : Act} {w : World} {fuel : Nat} (i0 : Nat) (is : List Nat) (m : Nat) (hf : fuel = m + 1) (hl : (Nat.ble (i0 + 1) l.length && is.all fun i => Nat.ble (i + 1) l.length) = true)
    (hB : someB md (i0 :: is) 0 l listed = true) (h : ∀ w1, T w w1 → eachT T R P md l Q m listed a w1 (i0 :: is)) : wpAnyTS T R P md l Q fuel listed a w := by
  intro hR hsel hS
  subst hf
  intro w1 h1
  simp only [Bool.and_eq_true, List.all_eq_true] at hl
  have hbound : ∀ j ∈ i0 :: is, j < l.length := fun j hj => by
    rcases List.mem_cons.1 hj with rfl | hj
    · exact Nat.le_of_ble_eq_true hl.1
    · exact Nat.le_of_ble_eq_true (hl.2 j hj)
  have key : ∀ j ∈ Region.ready md l.toArray listed, j ∈ i0 :: is := by
    intro j hj
    obtain ⟨hun, o, ho, hall⟩ := mem_ready.1 hj
    have h2 := someB_spec l 0 hB j o (by simpa using ho)
    rw [Nat.zero_add] at h2
    have h3 : readyB md listed j o = true := by
      unfold readyB
      rw [hun]
      simp only [Bool.not_false, Bool.true_and, Array.all_eq_true_iff_forall_mem]
      intro e he
      cases hb : Region.binds md e
      · rfl
      · simp [hall e he hb]
    rw [h3] at h2
    simpa using h2.symm
  have hrdy : i0 ∈ Region.ready md l.toArray listed := by
    have hi := hbound i0 (by simp)
    have h9 := someB_spec l 0 hB i0 l[i0] (by simp [hi])
    rw [Nat.zero_add] at h9
    simp only [List.contains_cons, beq_self_eq_true, Bool.true_or, readyB, Bool.and_eq_true, Bool.not_eq_true', Array.all_eq_true_iff_forall_mem] at h9
    exact mem_ready.2 ⟨h9.1, l[i0], by simp [hi], fun e he hb => by simpa [hb] using h9.2 e he⟩
  refine ⟨fun h0 => (by rw [h0] at hrdy; cases hrdy), fun j hj => ?_⟩
  have hjm := key j hj
  have hi := hbound j hjm
  have h2 := eachT_mem (h w1 h1) j hjm
  have hd : (l.drop j).take 1 = [l[j]] := by rw [List.drop_eq_getElem_cons hi]; rfl
  rw [hd] at h2
  have hoi : l.toArray[j]? = some l[j] := by simp [hi]
  unfold wpOp
  simp only [hoi]
  unfold wpList at h2
  split at h2
  · rename_i hw
    simp only [hw, if_true]
    rcases h2 with h2 | ⟨h3, a3, w3, h4⟩
    · refine .inl (Oper.wp_mono (fun a' w' h5 => ?_) (oper_wp_q (fun c a w h => h) (fun a w h => h) h2))
      have h6 : (lastB md l j = true ∨ R w1 w') ∧ wpAnyTS T R P md l Q m (listed.setIfInBounds j true) a' w' := h5
      exact ⟨h6.1.imp lastB_spec id, h6.2 hR hsel hS⟩
    · exact .inr ⟨h3, a3, w3, h4⟩
  · rename_i hw
    simp only [hw]
    have h6 : (lastB md l j = true ∨ R w1 w1) ∧ wpAnyTS T R P md l Q m (listed.setIfInBounds j true) _ w1 := h2
    exact ⟨h6.1.imp lastB_spec id, h6.2 hR hsel hS⟩

theorem wpAnyTS_done {l : List Oper} {listed : Array Bool} {a : Act} {w : World} (hB : someB md [] 0 l listed = true) (h : ∀ w1, T w w1 → Q .normal a w1) : wpAnyTS T R P md l Q 0 listed a w := by
  intro hR hsel hS
  refine ⟨?_, h⟩
  rcases hr : Region.ready md l.toArray listed with _ | ⟨j, r⟩
  · rfl
  · exfalso
    have hj : j ∈ Region.ready md l.toArray listed := by rw [hr]; simp
    obtain ⟨hun, o, ho, hall⟩ := mem_ready.1 hj
    have h2 := someB_spec l 0 hB j o (by simpa using ho)
    rw [Nat.zero_add] at h2
    have h3 : readyB md listed j o = true := by
      unfold readyB
      rw [hun]
      simp only [Bool.not_false, Bool.true_and, Array.all_eq_true_iff_forall_mem]
      intro e he
      cases hb : Region.binds md e
      · rfl
      · simp [hall e he hb]
    rw [h3] at h2
    simp at h2

theorem wp_region_two (T R : World → World → Prop) (hR : TRok T R) {id : Nat} {a : Act} {w : World} {l : List Oper} (hm : P.follows .mixedOrders = true) (hsel : Region.noSelect l.toArray = true) (hS : ssaB .any l = true)
    (h : wpAnyTS T R P .any l Q l.length (Array.replicate l.length false) a w.drew) : (Code.region id l.toArray true).wp P Q a w := by
  refine wp_region_any hm ?_
  simpa using wpAny_of_T hR _ _ _ _ (h hR hsel hS)
end


theorem eq_ok {R : World → World → Prop} (hR : ROk R) : TRok Eq R := ⟨⟨fun _ => rfl, Eq.trans⟩, hR, fun h => by subst h; exact hR.refl _⟩
/-- What reads as before at one address. -/
def SameAt (p : Addr) (w w' : World) : Prop := w'.cell? p = w.cell? p
theorem sameAt_ok (p : Addr) : TRok Eq (SameAt p) := eq_ok ⟨fun _ => rfl, fun h k => Eq.trans k h⟩
theorem laterEq_ne (w : World) : Nonempty (LaterR Eq w) := ⟨⟨w, rfl⟩⟩
theorem LaterEq.at {p : Addr} {w w1 : World} {v : Value} (h : w.cell? p = some v) (h1 : SameAt p w w1) : ∀ u : LaterR Eq w1, u.world.cell? p = some v := fun u => by obtain ⟨_, rfl⟩ := u; exact Eq.trans h1 h
end Bw
