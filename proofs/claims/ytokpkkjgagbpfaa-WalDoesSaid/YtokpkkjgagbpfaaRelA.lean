/- Regions that draw their order, whose operations keep something (a relation R between worlds, that each but the last one keeps): quiet pieces, each shown in every world that R leads to, come ahead; the others are walked as they may come up. No program in sight. -/
import Derived.Test.YtokpkkjgagbpfaaUpA
namespace Bw
set_option linter.unusedVariables false
open Go Go.RowKit

structure ROk (R : World → World → Prop) : Prop where
  refl : ∀ w, R w w
  trans : ∀ {a b c}, R a b → R b c → R a c
/-- A world that R leads to. -/
structure LaterR (R : World → World → Prop) (w : World) where
  world : World
  up : R w world
def CR (R : World → World → Prop) (w : World) : World → Prop := fun w' => ∃ u : LaterR R w, w' = u.world
theorem laterR_ne {R : World → World → Prop} (hR : ROk R) (w : World) : Nonempty (LaterR R w) := ⟨⟨w, hR.refl w⟩⟩

section
variable {P : Program} {ops : Array Oper} {md : Region.Mode} {Q : Exit → Act → World → Prop} {R : World → World → Prop}

/-- Does operation j wait for all others? -/
def LastOp (md : Region.Mode) (ops : Array Oper) (j : Nat) : Prop := ∀ oj, ops[j]? = some oj → ∀ k o, ops[k]? = some o → k ≠ j → ∃ e ∈ oj.after, Region.binds md e = true ∧ e.on = k

/-- Whatever order is picked from here on, and from whatever world that R leads to. -/
def wpAnyR (R : World → World → Prop) (P : Program) (md : Region.Mode) (ops : Array Oper) (Q : Exit → Act → World → Prop) : Nat → Array Bool → Act → World → Prop
  | 0, listed, a, w => Region.ready md ops listed = [] ∧ ∀ w1, R w w1 → Q .normal a w1
  | f + 1, listed, a, w => ∀ w1, R w w1 → (Region.ready md ops listed = [] → Q .normal a w1) ∧
      ∀ i ∈ Region.ready md ops listed, wpOp P ops Q i (fun a' w' => (LastOp md ops i ∨ R w1 w') ∧ wpAnyR R P md ops Q f (listed.setIfInBounds i true) a' w') a w1

theorem wpAnyR.up (hR : ROk R) : ∀ {f : Nat} {listed : Array Bool} {a : Act} {w w2 : World}, R w w2 → wpAnyR R P md ops Q f listed a w → wpAnyR R P md ops Q f listed a w2
  | 0, _, _, _, _, hu, h => ⟨h.1, fun w1 h1 => h.2 w1 (hR.trans hu h1)⟩
  | _ + 1, _, _, _, _, hu, h => fun w1 h1 => h w1 (hR.trans hu h1)

theorem wpAny_of_R (hR : ROk R) : ∀ (f : Nat) (listed : Array Bool) (a : Act) (w : World), wpAnyR R P md ops Q f listed a w → wpAny P md ops Q f listed a w
  | 0, _, _, w, h => ⟨h.1, h.2 w (hR.refl w)⟩
  | f + 1, _, _, w, h => ⟨(h w (hR.refl w)).1, fun i hi => wpOp_mono (fun a' w' h' => wpAny_of_R hR f _ a' w' h'.2) ((h w (hR.refl w)).2 i hi)⟩

/-- In every world that R leads to the operation yields v, and keeps R. -/
def SYR (R : World → World → Prop) (P : Program) (ops : Array Oper) (w : World) (o : Oper) (v : Value) (a : Act) : Prop := ∀ w1, R w w1 → YieldsIn P ops (CR R w1) o v a

theorem wpAnyR_first (hR : ROk R) {i : Nat} {oi : Oper} {v : Value} (hi : ops[i]? = some oi) (hsel : ∀ (j : Nat) (o : Oper) cs b, ops[j]? = some o → o.op ≠ .select cs b)
    (hQ : ∀ c a w, Q (.panic c) (a.put oi.dst v) w → Q (.panic c) a w) :
    ∀ (f : Nat) (listed : Array Bool) (a : Act) (w : World),
      (∀ j oj, ops[j]? = some oj → j ≠ i → listed.getD j true = false → (∀ e ∈ oj.after, Region.binds md e = true → e.on ≠ i) → oi.apart ops oj = true) →
      i ∈ Region.ready md ops listed → SYR R P ops w oi v a →
      wpAnyR R P md ops Q f (listed.setIfInBounds i true) (a.put oi.dst v) w → wpAnyR R P md ops Q (f + 1) listed a w := by
  intro f
  induction f with
  | zero =>
    intro listed a w _ hr hy H w1 h1
    refine ⟨fun h => (by rw [h] at hr; cases hr), fun j hj => ?_⟩
    by_cases hji : j = i
    · subst hji
      refine wpOp_of_qOp (C := CR R w1) (K := fun a' => a' = a.put oi.dst v) ⟨⟨w1, hR.refl w1⟩, rfl⟩ ?_ ((hy w1 h1).qOp hi rfl)
      rintro a' w' ⟨u, rfl⟩ rfl
      exact ⟨.inr u.up, wpAnyR.up hR (hR.trans h1 u.up) H⟩
    · have := ready_mono hj hji
      rw [H.1] at this
      cases this
  | succ f ih =>
    intro listed a w hfree hr hy H w1 h1
    refine ⟨fun h => (by rw [h] at hr; cases hr), fun j hj => ?_⟩
    by_cases hji : j = i
    · subst hji
      refine wpOp_of_qOp (C := CR R w1) (K := fun a' => a' = a.put oi.dst v) ⟨⟨w1, hR.refl w1⟩, rfl⟩ ?_ ((hy w1 h1).qOp hi rfl)
      rintro a' w' ⟨u, rfl⟩ rfl
      exact ⟨.inr u.up, wpAnyR.up hR (hR.trans h1 u.up) H⟩
    · have h2 := (H w1 h1).2 j (ready_mono hj hji)
      obtain ⟨hjun, oj, hoj, hall⟩ := mem_ready.1 hj
      have hnot : ∀ e ∈ oj.after, Region.binds md e = true → e.on ≠ i := fun e he hb heq => by
        have h3 := hall e he hb
        rw [heq, getD_both (mem_ready.1 hr).1] at h3
        cases h3
      have hap := hfree j oj hoj hji hjun hnot
      obtain ⟨_, _, h3⟩ := Oper.apart_spec hap
      have hsi := fun cs b => hsel i oi cs b hi
      have hsj := fun cs b => hsel j oj cs b hoj
      have hw : YieldsIf P ops (fun _ => False) oi v a := by
        rcases hy w1 h1 with ⟨h4, _⟩ | ⟨h4, h5⟩
        · exact .inl ⟨h4, fun _ h => h.elim⟩
        · exact .inr ⟨h4, h5⟩
      have h5 := wpOp_shape hoj (wpOp_putIf hoj hap hsi hsj hQ hw h2)
      refine wpOp_mono (fun a' w' h6 => ?_) h5
      obtain ⟨⟨_, h7, h8⟩, u, d, rfl⟩ := h6
      have h7' : R w1 w' := by
        rcases h7 with h7 | h7
        · obtain ⟨e, he, hb, hk⟩ := h7 oj hoj i oi hi (Ne.symm hji)
          exact absurd hk (hnot e he hb)
        · exact h7
      refine ⟨.inr h7', ?_⟩
      have hy' : SYR R P ops w' oi v (Act.put { a with defers := d } oj.dst u) := by
        have hd : SYR R P ops w oi v { a with defers := d } := fun w3 h9 => (hy w3 h9).of_same rfl rfl
        exact fun w3 h9 => ((hd w3 (hR.trans (hR.trans h1 h7') h9)).of_same (execOp_put oi hsi _ oj.dst u h3) (wanted_put oi _ oj.dst u h3))
      have hfree' : ∀ k ok, ops[k]? = some ok → k ≠ i → (listed.setIfInBounds j true).getD k true = false →
          (∀ e ∈ ok.after, Region.binds md e = true → e.on ≠ i) → oi.apart ops ok = true := fun k ok hk hki hun hno => by
        refine hfree k ok hk hki ?_ hno
        by_cases hjk : j = k
        · subst hjk; exact hjun
        · rw [getD_set_ne true hjk] at hun; exact hun
      refine ih (listed.setIfInBounds j true) _ w' hfree' (ready_mono hr (Ne.symm hji)) hy' ?_
      rw [Array.setIfInBounds_comm _ _ hji]
      exact h8

theorem quiet_consR (hR : ROk R) {w : World} {E : Act} {o : Oper} {rest : List Oper} {a : Act} {d : Nat} (hd : o.dst = some d) (hs : d < a.tmps.size) (hr : ∀ o' ∈ rest, o'.dst ≠ some d)
    (h : ∀ w1, R w w1 → wpQuiet P ops (CR R w1) (· = E) (o :: rest) a) :
    ∃ v, SYR R P ops w o v a ∧ ∀ w1, R w w1 → wpQuiet P ops (CR R w1) (· = E) rest (a.put o.dst v) := by
  refine ⟨(E.tmps[d]?).getD undef, ?_⟩
  have key : ∀ w1, R w w1 → YieldsIn P ops (CR R w1) o ((E.tmps[d]?).getD undef) a ∧ wpQuiet P ops (CR R w1) (· = E) rest (a.put o.dst ((E.tmps[d]?).getD undef)) := by
    intro w1 h1
    have h2 := h w1 h1
    unfold wpQuiet at h2
    split at h2
    · rename_i hw
      obtain ⟨v, h3, h4⟩ := h2
      have h5 := quiet_slot rest _ h4 d hr
      rw [hd, put_slot_eq hs] at h5
      rw [h5]
      exact ⟨.inl ⟨hw, h3⟩, h4⟩
    · rename_i hw
      have h5 := quiet_slot rest _ h2 d hr
      rw [hd, put_slot_eq hs] at h5
      rw [h5]
      exact ⟨.inr ⟨by simpa using hw, rfl⟩, h2⟩
  exact ⟨fun w1 h1 => (key w1 h1).1, fun w1 h1 => (key w1 h1).2⟩

def wpAnyRS (R : World → World → Prop) (P : Program) (md : Region.Mode) (l : List Oper) (Q : Exit → Act → World → Prop) (f : Nat) (listed : Array Bool) (a : Act) (w : World) : Prop :=
  ROk R → Region.noSelect l.toArray = true → ssaB md l = true → wpAnyR R P md l.toArray Q f listed a w

theorem wpAnyRS_piece (hR : ROk R) {l : List Oper} (hQ : ∀ c a w d v, Q (.panic c) (Act.put a (some d) v) w → Q (.panic c) a w) (hsel : Region.noSelect l.toArray = true) (hS : ssaB md l = true) {E : Act} :
    ∀ (L : List Oper) (s f n : Nat) (listed : Array Bool) (a : Act) (w : World), (∀ k o, L[k]? = some o → l[s + k]? = some o) → a.tmps.size = n → pieceB md n s L listed = true →
      (∀ w1, R w w1 → wpQuiet P l.toArray (CR R w1) (· = E) L a) → wpAnyR R P md l.toArray Q f (setFrom listed s L.length) E w → wpAnyR R P md l.toArray Q (f + L.length) listed a w
  | [], s, f, n, listed, a, w, _, _, _, hq, H => by
    have : a = E := hq w (hR.refl w)
    subst this
    exact H
  | o :: r, s, f, n, listed, a, w, hL, hn, hB, hq, H => by
    simp only [pieceB, Bool.and_eq_true] at hB
    obtain ⟨⟨⟨h1, h2⟩, h3⟩, h4⟩ := hB
    have hoi : l.toArray[s]? = some o := by simpa using hL 0 o (by simp)
    have hun : listed.getD s true = false := by simpa using h2
    have hall : ∀ e ∈ o.after, Region.binds md e = true → listed.getD e.on false = true := fun e he hb => by
      have := Array.all_eq_true_iff_forall_mem.1 h3 e he
      simpa [hb] using this
    cases hd : o.dst with
    | none => simp only [hd] at h1; cases h1
    | some d =>
      simp only [hd, decide_eq_true_eq] at h1
      have hr : ∀ o' ∈ r, o'.dst ≠ some d := by
        intro o' ho'
        obtain ⟨k, hk⟩ := List.mem_iff_getElem?.1 ho'
        have hk2 := hL (k + 1) o' (by simpa using hk)
        simp only [ssaB, Bool.and_eq_true] at hS
        exact nodupB_spec l hS.1 s (s + (k + 1)) o o' d (by simpa using hL 0 o (by simp)) hk2 (by omega) hd
      obtain ⟨v, hy, hq2⟩ := quiet_consR hR hd (by rw [hn]; exact h1) hr hq
      have H2 := wpAnyRS_piece hR hQ hsel hS r (s + 1) f n (listed.setIfInBounds s true) (a.put o.dst v) w (fun k o' hk => by have := hL (k + 1) o' (by simpa using hk); rw [show s + 1 + k = s + (k + 1) by omega]; exact this)
        (by rw [put_size]; exact hn) h4 hq2 H
      have := wpAnyR_first hR hoi (Region.noSelect_spec hsel) (fun c a w => by rw [hd]; exact hQ c a w d v) (f + r.length) listed a w (ssa_apart hS hoi hall) (mem_ready.2 ⟨hun, o, hoi, hall⟩) hy H2
      simpa [Nat.add_assoc] using this

/-- The piece: operations s to s + n - 1. -/
theorem wpAnyRS_quiet {l : List Oper} {listed : Array Bool} {a : Act} {w : World} {fuel : Nat} (s n m N : Nat) (hf : fuel = m + n) (hl : Nat.ble (s + n) l.length = true)
    (hQ : ∀ c a w d v, Q (.panic c) (Act.put a (some d) v) w → Q (.panic c) a w) (hn : a.tmps.size = N) (hB : pieceB md N s ((l.drop s).take n) listed = true)
    (h : ∃ E, (∀ w1, R w w1 → wpQuiet P l.toArray (fun w' => ∃ u : LaterR R w1, w' = u.world) (· = E) ((l.drop s).take n) a) ∧ wpAnyRS R P md l Q m (setFrom listed s n) E w) :
    wpAnyRS R P md l Q fuel listed a w := by
  obtain ⟨E, h1, h2⟩ := h
  intro hR hsel hS
  subst hf
  have hl' := Nat.le_of_ble_eq_true hl
  have hlen : ((l.drop s).take n).length = n := by simp; omega
  have := wpAnyRS_piece hR hQ hsel hS ((l.drop s).take n) s m N listed a w (fun k o hk => by
    rw [List.getElem?_take] at hk
    split at hk
    · rwa [List.getElem?_drop] at hk
    · cases hk) hn hB h1 (by rw [hlen]; exact h2 hR hsel hS)
  rwa [hlen] at this

/-! ### The operations that may come up, whatever they do -/
def readyB (md : Region.Mode) (listed : Array Bool) (k : Nat) (o : Oper) : Bool := !listed.getD k true && o.after.all (fun e => !Region.binds md e || listed.getD e.on false)
def someB (md : Region.Mode) (is : List Nat) : Nat → List Oper → Array Bool → Bool
  | _, [], _ => true
  | k, o :: r, listed => (readyB md listed k o == is.contains k) && someB md is (k + 1) r listed
theorem someB_spec {listed : Array Bool} {is : List Nat} : ∀ (l : List Oper) (k : Nat), someB md is k l listed = true → ∀ j o, l[j]? = some o → readyB md listed (k + j) o = is.contains (k + j)
  | [], _, _, j, o, hj => by simp at hj
  | x :: r, k, h, j, o, hj => by
    simp only [someB, Bool.and_eq_true, beq_iff_eq] at h
    cases j with
    | zero => simp at hj; subst hj; exact h.1
    | succ j =>
      have := someB_spec r (k + 1) h.2 j o (by simpa using hj)
      rw [show k + (j + 1) = k + 1 + j by omega]
      exact this
def lastB (md : Region.Mode) (l : List Oper) (i : Nat) : Bool := match l[i]? with
  | none => false
  | some o => (List.range l.length).all fun k => k == i || o.after.any fun e => Region.binds md e && e.on == k
theorem lastB_spec {l : List Oper} {i : Nat} (h : lastB md l i = true) : LastOp md l.toArray i := by
  intro oj hoj k o hk hne
  have hoj' : l[i]? = some oj := by simpa using hoj
  have hk' : k < l.length := by have : l[k]? = some o := by simpa using hk
                                exact (List.getElem?_eq_some_iff.1 this).1
  simp only [lastB, hoj', List.all_eq_true, List.mem_range, Bool.or_eq_true, beq_iff_eq] at h
  rcases h k hk' with h | h
  · exact absurd h hne
  · exact any_edge h

/-- What is asked behind an operation. -/
def eachS (R : World → World → Prop) (P : Program) (md : Region.Mode) (l : List Oper) (Q : Exit → Act → World → Prop) (m : Nat) (listed : Array Bool) (a : Act) (w1 : World) : List Nat → Prop
  | [] => True
  | i :: r => wpList P l.toArray (fun e a w => match e with | .normal => (lastB md l i = true ∨ R w1 w) ∧ wpAnyRS R P md l Q m (listed.setIfInBounds i true) a w | e => Q e a w) ((l.drop i).take 1) a w1 ∧ eachS R P md l Q m listed a w1 r
theorem eachS_mem {l : List Oper} {m : Nat} {listed : Array Bool} {a : Act} {w1 : World} : ∀ {is : List Nat}, eachS R P md l Q m listed a w1 is → ∀ i ∈ is,
    wpList P l.toArray (fun e a w => match e with | .normal => (lastB md l i = true ∨ R w1 w) ∧ wpAnyRS R P md l Q m (listed.setIfInBounds i true) a w | e => Q e a w) ((l.drop i).take 1) a w1
  | [], _, i, hi => absurd hi (by simp)
  | x :: r, h, i, hi => by
    rcases List.mem_cons.1 hi with rfl | hi
    · exact h.1
    · exact eachS_mem h.2 i hi

theorem wpAnyRS_some {l : List Oper} {listed : Array Bool} {a : Act} {w : World} {fuel : Nat} (i0 : Nat) (is : List Nat) (m : Nat) (hf : fuel = m + 1) (hl : (Nat.ble (i0 + 1) l.length && is.all fun i => Nat.ble (i + 1) l.length) = true)
    (hB : someB md (i0 :: is) 0 l listed = true) (h : ∀ w1, R w w1 → eachS R P md l Q m listed a w1 (i0 :: is)) : wpAnyRS R P md l Q fuel listed a w := by
  intro hR hsel hS
  subst hf
  intro w1 h1
  simp only [Bool.and_eq_true, List.all_eq_true] at hl
  have hbound : ∀ j ∈ i0 :: is, j < l.length := fun j hj => by
    rcases List.mem_cons.1 hj with rfl | hj
    · exact Nat.le_of_ble_eq_true hl.1
    · exact Nat.le_of_ble_eq_true (hl.2 j hj)
  have key : ∀ j ∈ Region.ready md l.toArray listed, j ∈ i0 :: is := by
    intro j hj
    obtain ⟨hun, o, ho, hall⟩ := mem_ready.1 hj
    have h2 := someB_spec l 0 hB j o (by simpa using ho)
    rw [Nat.zero_add] at h2
    have h3 : readyB md listed j o = true := by
      unfold readyB
      rw [hun]
      simp only [Bool.not_false, Bool.true_and, Array.all_eq_true_iff_forall_mem]
      intro e he
      cases hb : Region.binds md e
      · rfl
      · simp [hall e he hb]
    rw [h3] at h2
    simpa using h2.symm
  have hrdy : i0 ∈ Region.ready md l.toArray listed := by
    have hi := hbound i0 (by simp)
    have h9 := someB_spec l 0 hB i0 l[i0] (by simp [hi])
    rw [Nat.zero_add] at h9
    simp only [List.contains_cons, beq_self_eq_true, Bool.true_or, readyB, Bool.and_eq_true, Bool.not_eq_true', Array.all_eq_true_iff_forall_mem] at h9
    exact mem_ready.2 ⟨h9.1, l[i0], by simp [hi], fun e he hb => by simpa [hb] using h9.2 e he⟩
  refine ⟨fun h0 => (by rw [h0] at hrdy; cases hrdy), fun j hj => ?_⟩
  have hjm := key j hj
  have hi := hbound j hjm
  have h2 := eachS_mem (h w1 h1) j hjm
  have hd : (l.drop j).take 1 = [l[j]] := by rw [List.drop_eq_getElem_cons hi]; rfl
  rw [hd] at h2
  have hoi : l.toArray[j]? = some l[j] := by simp [hi]
  unfold wpOp
  simp only [hoi]
  unfold wpList at h2
  split at h2
  · rename_i hw
    simp only [hw, if_true]
    rcases h2 with h2 | ⟨h3, a3, w3, h4⟩
    · refine .inl (Oper.wp_mono (fun a' w' h5 => ?_) (oper_wp_q (fun c a w h => h) (fun a w h => h) h2))
      have h6 : (lastB md l j = true ∨ R w1 w') ∧ wpAnyRS R P md l Q m (listed.setIfInBounds j true) a' w' := h5
      exact ⟨h6.1.imp lastB_spec id, h6.2 hR hsel hS⟩
    · exact .inr ⟨h3, a3, w3, h4⟩
  · rename_i hw
    simp only [hw]
    have h6 : (lastB md l j = true ∨ R w1 w1) ∧ wpAnyRS R P md l Q m (listed.setIfInBounds j true) _ w1 := h2
    exact ⟨h6.1.imp lastB_spec id, h6.2 hR hsel hS⟩

theorem wpAnyRS_done {l : List Oper} {listed : Array Bool} {a : Act} {w : World} (hB : someB md [] 0 l listed = true) (h : ∀ w1, R w w1 → Q .normal a w1) : wpAnyRS R P md l Q 0 listed a w := by
  intro hR hsel hS
  refine ⟨?_, h⟩
  rcases hr : Region.ready md l.toArray listed with _ | ⟨j, r⟩
  · rfl
  · exfalso
    have hj : j ∈ Region.ready md l.toArray listed := by rw [hr]; simp
    obtain ⟨hun, o, ho, hall⟩ := mem_ready.1 hj
    have h2 := someB_spec l 0 hB j o (by simpa using ho)
    rw [Nat.zero_add] at h2
    have h3 : readyB md listed j o = true := by
      unfold readyB
      rw [hun]
      simp only [Bool.not_false, Bool.true_and, Array.all_eq_true_iff_forall_mem]
      intro e he
      cases hb : Region.binds md e
      · rfl
      · simp [hall e he hb]
    rw [h3] at h2
    simp at h2

theorem wp_region_rel (R : World → World → Prop) (hR : ROk R) {id : Nat} {a : Act} {w : World} {l : List Oper} (hm : P.follows .mixedOrders = true) (hsel : Region.noSelect l.toArray = true) (hS : ssaB .any l = true)
    (h : wpAnyRS R P .any l Q l.length (Array.replicate l.length false) a w.drew) : (Code.region id l.toArray true).wp P Q a w := by
  refine wp_region_any hm ?_
  simpa using wpAny_of_R hR _ _ _ _ (h hR hsel hS)
end

/-! ### All blocks below B stay -/
theorem RowAt.below {B : Nat} {w w' : World} {g : Nat} {l : List Value} (h : RowAt w g l) (hb : Below B w w') (hg : g < B) : RowAt w' g l :=
  ⟨fun j hj => (Below.cell (p := ⟨g, j, none⟩) hb hg).trans (h.cell j hj), fun j hj => (Below.frozen (p := ⟨g, j, none⟩) hb hg).trans (h.free j hj)⟩
theorem rok_below (B : Nat) : ROk (Below B) := ⟨Below.refl B, Below.trans⟩
theorem LaterB.cell_of {B : Nat} {w : World} {p : Addr} {v : Value} (hp : p.block < B) (h : w.cell? p = some v) : ∀ u : LaterR (Below B) w, u.world.cell? p = some v := fun u => (Below.cell u.up hp).trans h
theorem LaterB.of_base {B : Nat} {w w1 : World} {p : Addr} {v : Value} (hp : p.block < B) (h : w.cell? p = some v) (h1 : Below B w w1) : ∀ u : LaterR (Below B) w1, u.world.cell? p = some v := LaterB.cell_of hp ((Below.cell h1 hp).trans h)
theorem Calls.laterB {P : Program} {f : FuncId} {args : Array Value} {B : Nat} {W : World} (hB : B ≤ W.heap.size) {u : LaterR (Below B) W} {v : Value} (h : Calls P f args u.world fun e w' => e = .returned v ∧ Below u.world.heap.size u.world w') :
    Calls P f args u.world fun e w' => e = .returned v ∧ ∃ u' : LaterR (Below B) W, w' = u'.world :=
  h.mono fun _ w' ⟨he, hb⟩ => ⟨he, ⟨w', u.up.trans (hb.mono (Nat.le_trans hB u.up.size))⟩, rfl⟩

/-! ### All blocks below B stay; each block that begins with a byte goes on so; five bools stay bools, and those of the target stay as they are -/
def bools (a b c d e : Bool) : List Value := [.bool a, .bool b, .bool c, .bool d, .bool e]
structure RB (B : Nat) (t0 t1 t2 t3 t4 : Bool) (w w' : World) : Prop where
  below : Below B w w'
  byte : ∀ (k : Nat) (v : Int), w.cell? ⟨k, 0, none⟩ = some (.int .u8 v) → w'.cell? ⟨k, 0, none⟩ = some (.int .u8 v)
  row : ∀ k a b c d e, RowAt w k (bools a b c d e) → ∃ a' b' c' d' e', RowAt w' k (bools a' b' c' d' e')
  aim : ∀ k, RowAt w k (bools t0 t1 t2 t3 t4) → RowAt w' k (bools t0 t1 t2 t3 t4)
section
variable {B : Nat} {t0 t1 t2 t3 t4 : Bool}
theorem rok_RB : ROk (RB B t0 t1 t2 t3 t4) := ⟨fun w => ⟨Below.refl B w, fun _ _ h => h, fun _ a b c d e h => ⟨a, b, c, d, e, h⟩, fun _ h => h⟩,
  fun h1 h2 => ⟨h1.below.trans h2.below, fun k v h => h2.byte k v (h1.byte k v h), fun k a b c d e h => by obtain ⟨a', b', c', d', e', h⟩ := h1.row k a b c d e h; exact h2.row k a' b' c' d' e' h, fun k h => h2.aim k (h1.aim k h)⟩⟩
theorem RB.up {w w' : World} (hB : B ≤ w.heap.size) (h : Up w w') : RB B t0 t1 t2 t3 t4 w w' :=
  ⟨h.mono hB, fun k v hc => (Below.cell (p := ⟨k, 0, none⟩) h (World.block_lt_of_cell? w _ hc)).trans hc, fun k a b c d e hr => ⟨a, b, c, d, e, RowAt.up hr h⟩, fun k hr => RowAt.up hr h⟩
theorem LaterRB.of_base {w w1 : World} {p : Addr} {v : Value} (hp : p.block < B) (h : w.cell? p = some v) (h1 : RB B t0 t1 t2 t3 t4 w w1) : ∀ u : LaterR (RB B t0 t1 t2 t3 t4) w1, u.world.cell? p = some v := fun u => (Below.cell u.up.below hp).trans ((Below.cell h1.below hp).trans h)
theorem LaterRB.byte {w w1 : World} {k : Nat} {v : Int} (h : w.cell? ⟨k, 0, none⟩ = some (.int .u8 v)) (h1 : RB B t0 t1 t2 t3 t4 w w1) : ∀ u : LaterR (RB B t0 t1 t2 t3 t4) w1, u.world.cell? ⟨k, 0, none⟩ = some (.int .u8 v) := fun u => u.up.byte k v (h1.byte k v h)
theorem Calls.laterRB {P : Program} {f : FuncId} {args : Array Value} {W : World} (hB : B ≤ W.heap.size) {u : LaterR (RB B t0 t1 t2 t3 t4) W} {v : Value} (h : Calls P f args u.world fun e w' => e = .returned v ∧ Below u.world.heap.size u.world w') :
    Calls P f args u.world fun e w' => e = .returned v ∧ ∃ u' : LaterR (RB B t0 t1 t2 t3 t4) W, w' = u'.world :=
  h.mono fun _ w' ⟨he, hb⟩ => ⟨he, ⟨w', rok_RB.trans u.up (RB.up (Nat.le_trans hB u.up.below.size) hb)⟩, rfl⟩
/-- The target laid into a block that holds five bools. -/
theorem RB.has {w : World} {h : Nat} {a0 a1 a2 a3 a4 : Bool} (hB : B ≤ h) (hc : RowAt w h (bools a0 a1 a2 a3 a4)) :
    RB B t0 t1 t2 t3 t4 w (((((w.setCell ⟨h, 0, none⟩ (.bool t0)).setCell ⟨h, 1, none⟩ (.bool t1)).setCell ⟨h, 2, none⟩ (.bool t2)).setCell ⟨h, 3, none⟩ (.bool t3)).setCell ⟨h, 4, none⟩ (.bool t4)) ∧
    RowAt (((((w.setCell ⟨h, 0, none⟩ (.bool t0)).setCell ⟨h, 1, none⟩ (.bool t1)).setCell ⟨h, 2, none⟩ (.bool t2)).setCell ⟨h, 3, none⟩ (.bool t3)).setCell ⟨h, 4, none⟩ (.bool t4)) h (bools t0 t1 t2 t3 t4) := by
  unfold bools at hc
  have h0 : w.cell? ⟨h, 0, none⟩ = some (.bool a0) := hc.c5.1
  have r4 : RowAt _ h (bools t0 t1 t2 t3 t4) := ((((hc.set 0 (.bool t0) (by simp)).set 1 (.bool t1) (by simp)).set 2 (.bool t2) (by simp)).set 3 (.bool t3) (by simp)).set 4 (.bool t4) (by simp)
  have oth : ∀ {k : Nat} {l : List Value}, h ≠ k → RowAt w k l → RowAt (((((w.setCell ⟨h, 0, none⟩ (.bool t0)).setCell ⟨h, 1, none⟩ (.bool t1)).setCell ⟨h, 2, none⟩ (.bool t2)).setCell ⟨h, 3, none⟩ (.bool t3)).setCell ⟨h, 4, none⟩ (.bool t4)) k l := fun hk hr =>
    ((((hr.other h 0 _ hk).other h 1 _ hk).other h 2 _ hk).other h 3 _ hk).other h 4 _ hk
  refine ⟨⟨(((((Below.refl B w).setCell hB _).setCell hB _).setCell hB _).setCell hB _).setCell hB _, fun k u hk => ?_, fun k a b c d e hk => ?_, fun k hk => ?_⟩, r4⟩
  · by_cases e : h = k
    · subst e
      exact absurd (h0.symm.trans hk) (fun e => by injection e with e; cases e)
    · have co : ∀ (x : World) (i : Nat) (y : Value), (x.setCell ⟨h, i, none⟩ y).cell? ⟨k, 0, none⟩ = x.cell? ⟨k, 0, none⟩ := fun x i y =>
        World.cell?_setCell_other _ _ _ _ (fun h' => e (by have := congrArg Addr.block h'; simpa using this))
      exact (co _ 4 _).trans ((co _ 3 _).trans ((co _ 2 _).trans ((co _ 1 _).trans ((co _ 0 _).trans hk))))
  · by_cases e : h = k
    · subst e; exact ⟨_, _, _, _, _, r4⟩
    · exact ⟨_, _, _, _, _, oth e hk⟩
  · by_cases e : h = k
    · subst e; exact r4
    · exact oth e hk
end

/-! ### All blocks stay but one -/
structure AllBut (g : Nat) (w w' : World) : Prop where
  os : w'.os = w.os
  tape : w'.tape = w.tape
  output : w'.output = w.output
  size : w.heap.size ≤ w'.heap.size
  block : ∀ k, k < w.heap.size → k ≠ g → w'.heap[k]? = w.heap[k]?
theorem AllBut.refl (g : Nat) (w : World) : AllBut g w w := ⟨rfl, rfl, rfl, Nat.le_refl _, fun _ _ _ => rfl⟩
theorem AllBut.trans {g : Nat} {a b c : World} (h : AllBut g a b) (k : AllBut g b c) : AllBut g a c :=
  ⟨k.os.trans h.os, k.tape.trans h.tape, k.output.trans h.output, Nat.le_trans h.size k.size, fun i hi hg => (k.block i (Nat.lt_of_lt_of_le hi h.size) hg).trans (h.block i hi hg)⟩
theorem AllBut.of_up {g : Nat} {w w' : World} (h : Up w w') : AllBut g w w' := ⟨h.os, h.tape, h.output, h.size, fun k hk _ => h.block k hk⟩
theorem AllBut.up {g : Nat} {a w w' : World} (h : AllBut g a w) (hu : Up w w') : AllBut g a w' := h.trans (.of_up hu)
theorem AllBut.set {g : Nat} {a w : World} (h : AllBut g a w) (o : Nat) (v : Value) : AllBut g a (w.setCell ⟨g, o, none⟩ v) :=
  h.trans ⟨rfl, rfl, rfl, by rw [World.size_setCell]; exact Nat.le_refl _, fun k _ hg => Below.heap_setCell w ⟨g, o, none⟩ v k hg⟩
theorem AllBut.setNew {g : Nat} {a w : World} (h : AllBut g a w) (b o : Nat) (v : Value) (hb : a.heap.size ≤ b) : AllBut g a (w.setCell ⟨b, o, none⟩ v) := by
  refine ⟨h.os, h.tape, h.output, by rw [World.size_setCell]; exact h.size, fun k hk hg => ?_⟩
  rw [Below.heap_setCell w ⟨b, o, none⟩ v k (by simp; omega)]
  exact h.block k hk hg
theorem AllBut.alloc {g : Nat} {a w : World} (h : AllBut g a w) (o : Obj) : AllBut g a (w.alloc o) := h.up ((Up.refl w).alloc o)
theorem AllBut.drew {g : Nat} {a w : World} (h : AllBut g a w) : AllBut g a w.drew := h.up (Up.refl w).drew
theorem AllBut.grown {g : Nat} {a w w' : World} {row : Option Nat} (h : AllBut g a w) (hg : w.grownBy w' row) (hr : ∀ k, row = some k → a.heap.size ≤ k) : AllBut g a w' :=
  ⟨hg.os.trans h.os, hg.tape.trans h.tape, hg.output.trans h.output, Nat.le_trans h.size hg.size, fun k hk hne => (hg.block k (Nat.lt_of_lt_of_le hk h.size) (fun e => by have := hr k e.symm; omega)).trans (h.block k hk hne)⟩
theorem RowAt.allBut {g : Nat} {w w' : World} {b : Nat} {v : Value} {l : List Value} (h : RowAt w b (v :: l)) (ha : AllBut g w w') (hne : b ≠ g) : RowAt w' b (v :: l) := by
  have hb := ha.block b h.lt hne
  exact ⟨fun j hj => (World.cell?_of_block (a := ⟨b, j, none⟩) hb).trans (h.cell j hj), fun j hj => (World.frozen?_of_block (a := ⟨b, j, none⟩) hb).trans (h.free j hj)⟩
theorem Up.allBut {g : Nat} {W w w' : World} (h : Up W w) (ha : AllBut g w w') (hg : W.heap.size ≤ g) : Up W w' :=
  Below.trans h ⟨ha.os, ha.tape, ha.output, ha.size, fun k hk => ha.block k (Nat.lt_of_lt_of_le hk (Below.size h)) (by omega)⟩
theorem AllBut.cell {g : Nat} {w w' : World} (h : AllBut g w w') {p : Addr} {v : Value} (hc : w.cell? p = some v) (hne : p.block ≠ g) : w'.cell? p = some v :=
  (World.cell?_of_block (h.block p.block (World.block_lt_of_cell? w p hc) hne)).trans hc
end Bw
namespace Bw
set_option linter.unusedVariables false
open Go Go.RowKit

structure TRok (T R : World → World → Prop) : Prop where
  t : ROk T
  r : ROk R
  sub : ∀ {a b}, T a b → R a b

section
variable {P : Program} {ops : Array Oper} {md : Region.Mode} {Q : Exit → Act → World → Prop} {T R : World → World → Prop}

/-- Whatever order is picked from here on, and from whatever world that R leads to. -/
def wpAnyT (T R : World → World → Prop) (P : Program) (md : Region.Mode) (ops : Array Oper) (Q : Exit → Act → World → Prop) : Nat → Array Bool → Act → World → Prop
  | 0, listed, a, w => Region.ready md ops listed = [] ∧ ∀ w1, T w w1 → Q .normal a w1
  | f + 1, listed, a, w => ∀ w1, T w w1 → (Region.ready md ops listed = [] → Q .normal a w1) ∧
      ∀ i ∈ Region.ready md ops listed, wpOp P ops Q i (fun a' w' => (LastOp md ops i ∨ R w1 w') ∧ wpAnyT T R P md ops Q f (listed.setIfInBounds i true) a' w') a w1

theorem wpAnyT.up (hR : TRok T R) : ∀ {f : Nat} {listed : Array Bool} {a : Act} {w w2 : World}, T w w2 → wpAnyT T R P md ops Q f listed a w → wpAnyT T R P md ops Q f listed a w2
  | 0, _, _, _, _, hu, h => ⟨h.1, fun w1 h1 => h.2 w1 (hR.t.trans hu h1)⟩
  | _ + 1, _, _, _, _, hu, h => fun w1 h1 => h w1 (hR.t.trans hu h1)

theorem wpAny_of_T (hR : TRok T R) : ∀ (f : Nat) (listed : Array Bool) (a : Act) (w : World), wpAnyT T R P md ops Q f listed a w → wpAny P md ops Q f listed a w
  | 0, _, _, w, h => ⟨h.1, h.2 w (hR.t.refl w)⟩
  | f + 1, _, _, w, h => ⟨(h w (hR.t.refl w)).1, fun i hi => wpOp_mono (fun a' w' h' => wpAny_of_T hR f _ a' w' h'.2) ((h w (hR.t.refl w)).2 i hi)⟩

/-- In every world that R leads to the operation yields v, and keeps R. -/
def SYT (T R : World → World → Prop) (P : Program) (ops : Array Oper) (w : World) (o : Oper) (v : Value) (a : Act) : Prop := ∀ w1, R w w1 → YieldsIn P ops (CR T w1) o v a

theorem wpAnyT_first (hR : TRok T R) {i : Nat} {oi : Oper} {v : Value} (hi : ops[i]? = some oi) (hsel : ∀ (j : Nat) (o : Oper) cs b, ops[j]? = some o → o.op ≠ .select cs b)
    (hQ : ∀ c a w, Q (.panic c) (a.put oi.dst v) w → Q (.panic c) a w) :
    ∀ (f : Nat) (listed : Array Bool) (a : Act) (w : World),
      (∀ j oj, ops[j]? = some oj → j ≠ i → listed.getD j true = false → (∀ e ∈ oj.after, Region.binds md e = true → e.on ≠ i) → oi.apart ops oj = true) →
      i ∈ Region.ready md ops listed → SYT T R P ops w oi v a →
      wpAnyT T R P md ops Q f (listed.setIfInBounds i true) (a.put oi.dst v) w → wpAnyT T R P md ops Q (f + 1) listed a w := by
  intro f
  induction f with
  | zero =>
    intro listed a w _ hr hy H w1 h1
    refine ⟨fun h => (by rw [h] at hr; cases hr), fun j hj => ?_⟩
    by_cases hji : j = i
    · subst hji
      refine wpOp_of_qOp (C := CR T w1) (K := fun a' => a' = a.put oi.dst v) ⟨⟨w1, hR.t.refl w1⟩, rfl⟩ ?_ ((hy w1 (hR.sub h1)).qOp hi rfl)
      rintro a' w' ⟨u, rfl⟩ rfl
      exact ⟨.inr (hR.sub u.up), wpAnyT.up hR (hR.t.trans h1 u.up) H⟩
    · have := ready_mono hj hji
      rw [H.1] at this
      cases this
  | succ f ih =>
    intro listed a w hfree hr hy H w1 h1
    refine ⟨fun h => (by rw [h] at hr; cases hr), fun j hj => ?_⟩
    by_cases hji : j = i
    · subst hji
      refine wpOp_of_qOp (C := CR T w1) (K := fun a' => a' = a.put oi.dst v) ⟨⟨w1, hR.t.refl w1⟩, rfl⟩ ?_ ((hy w1 (hR.sub h1)).qOp hi rfl)
      rintro a' w' ⟨u, rfl⟩ rfl
      exact ⟨.inr (hR.sub u.up), wpAnyT.up hR (hR.t.trans h1 u.up) H⟩
    · have h2 := (H w1 h1).2 j (ready_mono hj hji)
      obtain ⟨hjun, oj, hoj, hall⟩ := mem_ready.1 hj
      have hnot : ∀ e ∈ oj.after, Region.binds md e = true → e.on ≠ i := fun e he hb heq => by
        have h3 := hall e he hb
        rw [heq, getD_both (mem_ready.1 hr).1] at h3
        cases h3
      have hap := hfree j oj hoj hji hjun hnot
      obtain ⟨_, _, h3⟩ := Oper.apart_spec hap
      have hsi := fun cs b => hsel i oi cs b hi
      have hsj := fun cs b => hsel j oj cs b hoj
      have hw : YieldsIf P ops (fun _ => False) oi v a := by
        rcases hy w1 (hR.sub h1) with ⟨h4, _⟩ | ⟨h4, h5⟩
        · exact .inl ⟨h4, fun _ h => h.elim⟩
        · exact .inr ⟨h4, h5⟩
      have h5 := wpOp_shape hoj (wpOp_putIf hoj hap hsi hsj hQ hw h2)
      refine wpOp_mono (fun a' w' h6 => ?_) h5
      obtain ⟨⟨_, h7, h8⟩, u, d, rfl⟩ := h6
      have h7' : R w1 w' := by
        rcases h7 with h7 | h7
        · obtain ⟨e, he, hb, hk⟩ := h7 oj hoj i oi hi (Ne.symm hji)
          exact absurd hk (hnot e he hb)
        · exact h7
      refine ⟨.inr h7', ?_⟩
      have hy' : SYT T R P ops w' oi v (Act.put { a with defers := d } oj.dst u) := by
        have hd : SYT T R P ops w oi v { a with defers := d } := fun w3 h9 => (hy w3 h9).of_same rfl rfl
        exact fun w3 h9 => ((hd w3 (hR.r.trans (hR.r.trans (hR.sub h1) h7') h9)).of_same (execOp_put oi hsi _ oj.dst u h3) (wanted_put oi _ oj.dst u h3))
      have hfree' : ∀ k ok, ops[k]? = some ok → k ≠ i → (listed.setIfInBounds j true).getD k true = false →
          (∀ e ∈ ok.after, Region.binds md e = true → e.on ≠ i) → oi.apart ops ok = true := fun k ok hk hki hun hno => by
        refine hfree k ok hk hki ?_ hno
        by_cases hjk : j = k
        · subst hjk; exact hjun
        · rw [getD_set_ne true hjk] at hun; exact hun
      refine ih (listed.setIfInBounds j true) _ w' hfree' (ready_mono hr (Ne.symm hji)) hy' ?_
      rw [Array.setIfInBounds_comm _ _ hji]
      exact h8

theorem quiet_consT (hR : TRok T R) {w : World} {E : Act} {o : Oper} {rest : List Oper} {a : Act} {d : Nat} (hd : o.dst = some d) (hs : d < a.tmps.size) (hr : ∀ o' ∈ rest, o'.dst ≠ some d)
    (h : ∀ w1, R w w1 → wpQuiet P ops (CR T w1) (· = E) (o :: rest) a) :
    ∃ v, SYT T R P ops w o v a ∧ ∀ w1, R w w1 → wpQuiet P ops (CR T w1) (· = E) rest (a.put o.dst v) := by
  refine ⟨(E.tmps[d]?).getD undef, ?_⟩
  have key : ∀ w1, R w w1 → YieldsIn P ops (CR T w1) o ((E.tmps[d]?).getD undef) a ∧ wpQuiet P ops (CR T w1) (· = E) rest (a.put o.dst ((E.tmps[d]?).getD undef)) := by
    intro w1 h1
    have h2 := h w1 h1
    unfold wpQuiet at h2
    split at h2
    · rename_i hw
      obtain ⟨v, h3, h4⟩ := h2
      have h5 := quiet_slot rest _ h4 d hr
      rw [hd, put_slot_eq hs] at h5
      rw [h5]
      exact ⟨.inl ⟨hw, h3⟩, h4⟩
    · rename_i hw
      have h5 := quiet_slot rest _ h2 d hr
      rw [hd, put_slot_eq hs] at h5
      rw [h5]
      exact ⟨.inr ⟨by simpa using hw, rfl⟩, h2⟩
  exact ⟨fun w1 h1 => (key w1 h1).1, fun w1 h1 => (key w1 h1).2⟩

def wpAnyTS (T R : World → World → Prop) (P : Program) (md : Region.Mode) (l : List Oper) (Q : Exit → Act → World → Prop) (f : Nat) (listed : Array Bool) (a : Act) (w : World) : Prop :=
  TRok T R → Region.noSelect l.toArray = true → ssaB md l = true → wpAnyT T R P md l.toArray Q f listed a w

theorem wpAnyTS_piece (hR : TRok T R) {l : List Oper} (hQ : ∀ c a w d v, Q (.panic c) (Act.put a (some d) v) w → Q (.panic c) a w) (hsel : Region.noSelect l.toArray = true) (hS : ssaB md l = true) {E : Act} :
    ∀ (L : List Oper) (s f n : Nat) (listed : Array Bool) (a : Act) (w : World), (∀ k o, L[k]? = some o → l[s + k]? = some o) → a.tmps.size = n → pieceB md n s L listed = true →
      (∀ w1, R w w1 → wpQuiet P l.toArray (CR T w1) (· = E) L a) → wpAnyT T R P md l.toArray Q f (setFrom listed s L.length) E w → wpAnyT T R P md l.toArray Q (f + L.length) listed a w
  | [], s, f, n, listed, a, w, _, _, _, hq, H => by
    have : a = E := hq w (hR.r.refl w)
    subst this
    exact H
  | o :: r, s, f, n, listed, a, w, hL, hn, hB, hq, H => by
    simp only [pieceB, Bool.and_eq_true] at hB
    obtain ⟨⟨⟨h1, h2⟩, h3⟩, h4⟩ := hB
    have hoi : l.toArray[s]? = some o := by simpa using hL 0 o (by simp)
    have hun : listed.getD s true = false := by simpa using h2
    have hall : ∀ e ∈ o.after, Region.binds md e = true → listed.getD e.on false = true := fun e he hb => by
      have := Array.all_eq_true_iff_forall_mem.1 h3 e he
      simpa [hb] using this
    cases hd : o.dst with
    | none => simp only [hd] at h1; cases h1
    | some d =>
      simp only [hd, decide_eq_true_eq] at h1
      have hr : ∀ o' ∈ r, o'.dst ≠ some d := by
        intro o' ho'
        obtain ⟨k, hk⟩ := List.mem_iff_getElem?.1 ho'
        have hk2 := hL (k + 1) o' (by simpa using hk)
        simp only [ssaB, Bool.and_eq_true] at hS
        exact nodupB_spec l hS.1 s (s + (k + 1)) o o' d (by simpa using hL 0 o (by simp)) hk2 (by omega) hd
      obtain ⟨v, hy, hq2⟩ := quiet_consT hR hd (by rw [hn]; exact h1) hr hq
      have H2 := wpAnyTS_piece hR hQ hsel hS r (s + 1) f n (listed.setIfInBounds s true) (a.put o.dst v) w (fun k o' hk => by have := hL (k + 1) o' (by simpa using hk); rw [show s + 1 + k = s + (k + 1) by omega]; exact this)
        (by rw [put_size]; exact hn) h4 hq2 H
      have := wpAnyT_first hR hoi (Region.noSelect_spec hsel) (fun c a w => by rw [hd]; exact hQ c a w d v) (f + r.length) listed a w (ssa_apart hS hoi hall) (mem_ready.2 ⟨hun, o, hoi, hall⟩) hy H2
      simpa [Nat.add_assoc] using this

/-- The piece: operations s to s + n - 1. -/
theorem wpAnyTS_quiet {l : List Oper} {listed : Array Bool} {a : Act} {w : World} {fuel : Nat} (s n m N : Nat) (hf : fuel = m + n) (hl : Nat.ble (s + n) l.length = true)
    (hQ : ∀ c a w d v, Q (.panic c) (Act.put a (some d) v) w → Q (.panic c) a w) (hn : a.tmps.size = N) (hB : pieceB md N s ((l.drop s).take n) listed = true)
    (h : ∃ E, (∀ w1, R w w1 → wpQuiet P l.toArray (fun w' => ∃ u : LaterR T w1, w' = u.world) (· = E) ((l.drop s).take n) a) ∧ wpAnyTS T R P md l Q m (setFrom listed s n) E w) :
    wpAnyTS T R P md l Q fuel listed a w := by
  obtain ⟨E, h1, h2⟩ := h
  intro hR hsel hS
  subst hf
  have hl' := Nat.le_of_ble_eq_true hl
  have hlen : ((l.drop s).take n).length = n := by simp; omega
  have := wpAnyTS_piece hR hQ hsel hS ((l.drop s).take n) s m N listed a w (fun k o hk => by
    rw [List.getElem?_take] at hk
    split at hk
    · rwa [List.getElem?_drop] at hk
    · cases hk) hn hB h1 (by rw [hlen]; exact h2 hR hsel hS)
  rwa [hlen] at this

/-! ### The operations that may come up, whatever they do -/
/-- What is asked behind an operation. -/
def eachT (T R : World → World → Prop) (P : Program) (md : Region.Mode) (l : List Oper) (Q : Exit → Act → World → Prop) (m : Nat) (listed : Array Bool) (a : Act) (w1 : World) : List Nat → Prop
  | [] => True
  | i :: r => wpList P l.toArray (fun e a w => match e with | .normal => (lastB md l i = true ∨ R w1 w) ∧ wpAnyTS T R P md l Q m (listed.setIfInBounds i true) a w | e => Q e a w) ((l.drop i).take 1) a w1 ∧ eachT T R P md l Q m listed a w1 r
theorem eachT_mem {l : List Oper} {m : Nat} {listed : Array Bool} {a : Act} {w1 : World} : ∀ {is : List Nat}, eachT T R P md l Q m listed a w1 is → ∀ i ∈ is,
    wpList P l.toArray (fun e a w => match e with | .normal => (lastB md l i = true ∨ R w1 w) ∧ wpAnyTS T R P md l Q m (listed.setIfInBounds i true) a w | e => Q e a w) ((l.drop i).take 1) a w1
  | [], _, i, hi => absurd hi (by simp)
  | x :: r, h, i, hi => by
    rcases List.mem_cons.1 hi with rfl | hi
    · exact h.1
    · exact eachT_mem h.2 i hi

theorem wpAnyTS_some {l : List Oper} {listed : Array Bool} {a : Act} {w : World} {fuel : Nat} (i0 : Nat) (is : List Nat) (m : Nat) (hf : fuel = m + 1) (hl : (Nat.ble (i0 + 1) l.length && is.all fun i => Nat.ble (i + 1) l.length) = true)
    (hB : someB md (i0 :: is) 0 l listed = true) (h : ∀ w1, T w w1 → eachT T R P md l Q m listed a w1 (i0 :: is)) : wpAnyTS T R P md l Q fuel listed a w := by
  intro hR hsel hS
  subst hf
  intro w1 h1
  simp only [Bool.and_eq_true, List.all_eq_true] at hl
  have hbound : ∀ j ∈ i0 :: is, j < l.length := fun j hj => by
    rcases List.mem_cons.1 hj with rfl | hj
    · exact Nat.le_of_ble_eq_true hl.1
    · exact Nat.le_of_ble_eq_true (hl.2 j hj)
  have key : ∀ j ∈ Region.ready md l.toArray listed, j ∈ i0 :: is := by
    intro j hj
    obtain ⟨hun, o, ho, hall⟩ := mem_ready.1 hj
    have h2 := someB_spec l 0 hB j o (by simpa using ho)
    rw [Nat.zero_add] at h2
    have h3 : readyB md listed j o = true := by
      unfold readyB
      rw [hun]
      simp only [Bool.not_false, Bool.true_and, Array.all_eq_true_iff_forall_mem]
      intro e he
      cases hb : Region.binds md e
      · rfl
      · simp [hall e he hb]
    rw [h3] at h2
    simpa using h2.symm
  have hrdy : i0 ∈ Region.ready md l.toArray listed := by
    have hi := hbound i0 (by simp)
    have h9 := someB_spec l 0 hB i0 l[i0] (by simp [hi])
    rw [Nat.zero_add] at h9
    simp only [List.contains_cons, beq_self_eq_true, Bool.true_or, readyB, Bool.and_eq_true, Bool.not_eq_true', Array.all_eq_true_iff_forall_mem] at h9
    exact mem_ready.2 ⟨h9.1, l[i0], by simp [hi], fun e he hb => by simpa [hb] using h9.2 e he⟩
  refine ⟨fun h0 => (by rw [h0] at hrdy; cases hrdy), fun j hj => ?_⟩
  have hjm := key j hj
  have hi := hbound j hjm
  have h2 := eachT_mem (h w1 h1) j hjm
  have hd : (l.drop j).take 1 = [l[j]] := by rw [List.drop_eq_getElem_cons hi]; rfl
  rw [hd] at h2
  have hoi : l.toArray[j]? = some l[j] := by simp [hi]
  unfold wpOp
  simp only [hoi]
  unfold wpList at h2
  split at h2
  · rename_i hw
    simp only [hw, if_true]
    rcases h2 with h2 | ⟨h3, a3, w3, h4⟩
    · refine .inl (Oper.wp_mono (fun a' w' h5 => ?_) (oper_wp_q (fun c a w h => h) (fun a w h => h) h2))
      have h6 : (lastB md l j = true ∨ R w1 w') ∧ wpAnyTS T R P md l Q m (listed.setIfInBounds j true) a' w' := h5
      exact ⟨h6.1.imp lastB_spec id, h6.2 hR hsel hS⟩
    · exact .inr ⟨h3, a3, w3, h4⟩
  · rename_i hw
    simp only [hw]
    have h6 : (lastB md l j = true ∨ R w1 w1) ∧ wpAnyTS T R P md l Q m (listed.setIfInBounds j true) _ w1 := h2
    exact ⟨h6.1.imp lastB_spec id, h6.2 hR hsel hS⟩

theorem wpAnyTS_done {l : List Oper} {listed : Array Bool} {a : Act} {w : World} (hB : someB md [] 0 l listed = true) (h : ∀ w1, T w w1 → Q .normal a w1) : wpAnyTS T R P md l Q 0 listed a w := by
  intro hR hsel hS
  refine ⟨?_, h⟩
  rcases hr : Region.ready md l.toArray listed with _ | ⟨j, r⟩
  · rfl
  · exfalso
    have hj : j ∈ Region.ready md l.toArray listed := by rw [hr]; simp
    obtain ⟨hun, o, ho, hall⟩ := mem_ready.1 hj
    have h2 := someB_spec l 0 hB j o (by simpa using ho)
    rw [Nat.zero_add] at h2
    have h3 : readyB md listed j o = true := by
      unfold readyB
      rw [hun]
      simp only [Bool.not_false, Bool.true_and, Array.all_eq_true_iff_forall_mem]
      intro e he
      cases hb : Region.binds md e
      · rfl
      · simp [hall e he hb]
    rw [h3] at h2
    simp at h2

theorem wp_region_two (T R : World → World → Prop) (hR : TRok T R) {id : Nat} {a : Act} {w : World} {l : List Oper} (hm : P.follows .mixedOrders = true) (hsel : Region.noSelect l.toArray = true) (hS : ssaB .any l = true)
    (h : wpAnyTS T R P .any l Q l.length (Array.replicate l.length false) a w.drew) : (Code.region id l.toArray true).wp P Q a w := by
  refine wp_region_any hm ?_
  simpa using wpAny_of_T hR _ _ _ _ (h hR hsel hS)
end


theorem eq_ok {R : World → World → Prop} (hR : ROk R) : TRok Eq R := ⟨⟨fun _ => rfl, Eq.trans⟩, hR, fun h => by subst h; exact hR.refl _⟩
/-- What reads as before at one address. -/
def SameAt (p : Addr) (w w' : World) : Prop := w'.cell? p = w.cell? p
theorem sameAt_ok (p : Addr) : TRok Eq (SameAt p) := eq_ok ⟨fun _ => rfl, fun h k => Eq.trans k h⟩
theorem laterEq_ne (w : World) : Nonempty (LaterR Eq w) := ⟨⟨w, rfl⟩⟩
theorem LaterEq.at {p : Addr} {w w1 : World} {v : Value} (h : w.cell? p = some v) (h1 : SameAt p w w1) : ∀ u : LaterR Eq w1, u.world.cell? p = some v := fun u => by obtain ⟨_, rfl⟩ := u; exact Eq.trans h1 h
end Bw
