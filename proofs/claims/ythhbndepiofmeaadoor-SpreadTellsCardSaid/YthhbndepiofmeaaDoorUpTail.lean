/- Regions that draw their order, the last operations of which write: all others come ahead of these (as in the text on regions), the tail comes in one order. No program in sight. -/
import Derived.Test.YthhbndepiofmeaaDoorUpRegion
import Derived.StillTail
namespace Bw
open Go Go.RowKit
section
variable {P : Program} {ops : Array Oper} {md : Region.Mode} {Q : Exit → Act → World → Prop}

/-- Whatever order the operations ahead of number n are taken in, and from whatever later world; T: what holds at the tail. -/
def wpHeadU (P : Program) (md : Region.Mode) (ops : Array Oper) (Q : Exit → Act → World → Prop) (n : Nat) (T : Array Bool → Act → World → Prop) : Nat → Array Bool → Act → World → Prop
  | 0, listed, a, w => ∀ w1, Up w w1 → T listed a w1
  | f + 1, listed, a, w => ∀ w1, Up w w1 → Region.ready md ops listed ≠ [] ∧
      ∀ i ∈ Region.ready md ops listed, i < n ∧ wpOp P ops Q i (fun a' w' => Up w1 w' ∧ wpHeadU P md ops Q n T f (listed.setIfInBounds i true) a' w') a w1

variable {n : Nat} {T : Array Bool → Act → World → Prop}

theorem wpHeadU.up : ∀ {f : Nat} {listed : Array Bool} {a : Act} {w w2 : World}, Up w w2 → wpHeadU P md ops Q n T f listed a w → wpHeadU P md ops Q n T f listed a w2
  | 0, _, _, _, _, hu, h => fun w1 h1 => h w1 (hu.trans h1)
  | _ + 1, _, _, _, _, hu, h => fun w1 h1 => h w1 (hu.trans h1)

theorem wpAny_of_headU {g : Nat} (hT : ∀ listed a w, T listed a w → wpAny P md ops Q g listed a w) : ∀ (f : Nat) (listed : Array Bool) (a : Act) (w : World), wpHeadU P md ops Q n T f listed a w → wpAny P md ops Q (f + g) listed a w
  | 0, _, _, w, h => by rw [Nat.zero_add]; exact hT _ _ _ (h w (Up.refl w))
  | f + 1, _, _, w, h => by
    rw [show f + 1 + g = (f + g) + 1 by omega]
    exact ⟨fun h0 => absurd h0 (h w (Up.refl w)).1, fun i hi => wpOp_mono (fun a' w' h' => wpAny_of_headU hT f _ a' w' h'.2) ((h w (Up.refl w)).2 i hi).2⟩

theorem wpHeadU_first {i : Nat} {oi : Oper} {v : Value} (hi : ops[i]? = some oi) (hsel : ∀ (j : Nat) (o : Oper) cs b, ops[j]? = some o → o.op ≠ .select cs b)
    (hs : Region.sinkB md ops n = true) (hc : Region.chainB md ops n = true) (hn : n < ops.size) (hin : i < n)
    (hdone : ∀ listed a w, T listed a w → ∀ j ∈ Region.ready md ops listed, n ≤ j)
    (hQ : ∀ c a w, Q (.panic c) (a.put oi.dst v) w → Q (.panic c) a w) :
    ∀ (f : Nat) (listed : Array Bool) (a : Act) (w : World), HeadInv md ops n listed →
      (∀ j oj, ops[j]? = some oj → j ≠ i → listed.getD j true = false → (∀ e ∈ oj.after, Region.binds md e = true → e.on ≠ i) → oi.apart ops oj = true) →
      i ∈ Region.ready md ops listed → SY P ops w oi v a →
      wpHeadU P md ops Q n T f (listed.setIfInBounds i true) (a.put oi.dst v) w → wpHeadU P md ops Q n T (f + 1) listed a w := by
  intro f
  induction f with
  | zero =>
    intro listed a w inv _ hr hy H w1 h1
    have hun := (mem_ready.1 hr).1
    refine ⟨fun h => (by rw [h] at hr; cases hr), fun j hj => ?_⟩
    have hjn : j < n := by
      rcases Nat.lt_or_ge j n with h | h
      · exact h
      · exact absurd hj (tail_waits hs hc hn inv _ i rfl hin hun j h)
    refine ⟨hjn, ?_⟩
    by_cases hji : j = i
    · subst hji
      refine wpOp_of_qOp (C := CU w1) (K := fun a' => a' = a.put oi.dst v) (CU.self w1) ?_ ((hy w1 h1).qOp hi rfl)
      rintro a' w' ⟨u, rfl⟩ rfl
      exact ⟨u.up, H.up (h1.trans u.up)⟩
    · have := hdone _ _ _ (H w1 h1) j (ready_mono hj hji)
      omega
  | succ f ih =>
    intro listed a w inv hfree hr hy H w1 h1
    have hun := (mem_ready.1 hr).1
    refine ⟨fun h => (by rw [h] at hr; cases hr), fun j hj => ?_⟩
    have hjn : j < n := by
      rcases Nat.lt_or_ge j n with h | h
      · exact h
      · exact absurd hj (tail_waits hs hc hn inv _ i rfl hin hun j h)
    refine ⟨hjn, ?_⟩
    by_cases hji : j = i
    · subst hji
      refine wpOp_of_qOp (C := CU w1) (K := fun a' => a' = a.put oi.dst v) (CU.self w1) ?_ ((hy w1 h1).qOp hi rfl)
      rintro a' w' ⟨u, rfl⟩ rfl
      exact ⟨u.up, H.up (h1.trans u.up)⟩
    · have h2 := ((H w1 h1).2 j (ready_mono hj hji)).2
      obtain ⟨hjun, oj, hoj, hall⟩ := mem_ready.1 hj
      have hnot : ∀ e ∈ oj.after, Region.binds md e = true → e.on ≠ i := fun e he hb heq => by
        have h3 := hall e he hb
        rw [heq, getD_both hun] at h3
        cases h3
      have hap := hfree j oj hoj hji hjun hnot
      obtain ⟨_, _, h3⟩ := Oper.apart_spec hap
      have hsi := fun cs b => hsel i oi cs b hi
      have hsj := fun cs b => hsel j oj cs b hoj
      have hw : YieldsIf P ops (fun _ => False) oi v a := by
        rcases hy w1 h1 with ⟨h4, _⟩ | ⟨h4, h5⟩
        · exact .inl ⟨h4, fun _ h => h.elim⟩
        · exact .inr ⟨h4, h5⟩
      have h5 := wpOp_shape hoj (wpOp_putIf hoj hap hsi hsj hQ hw h2)
      refine wpOp_mono (fun a' w' h6 => ?_) h5
      obtain ⟨⟨_, h7, h8⟩, u, d, rfl⟩ := h6
      refine ⟨h7, ?_⟩
      have hy' : SY P ops w' oi v (Act.put { a with defers := d } oj.dst u) := by
        have hd : SY P ops w oi v { a with defers := d } := fun w3 h9 => (hy w3 h9).of_same rfl rfl
        exact fun w3 h9 => ((hd w3 ((h1.trans h7).trans h9)).of_same (execOp_put oi hsi _ oj.dst u h3) (wanted_put oi _ oj.dst u h3))
      have hfree' : ∀ k ok, ops[k]? = some ok → k ≠ i → (listed.setIfInBounds j true).getD k true = false →
          (∀ e ∈ ok.after, Region.binds md e = true → e.on ≠ i) → oi.apart ops ok = true := fun k ok hk hki hun hno => by
        refine hfree k ok hk hki ?_ hno
        by_cases hjk : j = k
        · subst hjk; exact hjun
        · rw [getD_set_ne true hjk] at hun; exact hun
      refine ih (listed.setIfInBounds j true) _ w' (inv.set hj hjn) hfree' (ready_mono hr (Ne.symm hji)) hy' ?_
      rw [Array.setIfInBounds_comm _ _ hji]
      exact h8

/-- The tail: in one order. -/
def tailT (P : Program) (l : List Oper) (Q : Exit → Act → World → Prop) (n : Nat) (listed : Array Bool) (a : Act) (w : World) : Prop :=
  Region.seqB .any l.toArray (l.length - n) n listed = true ∧ wpList P l.toArray Q (l.drop n) a w

structure TailOk (l : List Oper) (n : Nat) : Prop where
  sel : Region.noSelect l.toArray = true
  ssa : ssaB .any l = true
  lt : n < l.toArray.size
  sink : Region.sinkB .any l.toArray n = true
  chain : Region.chainB .any l.toArray n = true

def wpHeadS (P : Program) (l : List Oper) (Q : Exit → Act → World → Prop) (n f : Nat) (listed : Array Bool) (a : Act) (w : World) : Prop :=
  TailOk l n → HeadInv .any l.toArray n listed → wpHeadU P .any l.toArray Q n (tailT P l Q n) f listed a w

theorem tailT_done {l : List Oper} {n : Nat} (listed : Array Bool) (a : Act) (w : World) (h : tailT P l Q n listed a w) : ∀ j ∈ Region.ready .any l.toArray listed, n ≤ j := seqB_ready h.1

theorem wpHeadS_piece {l : List Oper} {n : Nat} (hQ : ∀ c a w d v, Q (.panic c) (Act.put a (some d) v) w → Q (.panic c) a w) (hO : TailOk l n) {E : Act} :
    ∀ (L : List Oper) (s f N : Nat) (listed : Array Bool) (a : Act) (w : World), (∀ k o, L[k]? = some o → l[s + k]? = some o) → s + L.length ≤ n → a.tmps.size = N → pieceB .any N s L listed = true →
      HeadInv .any l.toArray n listed →
      (∀ w1, Up w w1 → wpQuiet P l.toArray (CU w1) (· = E) L a) → (HeadInv .any l.toArray n (setFrom listed s L.length) → wpHeadU P .any l.toArray Q n (tailT P l Q n) f (setFrom listed s L.length) E w) →
      wpHeadU P .any l.toArray Q n (tailT P l Q n) (f + L.length) listed a w
  | [], s, f, N, listed, a, w, _, _, _, _, inv, hq, H => by
    have : a = E := hq w (Up.refl w)
    subst this
    exact H inv
  | o :: r, s, f, N, listed, a, w, hL, hsn, hn, hB, inv, hq, H => by
    simp only [pieceB, Bool.and_eq_true] at hB
    obtain ⟨⟨⟨h1, h2⟩, h3⟩, h4⟩ := hB
    have hoi : l.toArray[s]? = some o := by simpa using hL 0 o (by simp)
    have hun : listed.getD s true = false := by simpa using h2
    have hall : ∀ e ∈ o.after, Region.binds .any e = true → listed.getD e.on false = true := fun e he hb => by
      have := Array.all_eq_true_iff_forall_mem.1 h3 e he
      simpa [hb] using this
    have hsn' : s < n := by simp at hsn; omega
    cases hd : o.dst with
    | none => simp only [hd] at h1; cases h1
    | some d =>
      simp only [hd, decide_eq_true_eq] at h1
      have hr : ∀ o' ∈ r, o'.dst ≠ some d := by
        intro o' ho'
        obtain ⟨k, hk⟩ := List.mem_iff_getElem?.1 ho'
        have hk2 := hL (k + 1) o' (by simpa using hk)
        have hS := hO.ssa
        simp only [ssaB, Bool.and_eq_true] at hS
        exact nodupB_spec l hS.1 s (s + (k + 1)) o o' d (by simpa using hL 0 o (by simp)) hk2 (by omega) hd
      obtain ⟨v, hy, hq2⟩ := quiet_cons hd (by rw [hn]; exact h1) hr hq
      have hrdy : s ∈ Region.ready .any l.toArray listed := mem_ready.2 ⟨hun, o, hoi, hall⟩
      have H2 := wpHeadS_piece hQ hO r (s + 1) f N (listed.setIfInBounds s true) (a.put o.dst v) w (fun k o' hk => by have := hL (k + 1) o' (by simpa using hk); rw [show s + 1 + k = s + (k + 1) by omega]; exact this)
        (by simp at hsn; omega) (by rw [put_size]; exact hn) h4 (inv.set hrdy hsn') hq2 H
      have := wpHeadU_first hoi (Region.noSelect_spec hO.sel) hO.sink hO.chain hO.lt hsn' (fun listed a w => tailT_done listed a w) (fun c a w => by rw [hd]; exact hQ c a w d v) (f + r.length) listed a w inv (ssa_apart hO.ssa hoi hall) hrdy hy H2
      simpa [Nat.add_assoc] using this

/-- A quiet piece: operations s to s + k - 1. -/
theorem wpHeadS_quiet {l : List Oper} {n : Nat} {listed : Array Bool} {a : Act} {w : World} {fuel : Nat} (s k m N : Nat) (hf : fuel = m + k) (hl : (Nat.ble (s + k) n && Nat.ble (s + k) l.length) = true)
    (hQ : ∀ c a w d v, Q (.panic c) (Act.put a (some d) v) w → Q (.panic c) a w) (hn : a.tmps.size = N) (hB : pieceB .any N s ((l.drop s).take k) listed = true)
    (h : ∃ E, (∀ w1, Up w w1 → wpQuiet P l.toArray (fun w' => ∃ u : Later w1, w' = u.world) (· = E) ((l.drop s).take k) a) ∧ wpHeadS P l Q n m (setFrom listed s k) E w) :
    wpHeadS P l Q n fuel listed a w := by
  obtain ⟨E, h1, h2⟩ := h
  intro hO inv
  subst hf
  simp only [Bool.and_eq_true] at hl
  have hl1 := Nat.le_of_ble_eq_true hl.1
  have hl2 := Nat.le_of_ble_eq_true hl.2
  have hlen : ((l.drop s).take k).length = k := by simp; omega
  have := wpHeadS_piece hQ hO ((l.drop s).take k) s m N listed a w (fun j o hk => by
    rw [List.getElem?_take] at hk
    split at hk
    · rwa [List.getElem?_drop] at hk
    · cases hk) (by rw [hlen]; exact hl1) hn hB inv h1 (by rw [hlen]; exact h2 hO)
  rwa [hlen] at this

theorem wpHeadS_one {l : List Oper} {n : Nat} {listed : Array Bool} {a : Act} {w : World} {fuel : Nat} (i m : Nat) (hf : fuel = m + 1) (hl : (Nat.ble (i + 1) n && Nat.ble (i + 1) l.length) = true) (hB : onlyB .any i 0 l listed = true)
    (h : ∀ w1, Up w w1 → wpList P l.toArray (fun e a w => match e with | .normal => Up w1 w ∧ wpHeadS P l Q n m (listed.setIfInBounds i true) a w | e => Q e a w) ((l.drop i).take 1) a w1) : wpHeadS P l Q n fuel listed a w := by
  intro hO inv
  subst hf
  intro w1 h1
  simp only [Bool.and_eq_true] at hl
  have hin : i < n := Nat.le_of_ble_eq_true hl.1
  have key : ∀ j ∈ Region.ready .any l.toArray listed, j = i := by
    intro j hj
    obtain ⟨hun, o, ho, hall⟩ := mem_ready.1 hj
    have h2 := onlyB_spec l 0 hB j o (by simpa using ho)
    rw [Nat.zero_add] at h2
    have h3 : (!listed.getD j true && o.after.all (fun e => !Region.binds .any e || listed.getD e.on false)) = true := by
      rw [hun]
      simp only [Bool.not_false, Bool.true_and, Array.all_eq_true_iff_forall_mem]
      intro e he
      cases hb : Region.binds .any e
      · rfl
      · simp [hall e he hb]
    rw [h3] at h2
    simpa using h2.symm
  have h2 := h w1 h1
  have hi : i < l.length := Nat.le_of_ble_eq_true hl.2
  have hd : (l.drop i).take 1 = [l[i]] := by rw [List.drop_eq_getElem_cons hi]; rfl
  rw [hd] at h2
  have hoi : l.toArray[i]? = some l[i] := by simp [hi]
  have h9 := onlyB_spec l 0 hB i l[i] (by simp [hi])
  rw [Nat.zero_add] at h9
  simp only [beq_self_eq_true, Bool.and_eq_true, Bool.not_eq_true', Array.all_eq_true_iff_forall_mem] at h9
  have hrdy : i ∈ Region.ready .any l.toArray listed := mem_ready.2 ⟨h9.1, l[i], hoi, fun e he hb => by simpa [hb] using h9.2 e he⟩
  refine ⟨fun h0 => (by rw [h0] at hrdy; cases hrdy), fun j hj => ?_⟩
  obtain rfl := key j hj
  refine ⟨hin, ?_⟩
  have inv2 := inv.set hrdy hin
  unfold wpOp
  simp only [hoi]
  unfold wpList at h2
  split at h2
  · rename_i hw
    simp only [hw, if_true]
    rcases h2 with h2 | ⟨h3, a3, w3, h4⟩
    · refine .inl (Oper.wp_mono (fun a' w' h5 => ?_) (oper_wp_q (fun c a w h => h) (fun a w h => h) h2))
      have h6 : Up w1 w' ∧ wpHeadS P l Q n m (listed.setIfInBounds j true) a' w' := h5
      exact ⟨h6.1, h6.2 hO inv2⟩
    · exact .inr ⟨h3, a3, w3, h4⟩
  · rename_i hw
    simp only [hw]
    have h6 : Up w1 w1 ∧ wpHeadS P l Q n m (listed.setIfInBounds j true) _ w1 := h2
    exact ⟨h6.1, h6.2 hO inv2⟩

theorem wpHeadS_tail {l : List Oper} {n : Nat} {listed : Array Bool} {a : Act} {w : World} {fuel : Nat} (hf : fuel = 0) (hB : Region.seqB .any l.toArray (l.length - n) n listed = true) (h : ∀ w1, Up w w1 → wpList P l.toArray Q (l.drop n) a w1) :
    wpHeadS P l Q n fuel listed a w := by
  subst hf
  exact fun _ _ w1 h1 => ⟨hB, h w1 h1⟩

theorem wp_region_tail {id : Nat} {a : Act} {w : World} {l : List Oper} (n : Nat) (hm : P.follows .mixedOrders = true) (hsel : Region.noSelect l.toArray = true) (hS : ssaB .any l = true)
    (ht : (Nat.ble (n + 1) l.length && Region.sinkB .any l.toArray n && Region.chainB .any l.toArray n) = true)
    (h : wpHeadS P l Q n n (Array.replicate l.length false) a w) : (Code.region id l.toArray true).wp P Q a w := by
  simp only [Bool.and_eq_true] at ht
  have hlt := Nat.le_of_ble_eq_true ht.1.1
  have hO : TailOk l n := ⟨hsel, hS, by simp; omega, ht.1.2, ht.2⟩
  have inv0 : HeadInv .any l.toArray n (Array.replicate l.length false) :=
    ⟨by simp, fun j oj _ hl => (by rw [getD_replicate_false] at hl; cases hl), fun t _ ht => getD_in (by simpa using ht) (getD_replicate_false _ _)⟩
  refine wp_region_any hm ?_
  have h2 := wpAny_of_headU (g := l.length - n) (fun listed a' w' hT => ?_) _ _ _ _ (wpHeadU.up (Up.refl w).drew (h hO inv0))
  · rw [show n + (l.length - n) = l.length by omega] at h2
    simpa using h2
  · have := wpAny_of_seq (md := .any) (Q' := Q) (l.drop n) n listed a' w' (fun j => by simp [List.getElem?_drop]) (by rw [List.length_drop]; exact hT.1) hT.2
    rwa [List.length_drop] at this
end
end Bw
