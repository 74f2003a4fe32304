/- Whole records at the beginning of bytes: laws of the plain function. No program in sight. -/
import Derived.Test.YtokpkkjgagbpfaaWlPure
import Derived.Test.YtokpkkjgagbpfaaWlThm1
namespace Bw
set_option linter.unusedVariables false
def recN (s : ByteArray) : Nat := (getV s 0 3).toNat
theorem wholeN_fuel : ∀ (f g : Nat) (s : ByteArray), s.size ≤ f → s.size ≤ g → wholeN f s = wholeN g s
  | 0, 0, s, _, _ => rfl
  | 0, g + 1, s, h, _ => by
    unfold wholeN
    rw [if_neg (by omega)]
  | f + 1, 0, s, _, h => by
    unfold wholeN
    rw [if_neg (by omega)]
  | f + 1, g + 1, s, hf, hg => by
    unfold wholeN
    by_cases h3 : 3 ≤ s.size
    · rw [if_pos h3, if_pos h3]
      by_cases he : s.size < 3 + (getV s 0 3).toNat
      · rw [if_pos he, if_pos he]
      · have hz : (s.extract (3 + (getV s 0 3).toNat) s.size).size = s.size - (3 + (getV s 0 3).toNat) := by rw [ByteArray.size_extract]; omega
        rw [if_neg he, if_neg he, wholeN_fuel f g _ (by rw [hz]; omega) (by rw [hz]; omega)]
    · rw [if_neg h3, if_neg h3]
/-- What is no whole record. -/
theorem whole_stop {s : ByteArray} (h : ¬ (3 ≤ s.size ∧ 3 + recN s ≤ s.size)) : wholeW s = ([], s) := by
  unfold wholeW
  generalize hf : s.size = f
  cases f with
  | zero => rfl
  | succ f =>
    unfold wholeN
    unfold recN at h
    by_cases h3 : 3 ≤ s.size
    · rw [if_pos h3, if_pos (by omega)]
    · rw [if_neg h3]
/-- A whole record, and what is behind it. -/
theorem whole_more {s : ByteArray} (h3 : 3 ≤ s.size) (he : 3 + recN s ≤ s.size) : wholeW s = (s.extract 3 (3 + recN s) :: (wholeW (s.extract (3 + recN s) s.size)).1, (wholeW (s.extract (3 + recN s) s.size)).2) := by
  have hz : (s.extract (3 + recN s) s.size).size = s.size - (3 + recN s) := by rw [ByteArray.size_extract]; omega
  unfold recN at *
  have hw : wholeW s = wholeN (s.size - 1 + 1) s := by
    unfold wholeW
    congr 1
    omega
  rw [hw]
  show (if 3 ≤ s.size then _ else _) = _
  rw [if_pos h3, if_neg (by omega)]
  have e := wholeN_fuel (s.size - 1) (s.extract (3 + (getV s 0 3).toNat) s.size).size (s.extract (3 + (getV s 0 3).toNat) s.size) (by rw [hz]; omega) (Nat.le_refl _)
  rw [e]
  rfl
theorem whole_left : ∀ (n : Nat) (s : ByteArray), s.size ≤ n → (wholeW s).2.size + 3 * (wholeW s).1.length ≤ s.size
  | n, s, hn => by
    by_cases h : 3 ≤ s.size ∧ 3 + recN s ≤ s.size
    · rw [whole_more h.1 h.2]
      have hz : (s.extract (3 + recN s) s.size).size = s.size - (3 + recN s) := by rw [ByteArray.size_extract]; omega
      cases n with
      | zero => omega
      | succ n =>
        have ih := whole_left n (s.extract (3 + recN s) s.size) (by omega)
        simp only [List.length_cons]
        omega
    · rw [whole_stop h]; simp
end Bw
namespace Bw
set_option linter.unusedVariables false
/-- The state behind so many pages. -/
def stN (rd : Nat → Option LeafW) : Nat → ScanW
  | 0 => scan0
  | i + 1 => match rd i with
    | some l => scanStep i l (stN rd i)
    | none => stN rd i
/-- It goes on through page i. -/
def Goes (rd : Nat → Option LeafW) (i : Nat) : Prop := ∃ l, rd i = some l ∧ scanStop l (stN rd i) = false
def GoTo (rd : Nat → Option LeafW) (n : Nat) : Prop := ∀ i, i < n → Goes rd i
variable {rd rd' : Nat → Option LeafW} {i j k n H : Nat}
theorem stN_some {l : LeafW} (h : rd i = some l) : stN rd (i + 1) = scanStep i l (stN rd i) := by
  show (match rd i with | some l => scanStep i l (stN rd i) | none => stN rd i) = _
  rw [h]
theorem scanN_from (rd : Nat → Option LeafW) (H j : Nat) (hj : j ≤ H) (hs : j = H ∨ ¬ Goes rd j) : ∀ (m i : Nat), i + m = j → (∀ k, i ≤ k → k < j → Goes rd k) → scanN rd (H - i) i (stN rd i) = stN rd j
  | 0, i, hm, _ => by
    have : i = j := by omega
    subst this
    rcases hs with hs | hs
    · have : H - i = 0 := by omega
      rw [this]; rfl
    · cases e : H - i with
      | zero => rfl
      | succ f =>
        show (match rd i with | none => stN rd i | some l => if scanStop l (stN rd i) then stN rd i else scanN rd f (i + 1) (scanStep i l (stN rd i))) = stN rd i
        cases e2 : rd i with
        | none => rfl
        | some l =>
          show (if scanStop l (stN rd i) = true then stN rd i else _) = _
          cases e3 : scanStop l (stN rd i) with
          | true => rfl
          | false => exact absurd ⟨l, e2, e3⟩ hs
  | m + 1, i, hm, hg => by
    obtain ⟨l, h1, h2⟩ := hg i (Nat.le_refl _) (by omega)
    have e : H - i = (H - (i + 1)) + 1 := by omega
    rw [e]
    show (match rd i with | none => stN rd i | some l => if scanStop l (stN rd i) then stN rd i else scanN rd (H - (i + 1)) (i + 1) (scanStep i l (stN rd i))) = _
    rw [h1]
    show (if scanStop l (stN rd i) = true then stN rd i else _) = _
    rw [h2, if_neg (by decide), ← stN_some h1]
    exact scanN_from rd H j hj hs m (i + 1) (by omega) fun k h3 h4 => hg k (by omega) h4
theorem scan_is (hj : j ≤ H) (hg : GoTo rd j) (hs : j = H ∨ ¬ Goes rd j) : scanN rd H 0 scan0 = stN rd j :=
  scanN_from rd H j hj hs j 0 (by omega) fun k _ h => hg k h
theorem scan_ex (rd : Nat → Option LeafW) : ∀ H, ∃ j, j ≤ H ∧ GoTo rd j ∧ (j = H ∨ ¬ Goes rd j)
  | 0 => ⟨0, Nat.le_refl _, fun i h => absurd h (by omega), .inl rfl⟩
  | H + 1 => by
    obtain ⟨j, h1, h2, h3⟩ := scan_ex rd H
    by_cases hg : Goes rd j
    · rcases h3 with h3 | h3
      · refine ⟨j + 1, by omega, fun i hi => ?_, .inl (by omega)⟩
        by_cases e : i = j
        · exact e ▸ hg
        · exact h2 i (by omega)
      · exact absurd hg h3
    · exact ⟨j, by omega, h2, .inr hg⟩
theorem stN_congr (h : ∀ k, k < i → rd k = rd' k) : stN rd i = stN rd' i := by
  induction i with
  | zero => rfl
  | succ i ih =>
    have e := ih fun k hk => h k (by omega)
    have e2 := h i (by omega)
    show (match rd i with | some l => scanStep i l (stN rd i) | none => stN rd i) = (match rd' i with | some l => scanStep i l (stN rd' i) | none => stN rd' i)
    rw [e2, e]
theorem goes_congr (h : ∀ k, k ≤ i → rd k = rd' k) : Goes rd i ↔ Goes rd' i := by
  unfold Goes
  rw [h i (Nat.le_refl _), stN_congr fun k hk => h k (by omega)]
theorem goTo_congr (h : ∀ k, k < n → rd k = rd' k) (hg : GoTo rd n) : GoTo rd' n := fun i hi => (goes_congr fun k hk => h k (by omega)).1 (hg i hi)
theorem GoTo.le (h : GoTo rd n) (hk : k ≤ n) : GoTo rd k := fun i hi => h i (by omega)
theorem st_pages (h : GoTo rd n) : (stN rd n).pages = n := by
  cases n with
  | zero => rfl
  | succ n => obtain ⟨l, h1, -⟩ := h n (by omega); rw [stN_some h1]; rfl
theorem st_last (h : GoTo rd (n + 1)) {l : LeafW} (hl : rd n = some l) : (stN rd (n + 1)).last = l.age := by rw [stN_some hl]; rfl
theorem st_age (h : GoTo rd n) (hk : 1 ≤ k) (hkn : k ≤ n) : (stN rd n).age = (stN rd k).age := by
  induction n with
  | zero => omega
  | succ n ih =>
    by_cases e : k = n + 1
    · rw [e]
    · obtain ⟨l, h1, -⟩ := h n (by omega)
      rw [stN_some h1, ← ih (h.le (by omega)) (by omega)]
      show (if n = 0 then l.age else (stN rd n).age) = _
      rw [if_neg (by omega)]
theorem st_age1 {l : LeafW} (h : GoTo rd n) (hn : 1 ≤ n) (hl : rd 0 = some l) : (stN rd n).age = l.age := by
  rw [st_age h (Nat.le_refl 1) hn, stN_some hl]; rfl
theorem st_recs (h : GoTo rd n) (hk : k ≤ n) : ∃ x, (stN rd n).recs = (stN rd k).recs ++ x := by
  induction n with
  | zero =>
    have e : k = 0 := by omega
    subst e
    exact ⟨[], by simp⟩
  | succ n ih =>
    by_cases e : k = n + 1
    · exact ⟨[], by rw [e]; simp⟩
    · obtain ⟨x, hx⟩ := ih (h.le (by omega)) (by omega)
      obtain ⟨l, h1, -⟩ := h n (by omega)
      rw [stN_some h1]
      refine ⟨x ++ (wholeW ((if (stN rd n).last < l.age then ByteArray.empty else (stN rd n).left) ++ l.bytes)).1, ?_⟩
      show (stN rd n).recs ++ _ = _
      rw [hx, List.append_assoc]
theorem st_zero (h : GoTo rd 0) : (stN rd 0).recs = [] := rfl

/- Whole records of bytes one behind the other. -/
theorem recN_append {a b : ByteArray} (h : 3 ≤ a.size) : recN (a ++ b) = recN a := by
  have e1 := getV_eq (s := a ++ b) (i := 0) (k := 3) (by omega) (by omega) (by rw [ByteArray.size_append]; omega)
  have e2 := getV_eq (s := a) (i := 0) (k := 3) (by omega) (by omega) (by omega)
  have e3 : ((lst (a ++ b)).drop 0).take 3 = ((lst a).drop 0).take 3 := by
    rw [List.drop_zero, List.drop_zero, lst_append, List.take_append_of_le_length (by rw [lst_length]; omega)]
  unfold recN
  show (getV (a ++ b) ((0 : Nat) : Int) ((3 : Nat) : Int)).toNat = (getV a ((0 : Nat) : Int) ((3 : Nat) : Int)).toNat
  rw [e1, e2, e3]
theorem extract_left (a b : ByteArray) (x y : Nat) (h : y ≤ a.size) : (a ++ b).extract x y = a.extract x y := by
  apply lst_inj
  rw [extract_lst, extract_lst, lst_append]
  by_cases hx : x ≤ y
  · rw [List.drop_append_of_le_length (by rw [lst_length]; omega), List.take_append_of_le_length (by rw [List.length_drop, lst_length]; omega)]
  · rw [show y - x = 0 by omega]; rfl
theorem extract_right (a b : ByteArray) (x : Nat) (h : x ≤ a.size) : (a ++ b).extract x (a ++ b).size = a.extract x a.size ++ b := by
  apply lst_inj
  rw [extract_lst, lst_append, lst_append, extract_lst, ByteArray.size_append]
  rw [List.drop_append_of_le_length (by rw [lst_length]; omega), List.take_of_length_le (by rw [List.length_append, List.length_drop, lst_length, lst_length]; omega), List.take_of_length_le (by rw [List.length_drop, lst_length]; omega)]
theorem whole_append : ∀ (n : Nat) (a b : ByteArray), a.size ≤ n → wholeW (a ++ b) = ((wholeW a).1 ++ (wholeW ((wholeW a).2 ++ b)).1, (wholeW ((wholeW a).2 ++ b)).2)
  | n, a, b, hn => by
    by_cases h : 3 ≤ a.size ∧ 3 + recN a ≤ a.size
    · cases n with
      | zero => omega
      | succ n =>
        have hr := recN_append (b := b) h.1
        have hz : (a ++ b).size = a.size + b.size := ByteArray.size_append
        have e1 := whole_more (s := a ++ b) (by omega) (by omega)
        rw [hr, extract_left a b _ _ h.2, extract_right a b _ h.2] at e1
        have hz2 : (a.extract (3 + recN a) a.size).size = a.size - (3 + recN a) := by rw [ByteArray.size_extract]; omega
        rw [whole_append n (a.extract (3 + recN a) a.size) b (by omega)] at e1
        rw [e1, whole_more h.1 h.2, List.cons_append]
    · rw [whole_stop h, List.nil_append]
theorem whole_empty : wholeW ByteArray.empty = ([], ByteArray.empty) := whole_stop (by simp)
theorem str_nil : str [] = ByteArray.empty := rfl
theorem frame_cons (x : ByteArray) (rs : List ByteArray) : frameL (x :: rs) = toLE x.size 3 ++ lst x ++ frameL rs := rfl
theorem frame_rec {x : ByteArray} {rs : List ByteArray} (hx : x.size ≤ 100000) : recN (frameW (x :: rs)) = x.size ∧ 3 + x.size ≤ (frameW (x :: rs)).size := by
  have hl : (frameL (x :: rs)).length = 3 + x.size + (frameL rs).length := by rw [frame_cons, List.length_append, List.length_append, toLE_length, lst_length]
  have hz : (frameW (x :: rs)).size = 3 + x.size + (frameL rs).length := by rw [frameW, size_str, hl]
  have e := getV_eq (s := frameW (x :: rs)) (i := 0) (k := 3) (by omega) (by omega) (by omega)
  have e3 : ((lst (frameW (x :: rs))).drop 0).take 3 = toLE x.size 3 := by
    rw [frameW, lst_str, frame_cons, List.drop_zero, List.append_assoc]; exact take_app (toLE_length _ _)
  rw [e3, le_toLE, Nat.mod_eq_of_lt (by omega)] at e
  refine ⟨?_, by omega⟩
  unfold recN
  show (getV _ ((0 : Nat) : Int) ((3 : Nat) : Int)).toNat = _
  rw [e]; rfl
theorem whole_frame : ∀ (rs : List ByteArray), (∀ x ∈ rs, x.size ≤ 100000) → wholeW (frameW rs) = (rs, ByteArray.empty)
  | [], _ => whole_empty
  | x :: rs, h => by
    obtain ⟨h1, h2⟩ := frame_rec (rs := rs) (h x List.mem_cons_self)
    rw [whole_more (by omega) (by omega), h1]
    have hl : lst (frameW (x :: rs)) = toLE x.size 3 ++ (lst x ++ frameL rs) := by rw [frameW, lst_str, frame_cons, List.append_assoc]
    have e1 : (frameW (x :: rs)).extract 3 (3 + x.size) = x := by
      apply lst_inj
      rw [extract_lst, hl, drop_app 0 (toLE_length _ _)]
      exact take_app (by rw [lst_length]; omega)
    have e2 : (frameW (x :: rs)).extract (3 + x.size) (frameW (x :: rs)).size = frameW rs := by
      apply lst_inj
      rw [extract_lst, List.take_of_length_le (by rw [List.length_drop, lst_length]; omega), hl, drop_app x.size (toLE_length _ _), ← Nat.add_zero x.size, drop_app 0 (lst_length x), frameW, lst_str]
      rfl
    rw [e1, e2, whole_frame rs fun y hy => h y (List.mem_cons_of_mem _ hy)]
theorem whole_part {x : ByteArray} (hx : x.size ≤ 100000) {m : Nat} (hm : m < (frameW [x]).size) : (wholeW ((frameW [x]).extract 0 m)).1 = [] := by
  obtain ⟨h1, h2⟩ := frame_rec (rs := []) hx
  have hz : (frameW [x]).size = 3 + x.size := by
    rw [frameW, size_str, frame_cons, List.length_append, List.length_append, toLE_length, lst_length]; rfl
  have hz2 : ((frameW [x]).extract 0 m).size = m := by rw [ByteArray.size_extract]; omega
  rw [whole_stop]
  rintro ⟨h3, h4⟩
  have e : (frameW [x]) = (frameW [x]).extract 0 m ++ (frameW [x]).extract m (frameW [x]).size := by
    apply lst_inj
    rw [lst_append, extract_lst, extract_lst, List.drop_zero, Nat.sub_zero]
    rw [List.take_of_length_le (i := _ - m) (by rw [List.length_drop, lst_length]; omega), List.take_append_drop]
  have e2 := recN_append (b := (frameW [x]).extract m (frameW [x]).size) h3
  rw [← e, h1] at e2
  omega

/- Pages laid one behind the other. -/
/-- Piece t of some bytes. -/
def pieceW (s : ByteArray) (t : Nat) : ByteArray := s.extract (234 * t) (min s.size (234 * t + 234))
theorem piece_size (s : ByteArray) (t : Nat) : (pieceW s t).size ≤ 234 := by unfold pieceW; rw [ByteArray.size_extract]; omega
theorem piece_next (s : ByteArray) (t : Nat) (h : 234 * t ≤ s.size) : s.extract 0 (234 * t) ++ pieceW s t = s.extract 0 (min s.size (234 * (t + 1))) := by
  apply lst_inj
  unfold pieceW
  rw [lst_append, extract_lst, extract_lst, extract_lst, List.drop_zero, Nat.sub_zero, Nat.sub_zero]
  have e : min s.size (234 * (t + 1)) = 234 * t + (min s.size (234 * t + 234) - 234 * t) := by omega
  rw [e, List.take_add]
/-- Behind what is laid. -/
structure Laid (st0 st : ScanW) (age : Int) (s : ByteArray) (t : Nat) : Prop where
  recs : st.recs = st0.recs ++ (wholeW (s.extract 0 (min s.size (234 * t)))).1
  left : (1 ≤ t ∨ (st0.last = age ∧ st0.left = ByteArray.empty)) → st.left = (wholeW (s.extract 0 (min s.size (234 * t)))).2
  last : st.last = if t = 0 then st0.last else age
theorem extract_zero (s : ByteArray) : s.extract 0 0 = ByteArray.empty := by
  apply lst_inj; rw [extract_lst]; rfl
theorem ba_nil_append (s : ByteArray) : ByteArray.empty ++ s = s := by
  apply lst_inj; rw [lst_append]; rfl
theorem laid_go {p N : Nat} {age : Int} {s : ByteArray} (hg : GoTo rd p) (hN : 234 * (N - 1) ≤ s.size) (h0 : (stN rd p).last < age ∨ ((stN rd p).last = age ∧ (stN rd p).left = ByteArray.empty))
    (hr : ∀ t, t < N → rd (p + t) = some ⟨age, decide (t = 0), pieceW s t⟩) : ∀ t, t ≤ N → GoTo rd (p + t) ∧ Laid (stN rd p) (stN rd (p + t)) age s t
  | 0, _ => by
    refine ⟨hg, ?_, ?_, rfl⟩
    · rw [Nat.mul_zero, Nat.min_zero, extract_zero, whole_empty]; simp
    · intro h
      rw [Nat.mul_zero, Nat.min_zero, extract_zero, whole_empty]
      rcases h with h | h
      · omega
      · exact h.2
  | t + 1, ht => by
    obtain ⟨g1, g2⟩ := laid_go hg hN h0 hr t (by omega)
    have hd := hr t (by omega)
    have hlast := g2.last
    have hstop : scanStop ⟨age, decide (t = 0), pieceW s t⟩ (stN rd (p + t)) = false := by
      unfold scanStop
      rw [hlast]
      by_cases e : t = 0
      · subst e
        simp
        omega
      · simp [e]
    have hle : 234 * t ≤ s.size := Nat.le_trans (Nat.mul_le_mul_left _ (by omega)) hN
    refine ⟨fun i hi => ?_, ?_⟩
    · by_cases e : i = p + t
      · subst e; exact ⟨_, hd, hstop⟩
      · exact g1 i (by omega)
    · have e := stN_some hd
      have eb : (if (stN rd (p + t)).last < age then ByteArray.empty else (stN rd (p + t)).left) ++ pieceW s t = (wholeW (s.extract 0 (min s.size (234 * t)))).2 ++ pieceW s t := by
        by_cases hc : (stN rd (p + t)).last < age
        · have ht0 : t = 0 := by
            rcases Nat.eq_zero_or_pos t with h | h
            · exact h
            · exfalso; rw [hlast, if_neg (by omega)] at hc; omega
          subst ht0
          rw [if_pos hc, Nat.mul_zero, Nat.min_zero, extract_zero, whole_empty]
        · rw [if_neg hc]
          congr 1
          apply g2.left
          rcases Nat.eq_zero_or_pos t with h | h
          · subst h
            right
            rw [hlast, if_pos rfl] at hc
            rcases h0 with h0 | h0
            · exact absurd h0 hc
            · exact h0
          · left; omega
      have ew : wholeW (s.extract 0 (min s.size (234 * (t + 1)))) = ((wholeW (s.extract 0 (min s.size (234 * t)))).1 ++ (wholeW ((wholeW (s.extract 0 (min s.size (234 * t)))).2 ++ pieceW s t)).1, (wholeW ((wholeW (s.extract 0 (min s.size (234 * t)))).2 ++ pieceW s t)).2) := by
        rw [← piece_next s t hle, Nat.min_eq_right hle]
        exact whole_append _ _ _ (Nat.le_refl _)
      show Laid (stN rd p) (stN rd (p + t + 1)) age s (t + 1)
      rw [e]
      unfold scanStep
      refine ⟨?_, fun _ => ?_, ?_⟩
      · show (stN rd (p + t)).recs ++ (wholeW ((if (stN rd (p + t)).last < age then ByteArray.empty else (stN rd (p + t)).left) ++ pieceW s t)).1 = _
        rw [eb, ew, g2.recs, List.append_assoc]
      · show (wholeW ((if (stN rd (p + t)).last < age then ByteArray.empty else (stN rd (p + t)).left) ++ pieceW s t)).2 = _
        rw [eb, ew]
      · show age = _
        rw [if_neg (by omega)]
theorem extract_full (s : ByteArray) {m : Nat} (h : s.size ≤ m) : s.extract 0 (min s.size m) = s := by
  apply lst_inj
  rw [extract_lst, List.drop_zero, Nat.min_eq_left h, Nat.sub_zero, List.take_of_length_le (by rw [lst_length]; omega)]
theorem need_bound (s : ByteArray) : 234 * (needW s.size - 1) ≤ s.size ∧ s.size ≤ 234 * needW s.size := by unfold needW; omega
/-- All pages of some records. -/
theorem laid_all {p : Nat} {age : Int} {rs : List ByteArray} (hs : ∀ x ∈ rs, x.size ≤ 100000) (hg : GoTo rd p) (h0 : (stN rd p).last < age ∨ ((stN rd p).last = age ∧ (stN rd p).left = ByteArray.empty))
    (hr : ∀ t, t < needW (frameW rs).size → rd (p + t) = some ⟨age, decide (t = 0), pieceW (frameW rs) t⟩) :
    GoTo rd (p + needW (frameW rs).size) ∧ (stN rd (p + needW (frameW rs).size)).recs = (stN rd p).recs ++ rs ∧
    (1 ≤ needW (frameW rs).size → (stN rd (p + needW (frameW rs).size)).last = age ∧ (stN rd (p + needW (frameW rs).size)).left = ByteArray.empty) ∧
    (∀ t, 1 ≤ t → t ≤ needW (frameW rs).size → (stN rd (p + t)).last = age) := by
  obtain ⟨n1, n2⟩ := need_bound (frameW rs)
  obtain ⟨h1, h2⟩ := laid_go hg n1 h0 hr _ (Nat.le_refl _)
  have e1 := h2.recs
  rw [extract_full _ n2, whole_frame rs hs] at e1
  refine ⟨h1, e1, fun hn => ⟨?_, ?_⟩, fun t ht1 ht2 => ?_⟩
  · rw [h2.last, if_neg (by omega)]
  · have e2 := h2.left (.inl hn)
    rw [extract_full _ n2, whole_frame rs hs] at e2
    exact e2
  · obtain ⟨-, h3⟩ := laid_go hg n1 h0 hr t ht2
    rw [h3.last, if_neg (by omega)]
end Bw
namespace Bw
set_option linter.unusedVariables false
/-- Page i of a half. -/
def pg (d : DiskD) (h i : Nat) : Int := ((h * d.halfN + i : Nat) : Int)
def rdR (d : DiskD) (h : Nat) : Nat → Option LeafW := fun i => leafR (d.rawD (pg d h i)) i
def rdK (d : DiskD) (h : Nat) : Nat → Option LeafW := fun i => leafR (d.K (pg d h i)) i
variable {d d' : DiskD} {h h' i i' j k : Nat} {F : List Int}
theorem pg_has (hh : h ≤ 1) (hi : i < d.halfN) : d.hasB (pg d h i) = true := by
  unfold DiskD.halfN at hi
  rw [hasB_iff]
  unfold pg DiskD.halfN
  rcases Nat.le_one_iff_eq_zero_or_eq_one.1 hh with e | e <;> subst e <;> omega
theorem pg_inj (hh : h ≤ 1) (hh' : h' ≤ 1) (hi : i < d.halfN) (hi' : i' < d.halfN) (e : pg d h i = pg d h' i') : h = h' ∧ i = i' := by
  unfold pg at e
  generalize d.halfN = H at *
  rcases Nat.le_one_iff_eq_zero_or_eq_one.1 hh with e1 | e1 <;> rcases Nat.le_one_iff_eq_zero_or_eq_one.1 hh' with e2 | e2 <;> subst e1 <;> subst e2 <;> omega
theorem leafW_rd (hh : h ≤ 1) (hi : i < d.halfN) : d.leafW (h : Int) i = rdR d h i := by
  have e : (h : Int) * (d.halfN : Int) + i = pg d h i := by unfold pg; rw [Int.natCast_add, Int.natCast_mul]
  have hb := pg_has hh hi
  rw [← e] at hb
  rw [leafW_raw d h i hb, e]
  rfl
theorem scan_rd (hh : h ≤ 1) : ∃ j, j ≤ d.halfN ∧ GoTo (rdR d h) j ∧ (j = d.halfN ∨ ¬ Goes (rdR d h) j) ∧ d.scan (h : Int) = stN (rdR d h) j := by
  obtain ⟨j, h1, h2, h3⟩ := scan_ex (rdR d h) d.halfN
  refine ⟨j, h1, h2, h3, ?_⟩
  have hc : ∀ k, k < d.halfN → rdR d h k = d.leafW (h : Int) k := fun k hk => (leafW_rd hh hk).symm
  unfold DiskD.scan
  rw [scan_is h1 (goTo_congr (fun k hk => hc k (by omega)) h2) ?_]
  · exact (stN_congr fun k hk => hc k (by omega)).symm
  · by_cases e : j = d.halfN
    · exact .inl e
    · refine .inr fun hg => ?_
      rcases h3 with h3 | h3
      · exact e h3
      · exact h3 ((goes_congr fun k hk => hc k (by omega)).2 hg)
theorem getV_nonneg (s : ByteArray) (i k : Nat) (h1 : 1 ≤ k) (h2 : k ≤ 8) (h3 : i + k ≤ s.size) : 0 ≤ getV s i k := by
  rw [getV_eq h1 h2 h3]; omega
theorem leafR_pos {p : ByteArray} {l : LeafW} (hp : p.size = 256) (h : leafR p i = some l) : 0 < l.age := by
  obtain ⟨h1, -, h3⟩ := leafR_ends hp h
  have : 0 ≤ frontA p := getV_nonneg p 0 6 (by omega) (by omega) (by omega)
  omega
theorem raw_size (hok : d.Ok) {p : Int} (hb : d.hasB p = true) : (d.rawD p).size = 256 := by
  rw [DiskD.rawD, if_pos hb]
  exact lastW_size d.W p (d.K p) (fun w hw => (hok.W1 w hw).2.2) (hok.K1 p)

/- The half that is chosen. -/
theorem best_spec (h0 : (d.scan 0).recs ≠ [] → 0 < (d.scan 0).age) (h1 : (d.scan 1).recs ≠ [] → 0 < (d.scan 1).age) :
    (d.best.which = 0 ∧ d.best.recs = (d.scan 0).recs ∧ d.best.pages = (d.scan 0).pages ∧ ((d.scan 1).recs = [] ∨ ((d.scan 0).recs ≠ [] ∧ (d.scan 1).age ≤ (d.scan 0).age))) ∨
    (d.best.which = 1 ∧ d.best.recs = (d.scan 1).recs ∧ d.best.pages = (d.scan 1).pages ∧ (d.scan 1).recs ≠ [] ∧ ((d.scan 0).recs = [] ∨ (d.scan 0).age < (d.scan 1).age)) := by
  unfold DiskD.best
  generalize d.scan 0 = s0 at *
  generalize d.scan 1 = s1 at *
  by_cases e0 : s0.recs = []
  · have e : bestStep ⟨0, 0, [], s0.pages⟩ 0 s0 = ⟨0, 0, [], s0.pages⟩ := if_neg (fun h => h.1 e0)
    rw [e]
    by_cases e1 : s1.recs = []
    · have e2 : bestStep ⟨0, 0, [], s0.pages⟩ 1 s1 = ⟨0, 0, [], s0.pages⟩ := if_neg (fun h => h.1 e1)
      rw [e2]
      exact .inl ⟨rfl, e0.symm, rfl, .inl e1⟩
    · have e2 : bestStep ⟨0, 0, [], s0.pages⟩ 1 s1 = ⟨1, s1.age, s1.recs, s1.pages⟩ := if_pos ⟨e1, h1 e1⟩
      rw [e2]
      exact .inr ⟨rfl, rfl, rfl, e1, .inl e0⟩
  · have e : bestStep ⟨0, 0, [], s0.pages⟩ 0 s0 = ⟨0, s0.age, s0.recs, s0.pages⟩ := if_pos ⟨e0, h0 e0⟩
    rw [e]
    by_cases e1 : s1.recs ≠ [] ∧ s0.age < s1.age
    · have e2 : bestStep ⟨0, s0.age, s0.recs, s0.pages⟩ 1 s1 = ⟨1, s1.age, s1.recs, s1.pages⟩ := if_pos e1
      rw [e2]
      exact .inr ⟨rfl, rfl, rfl, e1.1, .inr e1.2⟩
    · have e2 : bestStep ⟨0, s0.age, s0.recs, s0.pages⟩ 1 s1 = ⟨0, s0.age, s0.recs, s0.pages⟩ := if_neg e1
      rw [e2]
      refine .inl ⟨rfl, rfl, rfl, ?_⟩
      by_cases e2 : s1.recs = []
      · exact .inl e2
      · refine .inr ⟨e0, ?_⟩
        by_cases e3 : s0.age < s1.age
        · exact absurd ⟨e2, e3⟩ e1
        · omega
/-- One half's claim to be the one, against the other one's. -/
def Wins (w : Nat) (me ot : ScanW) : Prop := ot.recs = [] ∨ (me.recs ≠ [] ∧ if w = 0 then ot.age ≤ me.age else ot.age < me.age)
theorem scan_wins (hok : d.Ok) : ∀ h : Nat, h ≤ 1 → (d.scan (h : Int)).recs ≠ [] → 0 < (d.scan (h : Int)).age := fun h hh hr => by
  obtain ⟨j, h1, h2, h3, h4⟩ := scan_rd (d := d) hh
  rw [h4] at hr ⊢
  cases j with
  | zero => exact absurd rfl hr
  | succ j =>
    obtain ⟨l, l1, -⟩ := h2 0 (by omega)
    rw [st_age1 h2 (by omega) l1]
    exact leafR_pos (raw_size hok (pg_has hh (by omega))) l1
theorem best_which (hok : d.Ok) {w : Nat} (hw : w ≤ 1) (h1 : w = 1 → (d.scan (w : Int)).recs ≠ []) (hot : Wins w (d.scan (w : Int)) (d.scan ((1 - w : Nat) : Int))) :
    d.best.which = w ∧ d.best.recs = (d.scan (w : Int)).recs ∧ d.best.pages = (d.scan (w : Int)).pages := by
  have hs := best_spec (scan_wins hok 0 (by omega)) (scan_wins hok 1 (by omega))
  unfold Wins at hot
  rcases Nat.le_one_iff_eq_zero_or_eq_one.1 hw with e | e <;> subst e
  · rcases hs with ⟨b1, b2, b3, -⟩ | ⟨b1, b2, b3, b4, b5⟩
    · exact ⟨b1, b2, b3⟩
    · exfalso
      rcases hot with hot | ⟨c1, c2⟩
      · exact b4 hot
      · rw [if_pos rfl] at c2
        rcases b5 with b5 | b5
        · exact c1 b5
        · have c3 : (d.scan 1).age ≤ (d.scan 0).age := c2
          omega
  · rcases hs with ⟨b1, b2, b3, b4⟩ | ⟨b1, b2, b3, b4, b5⟩
    · exfalso
      have c1 : (d.scan 1).recs ≠ [] := h1 rfl
      rcases b4 with b4 | ⟨b4, b5⟩
      · exact c1 b4
      · rcases hot with hot | ⟨-, c2⟩
        · exact b4 hot
        · rw [if_neg (by decide)] at c2
          have c3 : (d.scan 0).age < (d.scan 1).age := c2
          omega
    · exact ⟨b1, b2, b3⟩
theorem best_one (hok : d.Ok) : d.best.which ≤ 1 ∧ d.best.recs = (d.scan (d.best.which : Int)).recs ∧ d.best.pages = (d.scan (d.best.which : Int)).pages ∧ (d.best.which = 1 → (d.scan (d.best.which : Int)).recs ≠ []) ∧
    Wins d.best.which (d.scan (d.best.which : Int)) (d.scan ((1 - d.best.which : Nat) : Int)) := by
  unfold Wins
  rcases best_spec (scan_wins hok 0 (by omega)) (scan_wins hok 1 (by omega)) with ⟨b1, b2, b3, b4⟩ | ⟨b1, b2, b3, b4, b5⟩
  · rw [b1]
    refine ⟨by omega, b2, b3, by omega, ?_⟩
    rcases b4 with b4 | b4
    · exact .inl b4
    · exact .inr ⟨b4.1, by rw [if_pos rfl]; exact b4.2⟩
  · rw [b1]
    refine ⟨by omega, b2, b3, fun _ => b4, ?_⟩
    rcases b5 with b5 | b5
    · exact .inl b5
    · exact .inr ⟨b4, by rw [if_neg (by decide)]; exact b5⟩

/- The greatest age. -/
theorem maxAge_ge : ∀ (n p : Nat), p < n → frontA (d.rawD p) ≤ maxAge d n ∧ backA (d.rawD p) ≤ maxAge d n
  | 0, p, h => by omega
  | n + 1, p, h => by
    show _ ≤ max (max (maxAge d n) (frontA (d.rawD n))) (backA (d.rawD n)) ∧ _ ≤ max (max (maxAge d n) (frontA (d.rawD n))) (backA (d.rawD n))
    by_cases e : p = n
    · subst e; omega
    · have := maxAge_ge n p (by omega); omega
theorem maxAge_le {B : Int} (hB : 0 ≤ B) : ∀ n : Nat, (∀ p : Nat, p < n → frontA (d.rawD p) ≤ B ∧ backA (d.rawD p) ≤ B) → maxAge d n ≤ B
  | 0, _ => hB
  | n + 1, h => by
    show max (max (maxAge d n) (frontA (d.rawD n))) (backA (d.rawD n)) ≤ B
    have h1 := maxAge_le hB n fun p hp => h p (by omega)
    have h2 := h n (by omega)
    omega

/- What a crash leaves of a page that was written once. -/
theorem lastW_not : ∀ (W : List WriteD) (p : Int) (s : ByteArray), (∀ w ∈ W, w.1 ≠ p) → lastW W p s = s
  | [], p, s, _ => rfl
  | w :: W, p, s, h => by
    show lastW W p (if w.1 = p then w.2 else s) = s
    rw [if_neg (h w List.mem_cons_self), lastW_not W p s fun v hv => h v (List.mem_cons_of_mem _ hv)]
theorem crash_page : ∀ (W : List WriteD) (F : List Int) (K : Int → ByteArray) (p : Int), (W.map (·.1)).Nodup → crashK W F K p = K p ∨ crashK W F K p = lastW W p (K p) ∨ crashK W F K p = tornS (lastW W p (K p)) (K p)
  | [], F, K, p, _ => .inl (by unfold crashK; rfl)
  | w :: W, [], K, p, _ => .inl (by unfold crashK; rfl)
  | w :: W, f :: F, K, p, hn => by
    obtain ⟨n1, n2⟩ := List.nodup_cons.1 hn
    show crashK W F (meetK K w f) p = K p ∨ crashK W F (meetK K w f) p = lastW W p (if w.1 = p then w.2 else K p) ∨ crashK W F (meetK K w f) p = tornS (lastW W p (if w.1 = p then w.2 else K p)) (K p)
    by_cases e : w.1 = p
    · subst e
      have hno : ∀ v ∈ W, v.1 ≠ w.1 := fun v hv e => n1 (List.mem_map.2 ⟨v, hv, e⟩)
      rw [crash_same W F _ hno, if_pos rfl, lastW_not W _ _ hno]
      unfold meetK
      split
      · exact .inr (.inr (setK_same _ _ _))
      · split
        · exact .inr (.inl (setK_same _ _ _))
        · exact .inl rfl
    · have e2 : meetK K w f p = K p := by
        unfold meetK
        split
        · exact setK_other _ _ _ (fun h => e h.symm)
        · split
          · exact setK_other _ _ _ (fun h => e h.symm)
          · rfl
      have ih := crash_page W F (meetK K w f) p n2
      rw [e2] at ih
      rw [if_neg e]
      exact ih
theorem crash_raw {p : Int} (hb : d.hasB p = true) (hn : (d.W.map (·.1)).Nodup) : (d.crashD F).rawD p = d.K p ∨ (d.crashD F).rawD p = d.rawD p ∨ (d.crashD F).rawD p = tornS (d.rawD p) (d.K p) := by
  have e1 : (d.crashD F).rawD p = crashK d.W F d.K p := by rw [DiskD.rawD, show (d.crashD F).hasB p = d.hasB p from rfl, if_pos hb]; rfl
  have e2 : d.rawD p = lastW d.W p (d.K p) := by rw [DiskD.rawD, if_pos hb]
  rw [e1, e2]
  exact crash_page d.W F d.K p hn
theorem raw_kept {p : Int} (hb : d.hasB p = true) (hno : ∀ w ∈ d.W, w.1 ≠ p) : d.rawD p = d.K p := by
  rw [DiskD.rawD, if_pos hb, lastW_not d.W p _ hno]
theorem crash_kept {p : Int} (hb : d.hasB p = true) (hno : ∀ w ∈ d.W, w.1 ≠ p) : (d.crashD F).rawD p = d.K p := by
  rw [DiskD.rawD, show (d.crashD F).hasB p = d.hasB p from rfl, if_pos hb]
  exact crash_same d.W F d.K hno

/- What is laid. -/
structure LayIs (d d' : DiskD) (age : Int) (which start : Nat) (s : ByteArray) (k : Nat) : Prop where
  n : d'.n = d.n
  K : d'.K = d.K
  raw : ∀ i, i < k → d'.rawD (pg d which (start + i)) = sealS (leafS age.toNat (start + i) (decide (i = 0)) (pieceW s i))
  rest : ∀ q, (∀ i, i < k → q ≠ pg d which (start + i)) → d'.rawD q = d.rawD q
  W : d'.W.map (·.1) = d.W.map (·.1) ++ (List.range k).map fun i => pg d which (start + i)
theorem lay_is (age : Int) {which start : Nat} (s : ByteArray) (hw : which ≤ 1) : ∀ k, start + k ≤ d.halfN → LayIs d (layN d age which start s k) age which start s k
  | 0, _ => ⟨rfl, rfl, fun i hi => by omega, fun _ _ => rfl, by simp [layN]⟩
  | k + 1, hk => by
    have ih := lay_is (start := start) age s hw k (by omega)
    have e0 : layN d age which start s (k + 1) = (layN d age which start s k).writeD ((which * d.halfN + start + k : Nat) : Int) (leafS age.toNat (start + k) (decide (k = 0)) (pieceW s k)) := rfl
    have hpg : ((which * d.halfN + start + k : Nat) : Int) = pg d which (start + k) := by unfold pg; rw [Nat.add_assoc]
    rw [e0, hpg]
    generalize layN d age which start s k = x at *
    have hx : x.hasB (pg d which (start + k)) = true := by
      have := pg_has (d := d) hw (show start + k < d.halfN by omega)
      unfold DiskD.hasB at *
      rw [ih.n]; exact this
    have hz : (leafS age.toNat (start + k) (decide (k = 0)) (pieceW s k)).size ≤ 252 := by rw [leafS_size (piece_size _ _)]; exact Nat.le_refl _
    have hr := write_raw hx hz
    have hwr := (write_ok hx hz).2
    refine ⟨by rw [hwr]; exact ih.n, by rw [hwr]; exact ih.K, fun i hi => ?_, fun q hq => ?_, ?_⟩
    · rw [hr]
      by_cases e : i = k
      · subst e; rw [if_pos rfl]
      · rw [if_neg, ih.raw i (by omega)]
        intro h
        obtain ⟨-, h2⟩ := pg_inj (i := start + i) (i' := start + k) hw hw (by omega) (by omega) h
        omega
    · rw [hr, if_neg (hq k (by omega)), ih.rest q fun i hi => hq i (by omega)]
    · rw [hwr]
      show List.map (fun w : WriteD => w.1) (x.W ++ [(_, _)]) = _
      rw [List.map_append, ih.W, List.range_succ, List.map_append, List.append_assoc]
      rfl
end Bw
namespace Bw
set_option linter.unusedVariables false
structure InvA (l : LogD) (d : DiskD) (s : Nat) : Prop where
  ok : d.Ok
  n4 : 4 ≤ d.n
  w1 : l.which ≤ 1
  age1 : 1 ≤ l.age
  turned : l.turned.size = 0
  sp : s ≤ l.pages
  go : GoTo (rdR d l.which) l.pages
  wr : l.written ≤ l.recs.length
  recs : (stN (rdR d l.which) l.pages).recs = l.recs.take l.written
  small : ∀ x ∈ l.recs.drop l.written, x.size ≤ 100000
  fits : l.pages + needW (frameW (l.recs.drop l.written)).size ≤ d.halfN
  last : (stN (rdR d l.which) l.pages).last < l.age ∨ ((stN (rdR d l.which) l.pages).last = l.age ∧ (stN (rdR d l.which) l.pages).left = ByteArray.empty)
  sure : (stN (rdR d l.which) s).recs.length = l.sure
  mid : ∀ j, s < j → j ≤ l.pages → (stN (rdR d l.which) j).last = l.age
  stop : s = d.halfN ∨ ¬ Goes (rdK d l.which) s
  nodup : (d.W.map (·.1)).Nodup
  within : ∀ x ∈ d.W, ∃ i, s ≤ i ∧ i < l.pages ∧ x.1 = pg d l.which i
  ends : ∀ i, s ≤ i → i < l.pages → frontA (d.rawD (pg d l.which i)) = l.age ∧ backA (d.rawD (pg d l.which i)) = l.age
  old : ∀ p : Nat, p < d.n → frontA (d.K p) ≤ l.age ∧ backA (d.K p) ≤ l.age
  older : ∀ p : Nat, p < d.n → (∀ i, i < s → (p : Int) ≠ pg d l.which i) → frontA (d.K p) < l.age ∧ backA (d.K p) < l.age
  other : Wins l.which (stN (rdR d l.which) s) (scanN (rdK d (1 - l.which)) d.halfN 0 scan0)
  w1s : l.which = 1 → 1 ≤ l.sure
  more : s < l.pages → l.sure < l.written
variable {l : LogD} {d d' : DiskD} {s i j k m : Nat} {F : List Int}
theorem maxAge_nn (d : DiskD) : ∀ n, 0 ≤ maxAge d n
  | 0 => Int.le_refl _
  | n + 1 => Int.le_trans (maxAge_nn d n) (Int.le_trans (Int.le_max_left _ _) (Int.le_max_left _ _))
theorem scan_congr {rd rd' : Nat → Option LeafW} {H : Nat} (h : ∀ k, k < H → rd k = rd' k) : scanN rd H 0 scan0 = scanN rd' H 0 scan0 := by
  obtain ⟨j, h1, h2, h3⟩ := scan_ex rd H
  rw [scan_is h1 h2 h3, scan_is h1 (goTo_congr (fun k hk => h k (by omega)) h2) ?_]
  · exact stN_congr fun k hk => h k (by omega)
  · by_cases e : j = H
    · exact .inl e
    · refine .inr fun hg => ?_
      rcases h3 with h3 | h3
      · exact e h3
      · exact h3 ((goes_congr fun k hk => h k (by omega)).2 hg)
theorem scan_eq {h : Nat} (hh : h ≤ 1) : d.scan (h : Int) = scanN (rdR d h) d.halfN 0 scan0 := scan_congr fun k hk => leafW_rd hh hk
theorem Wins.grow {rd : Nat → Option LeafW} {w s j : Nat} {ot : ScanW} (h : Wins w (stN rd s) ot) (hg : GoTo rd j) (hs : s ≤ j) : Wins w (stN rd j) ot := by
  rcases h with h | ⟨h1, h2⟩
  · exact .inl h
  · have hs1 : 1 ≤ s := by
      rcases Nat.eq_zero_or_pos s with e | e
      · subst e; exact absurd rfl h1
      · exact e
    obtain ⟨x, hx⟩ := st_recs hg hs
    refine .inr ⟨?_, ?_⟩
    · rw [hx]
      intro h; exact h1 (List.append_eq_nil_iff.1 h).1
    · rw [st_age hg hs1 hs]; exact h2
theorem pg_nat (d : DiskD) (h i : Nat) (hh : h ≤ 1) (hi : i < d.halfN) : ∃ p : Nat, p < d.n ∧ pg d h i = (p : Int) := by
  have := pg_has (d := d) hh hi
  obtain ⟨h1, h2⟩ := hasB_iff.1 this
  exact ⟨h * d.halfN + i, by unfold pg at h2; omega, rfl⟩
namespace InvA
theorem pH (h : InvA l d s) : l.pages ≤ d.halfN := by have := h.fits; omega
theorem raw_K (h : InvA l d s) {p : Int} (hb : d.hasB p = true) (hno : ∀ i, s ≤ i → i < l.pages → p ≠ pg d l.which i) : d.rawD p = d.K p :=
  raw_kept hb fun w hw e => by
    obtain ⟨i, h1, h2, h3⟩ := h.within w hw
    exact hno i h1 h2 (e.symm.trans h3)
theorem crash_K (h : InvA l d s) {p : Int} (hb : d.hasB p = true) (hno : ∀ i, s ≤ i → i < l.pages → p ≠ pg d l.which i) : (d.crashD F).rawD p = d.K p :=
  crash_kept hb fun w hw e => by
    obtain ⟨i, h1, h2, h3⟩ := h.within w hw
    exact hno i h1 h2 (e.symm.trans h3)
theorem low_no (h : InvA l d s) (hi : i < s) : ∀ j, s ≤ j → j < l.pages → pg d l.which i ≠ pg d l.which j := fun j h1 h2 e => by
  have := h.pH
  have := h.sp
  obtain ⟨-, h4⟩ := pg_inj (d := d) h.w1 h.w1 (by omega) (by omega) e
  omega
theorem high_no (h : InvA l d s) (hi : l.pages ≤ i) (hH : i < d.halfN) : ∀ j, s ≤ j → j < l.pages → pg d l.which i ≠ pg d l.which j := fun j h1 h2 e => by
  obtain ⟨-, h4⟩ := pg_inj (d := d) h.w1 h.w1 hH (by omega) e
  omega
theorem other_no (h : InvA l d s) (hH : i < d.halfN) : ∀ j, s ≤ j → j < l.pages → pg d (1 - l.which) i ≠ pg d l.which j := fun j h1 h2 e => by
  have := h.pH
  have := h.w1
  obtain ⟨h4, -⟩ := pg_inj (d := d) (by omega) h.w1 hH (by omega) e
  omega
theorem rdK_low (h : InvA l d s) (hi : i < s) : rdK d l.which i = rdR d l.which i := by
  have := h.pH
  have := h.sp
  unfold rdK rdR
  rw [h.raw_K (pg_has h.w1 (by omega)) (h.low_no hi)]
/-- Where a page is as it was ahead of its write, it stops there. -/
theorem halt (h : InvA l d s) (h1 : s ≤ m) (h2 : m ≤ l.pages) (h3 : m < d.halfN) {rd' : Nat → Option LeafW} (ha : ∀ i, i < m → rd' i = rdR d l.which i) (hm : rd' m = rdK d l.which m) : ¬ Goes rd' m := by
  intro hg
  by_cases e : m = s
  · subst e
    rcases h.stop with hs | hs
    · omega
    · refine hs ((goes_congr fun k hk => ?_).1 hg)
      by_cases e2 : k = m
      · rw [e2, hm]
      · rw [ha k (by omega), h.rdK_low (by omega)]
  · obtain ⟨lf, g1, g2⟩ := hg
    rw [hm] at g1
    obtain ⟨p, hp, hpe⟩ := pg_nat d l.which m h.w1 h3
    have e1 : leafR (d.K (pg d l.which m)) m = some lf := g1
    obtain ⟨e2, -, -⟩ := leafR_ends (h.ok.K1 _) e1
    have e3 := (h.older p hp fun i hi e => by
      rw [← hpe] at e
      obtain ⟨-, e5⟩ := pg_inj (d := d) h.w1 h.w1 h3 (by omega) e
      omega).1
    rw [← hpe, e2] at e3
    have e4 := h.mid m (by omega) h2
    rw [stN_congr ha] at g2
    unfold scanStop at g2
    rw [e4] at g2
    simp [e3] at g2
theorem raw_le (h : InvA l d s) (p : Nat) (hp : p < d.n) : frontA (d.rawD p) ≤ l.age ∧ backA (d.rawD p) ≤ l.age := by
  have hb : d.hasB p = true := hasB_iff.2 ⟨by omega, by omega⟩
  by_cases e : ∃ i, s ≤ i ∧ i < l.pages ∧ (p : Int) = pg d l.which i
  · obtain ⟨i, h1, h2, h3⟩ := e
    obtain ⟨e1, e2⟩ := h.ends i h1 h2
    rw [h3]; omega
  · rw [h.raw_K hb fun i h1 h2 h3 => e ⟨i, h1, h2, h3⟩]
    exact h.old p hp
theorem crash_le (h : InvA l d s) (p : Nat) (hp : p < d.n) : frontA ((d.crashD F).rawD p) ≤ l.age ∧ backA ((d.crashD F).rawD p) ≤ l.age := by
  have hb : d.hasB p = true := hasB_iff.2 ⟨by omega, by omega⟩
  have h1 := h.raw_le p hp
  have h2 := h.old p hp
  rcases crash_raw (F := F) hb h.nodup with e | e | e
  · rw [e]; exact h2
  · rw [e]; exact h1
  · obtain ⟨t1, t2⟩ := torn_ends (raw_size h.ok hb) (h.ok.K1 p)
    rw [e, t1, t2]; exact ⟨h1.1, h2.2⟩
theorem sure_le (h : InvA l d s) : l.sure ≤ l.written := by
  obtain ⟨x, hx⟩ := st_recs h.go h.sp
  have h1 := h.sure
  have h2 := h.recs
  have h3 := h.wr
  rw [h2] at hx
  have h4 := congrArg List.length hx
  rw [List.length_append, List.length_take] at h4
  omega
end InvA
theorem openLE_zero {B : Int} (hn : 4 ≤ d.n) (hB : B < 1099511627776) (h : maxAge d d.n ≤ B) : openLE d = 0 := by
  unfold openLE
  rw [if_neg (by omega), if_neg (by omega)]
/-- What Open finds on a disk of which all is synced. -/
theorem open_inv (hok : d.Ok) (n4 : 4 ≤ d.n) (hW : d.W = []) : InvA (openL d) d (openL d).pages := by
  obtain ⟨b1, b2, b3, b4, b5⟩ := best_one hok
  have hE : openL d = ⟨d.best.which, maxAge d d.n + 1, d.best.pages, d.best.recs, d.best.recs.length, d.best.recs.length, ByteArray.empty⟩ := rfl
  generalize hw : d.best.which = w at *
  obtain ⟨j, j1, j2, j3, j4⟩ := scan_rd (d := d) b1
  have hot := scan_eq (d := d) (h := 1 - w) (by omega)
  rw [j4] at b2 b3 b4 b5
  rw [hot] at b5
  rw [st_pages j2] at b3
  rw [b2, b3] at hE
  have hraw : ∀ p : Int, d.hasB p = true → d.rawD p = d.K p := fun p hp => raw_kept hp (by rw [hW]; intro x hx; cases hx)
  have hKR : ∀ h, h ≤ 1 → ∀ i, i < d.halfN → rdR d h i = rdK d h i := fun h hh i hi => by
    unfold rdR rdK; rw [hraw _ (pg_has hh hi)]
  have hM := maxAge_nn d d.n
  have hlt : ∀ p : Nat, p < d.n → frontA (d.K p) < maxAge d d.n + 1 ∧ backA (d.K p) < maxAge d d.n + 1 := fun p hp => by
    have := maxAge_ge (d := d) d.n p hp
    rw [hraw p (hasB_iff.2 ⟨by omega, by omega⟩)] at this
    omega
  rw [hE]
  have hlast : (stN (rdR d w) j).last < maxAge d d.n + 1 := by
    cases j with
    | zero => show (0 : Int) < _; omega
    | succ j =>
      obtain ⟨lf, l1, -⟩ := j2 j (by omega)
      rw [st_last j2 l1]
      obtain ⟨p, hp, hpe⟩ := pg_nat d w j b1 (by omega)
      obtain ⟨e1, -, -⟩ := leafR_ends (raw_size hok (pg_has b1 (by omega))) (show leafR (d.rawD (pg d w j)) j = some lf from l1)
      have := maxAge_ge (d := d) d.n p hp
      rw [← hpe] at this
      omega
  refine ⟨hok, n4, b1, ?_, rfl, Nat.le_refl _, j2, Nat.le_refl _, ?_, ?_, ?_, .inl hlast, rfl, ?_, ?_, ?_, ?_, ?_, ?_, ?_, ?_, ?_, fun h => absurd h (Nat.lt_irrefl _)⟩
  · show 1 ≤ maxAge d d.n + 1; omega
  · exact (List.take_length).symm
  · intro x hx
    have hx2 : x ∈ (stN (rdR d w) j).recs.drop (stN (rdR d w) j).recs.length := hx
    rw [List.drop_length] at hx2; cases hx2
  · show j + needW (frameW ((stN (rdR d w) j).recs.drop (stN (rdR d w) j).recs.length)).size ≤ d.halfN
    rw [List.drop_length]
    show j + 0 ≤ d.halfN
    omega
  · intro k h1 h2
    have h1' : j < k := h1
    have h2' : k ≤ j := h2
    omega
  · show j = d.halfN ∨ ¬ Goes (rdK d w) j
    by_cases e : j = d.halfN
    · exact .inl e
    · refine .inr fun hg => ?_
      rcases j3 with j3 | j3
      · exact e j3
      · exact j3 ((goes_congr fun k hk => hKR w b1 k (by omega)).2 hg)
  · rw [hW]; exact List.nodup_nil
  · rw [hW]; intro x hx; cases hx
  · intro i h1 h2
    have h1' : j ≤ i := h1
    have h2' : i < j := h2
    omega
  · intro p hp
    have := hlt p hp
    show frontA (d.K p) ≤ maxAge d d.n + 1 ∧ backA (d.K p) ≤ maxAge d d.n + 1
    omega
  · intro p hp _; exact hlt p hp
  · show Wins w (stN (rdR d w) j) (scanN (rdK d (1 - w)) d.halfN 0 scan0)
    rw [scan_congr fun k hk => (hKR (1 - w) (by omega) k hk).symm]
    exact b5
  · intro e
    show 1 ≤ (stN (rdR d w) j).recs.length
    exact List.length_pos_iff.2 (b4 e)
/-- What a crash leaves, and Open finds. -/
structure CrashA (l : LogD) (d : DiskD) (s : Nat) (F : List Int) (d' : DiskD) : Prop where
  openE : openLE d' = 0
  inv : InvA (openL d') d' (openL d').pages
  which : (openL d').which = l.which
  age_le : (openL d').age ≤ l.age + 1
  age_gt : 1 ≤ s → (stN (rdR d l.which) s).age < (openL d').age
  sure : l.sure ≤ (openL d').recs.length
  pre : ∃ x, l.recs.take l.written = (openL d').recs ++ x
  pages : s ≤ (openL d').pages ∧ (openL d').pages ≤ l.pages
  lost : F = [] → (openL d').recs = l.recs.take l.sure ∧ (openL d').pages = s
/-- What a crash leaves, where no turn is under way. -/
theorem InvA.crash (h : InvA l d s) (F : List Int) (hA : l.age < 1099511627776) : CrashA l d s F (d.crashD F) := by
  have hage := h.age1
  have hpH := h.pH
  have hsp := h.sp
  have hw1 := h.w1
  have hok' : (d.crashD F).Ok := crashD_ok h.ok F
  have hM : maxAge (d.crashD F) d.n ≤ l.age := maxAge_le (by omega) d.n fun p hp => h.crash_le p hp
  have hE : openLE (d.crashD F) = 0 := openLE_zero h.n4 hA hM
  have hI := open_inv hok' h.n4 (show (d.crashD F).W = [] from rfl)
  obtain ⟨j, j1, j2, j3, j4⟩ := scan_rd (d := d.crashD F) hw1
  have j1' : j ≤ d.halfN := j1
  have hlow : ∀ i, i < s → rdR (d.crashD F) l.which i = rdR d l.which i := fun i hi => by
    show leafR ((d.crashD F).rawD (pg d l.which i)) i = leafR (d.rawD (pg d l.which i)) i
    have hb : d.hasB (pg d l.which i) = true := pg_has hw1 (by omega)
    rw [h.crash_K hb (h.low_no hi), h.raw_K hb (h.low_no hi)]
  have hsj : s ≤ j := by
    rcases Nat.lt_or_ge j s with e | e
    · exfalso
      rcases j3 with j3 | j3
      · have : j = d.halfN := j3
        omega
      · exact j3 ((goes_congr fun k hk => hlow k (by omega)).2 (h.go j (by omega)))
    · exact e
  have key : ∀ t, s + t ≤ j → s + t ≤ l.pages ∧ ∀ i, i < s + t → rdR (d.crashD F) l.which i = rdR d l.which i := by
    intro t
    induction t with
    | zero => exact fun _ => ⟨hsp, hlow⟩
    | succ t ih =>
      intro ht
      obtain ⟨k1, k2⟩ := ih (by omega)
      have hg := j2 (s + t) (by omega)
      have hH : s + t < d.halfN := by omega
      have hb : d.hasB (pg d l.which (s + t)) = true := pg_has hw1 hH
      have hno : (d.crashD F).rawD (pg d l.which (s + t)) ≠ d.K (pg d l.which (s + t)) := fun e =>
        h.halt (by omega) k1 hH k2 (by unfold rdR rdK; show leafR ((d.crashD F).rawD (pg d l.which (s + t))) _ = _; rw [e]) hg
      have hlt : s + t < l.pages := by
        rcases Nat.lt_or_ge (s + t) l.pages with e | e
        · exact e
        · exact absurd (h.crash_K hb (h.high_no e hH)) hno
      have hsame : rdR (d.crashD F) l.which (s + t) = rdR d l.which (s + t) := by
        show leafR ((d.crashD F).rawD (pg d l.which (s + t))) _ = leafR (d.rawD (pg d l.which (s + t))) _
        rcases crash_raw (F := F) hb h.nodup with e | e | e
        · exact absurd e hno
        · rw [e]
        · exfalso
          obtain ⟨lf, g1, -⟩ := hg
          have g3 : leafR ((d.crashD F).rawD (pg d l.which (s + t))) (s + t) = some lf := g1
          obtain ⟨e1, -⟩ := h.ends (s + t) (by omega) hlt
          obtain ⟨p, hp, hpe⟩ := pg_nat d l.which (s + t) hw1 hH
          have e3 := (h.older p hp fun i hi e => by
            rw [← hpe] at e
            obtain ⟨-, e5⟩ := pg_inj (d := d) hw1 hw1 hH (by omega) e
            omega).2
          rw [← hpe] at e3
          rw [e, leafR_torn (raw_size h.ok hb) (h.ok.K1 _) (by omega)] at g3
          cases g3
      refine ⟨by omega, fun i hi => ?_⟩
      by_cases e : i = s + t
      · rw [e]; exact hsame
      · exact k2 i (by omega)
  obtain ⟨k1, k2⟩ := key (j - s) (by omega)
  rw [show s + (j - s) = j by omega] at k1 k2
  have hst : stN (rdR (d.crashD F) l.which) j = stN (rdR d l.which) j := stN_congr k2
  have hgo : GoTo (rdR d l.which) j := h.go.le k1
  have hot : (d.crashD F).scan ((1 - l.which : Nat) : Int) = scanN (rdK d (1 - l.which)) d.halfN 0 scan0 := by
    rw [scan_eq (d := d.crashD F) (by omega)]
    refine scan_congr fun k hk => ?_
    show leafR ((d.crashD F).rawD (pg d (1 - l.which) k)) k = leafR (d.K (pg d (1 - l.which) k)) k
    rw [h.crash_K (pg_has (by omega) hk) (h.other_no hk)]
  rw [hst] at j4
  obtain ⟨x, hx⟩ := st_recs hgo hsj
  have hsl := h.sure
  obtain ⟨b1, b2, b3⟩ := best_which (d := d.crashD F) hok' hw1 (fun e => by
    rw [j4, hx]
    have := h.w1s e
    intro h0
    have h1 := (List.append_eq_nil_iff.1 h0).1
    rw [h1] at hsl
    have : (0 : Nat) = l.sure := hsl
    omega) (by rw [hot, j4]; exact h.other.grow hgo hsj)
  rw [j4] at b2
  obtain ⟨y, hy⟩ := st_recs h.go k1
  have hr : (openL (d.crashD F)).recs = (stN (rdR d l.which) j).recs := b2
  have hp : (openL (d.crashD F)).pages = j := by
    show (d.crashD F).best.pages = j
    rw [b3, j4, st_pages hgo]
  have hrecs : (openL (d.crashD F)).recs ++ y = l.recs.take l.written := by rw [hr, ← hy, h.recs]
  refine ⟨hE, hI, b1, ?_, fun hs1 => ?_, ?_, ⟨y, hrecs.symm⟩, by rw [hp]; exact ⟨hsj, k1⟩, fun hF => ?_⟩
  · show maxAge (d.crashD F) d.n + 1 ≤ l.age + 1; omega
  · obtain ⟨lf, l1, -⟩ := hgo 0 (by omega)
    rw [st_age1 (hgo.le hsj) hs1 l1]
    have l2 : rdR (d.crashD F) l.which 0 = some lf := by rw [k2 0 (by omega)]; exact l1
    obtain ⟨p, hp, hpe⟩ := pg_nat d l.which 0 hw1 (by omega)
    have l3 : leafR ((d.crashD F).rawD (pg d l.which 0)) 0 = some lf := l2
    have e1 : frontA ((d.crashD F).rawD (pg d l.which 0)) = lf.age := (leafR_ends (raw_size hok' (pg_has (d := d.crashD F) hw1 (show 0 < d.halfN by omega))) l3).1
    have e2 := (maxAge_ge (d := d.crashD F) d.n p hp).1
    rw [← hpe, e1] at e2
    show lf.age < maxAge (d.crashD F) d.n + 1
    omega
  · rw [hr, hx, List.length_append, hsl]; omega
  · subst hF
    have hjs : j = s := by
      rcases Nat.lt_or_ge s j with e | e
      · exfalso
        have hb : d.hasB (pg d l.which s) = true := pg_has hw1 (by omega)
        have e1 : (d.crashD []).rawD (pg d l.which s) = d.K (pg d l.which s) := by
          rw [DiskD.rawD, show (d.crashD []).hasB (pg d l.which s) = d.hasB (pg d l.which s) from rfl, if_pos hb]
          show lastW [] _ (crashK d.W [] d.K (pg d l.which s)) = _
          cases d.W <;> (unfold crashK; rfl)
        exact h.halt (rd' := rdR (d.crashD []) l.which) (Nat.le_refl s) hsp (by omega) (fun i hi => k2 i (by omega)) (by unfold rdR rdK; show leafR ((d.crashD []).rawD (pg d l.which s)) _ = _; rw [e1]) (j2 s e)
      · omega
    refine ⟨?_, by rw [hp, hjs]⟩
    have h1 : l.recs.take l.sure = (l.recs.take l.written).take l.sure := by rw [List.take_take, Nat.min_eq_left h.sure_le]
    have h2 : (openL (d.crashD [])).recs.length = l.sure := by rw [hr, hjs, hsl]
    rw [h1, ← hrecs, List.take_append_of_le_length (by omega), ← h2, List.take_length]
end Bw
namespace Bw
set_option linter.unusedVariables false
variable {l : LogD} {d d' : DiskD} {s i j k m : Nat} {F : List Int}
theorem frame_len (rs : List ByteArray) : (frameL rs).length = (frameW rs).size := by unfold frameW; rw [size_str]
theorem need_zero : needW (frameW []).size = 0 := rfl
theorem why_zero {x : ByteArray} (h : l.why x = 0) : 1 ≤ x.size ∧ x.size ≤ 100000 ∧ l.turned.size = 0 := by
  unfold LogD.why at h
  by_cases h1 : x.size = 0 ∨ 100000 < x.size
  · rw [if_pos h1] at h; cases h
  · rw [if_neg h1] at h
    by_cases h2 : l.turned.size = 0
    · exact ⟨by omega, by omega, h2⟩
    · rw [if_pos h2] at h; cases h
theorem append_zero {x : ByteArray} (h : l.appendE d x = 0) : l.why x = 0 ∧ (needW (frameW (l.recs.drop l.written ++ [x])).size : Int) ≤ l.room d := by
  unfold LogD.appendE at h
  by_cases h1 : l.why x = 0
  · rw [if_neg (fun e => e h1)] at h
    refine ⟨h1, ?_⟩
    by_cases h2 : l.room d < (needW (frameL (l.recs.drop l.written ++ [x])).length : Int)
    · rw [if_pos h2] at h; cases h
    · rw [frame_len] at h2; omega
  · rw [if_pos h1] at h; exact absurd h h1
theorem append_ok {x : ByteArray} (h : l.appendE d x = 0) : l.append d x = { l with recs := l.recs ++ [x] } := by unfold LogD.append; rw [if_pos h]
theorem append_no {x : ByteArray} (h : l.appendE d x ≠ 0) : l.append d x = l := by unfold LogD.append; rw [if_neg h]
theorem InvA.append (h : InvA l d s) (x : ByteArray) : InvA (l.append d x) d s := by
  by_cases hE : l.appendE d x = 0
  · obtain ⟨w1, w2⟩ := append_zero hE
    obtain ⟨y1, y2, -⟩ := why_zero w1
    rw [append_ok hE]
    have hd : (l.recs ++ [x]).drop l.written = l.recs.drop l.written ++ [x] := List.drop_append_of_le_length h.wr
    have ht : (l.recs ++ [x]).take l.written = l.recs.take l.written := List.take_append_of_le_length h.wr
    refine ⟨h.ok, h.n4, h.w1, h.age1, h.turned, h.sp, h.go, ?_, ?_, fun y hy => ?_, ?_, h.last, h.sure, h.mid, h.stop, h.nodup, h.within, h.ends, h.old, h.older, h.other, h.w1s, h.more⟩
    · have := h.wr
      show l.written ≤ (l.recs ++ [x]).length
      rw [List.length_append]; omega
    · show _ = (l.recs ++ [x]).take l.written
      rw [ht]; exact h.recs
    · have hy' : y ∈ (l.recs ++ [x]).drop l.written := hy
      rw [hd] at hy'
      rcases List.mem_append.1 hy' with hy' | hy'
      · exact h.small y hy'
      · obtain rfl := List.mem_singleton.1 hy'; exact y2
    · show l.pages + needW (frameW ((l.recs ++ [x]).drop l.written)).size ≤ d.halfN
      rw [hd]
      unfold LogD.room at w2
      omega
  · rw [append_no hE]; exact h
theorem write_ok' (h : l.turned.size = 0) : l.writeE = 0 ∧ l.write = { l with pages := l.pages + needW (frameW (l.recs.drop l.written)).size, written := l.recs.length } ∧ l.writeD d = layD d l.age l.which l.pages (frameW (l.recs.drop l.written)) := by
  have hE : l.writeE = 0 := by unfold LogD.writeE; rw [if_neg (fun e => e h)]
  refine ⟨hE, ?_, ?_⟩
  · unfold LogD.write; rw [if_pos hE, frame_len]
  · unfold LogD.writeD; rw [if_pos hE]
theorem pg_same (h : d'.n = d.n) (a i : Nat) : pg d' a i = pg d a i := by unfold pg DiskD.halfN; rw [h]
theorem piece_leaf {age : Int} {num : Nat} {b : Bool} {x : ByteArray} (h1 : 1 ≤ age) (h2 : age < 1099511627776) (hn : num < 65536) (hx : x.size ≤ 234) :
    leafR (sealS (leafS age.toNat num b x)) num = some ⟨age, b, x⟩ ∧ frontA (sealS (leafS age.toNat num b x)) = age ∧ backA (sealS (leafS age.toNat num b x)) = age := by
  have e : ((age.toNat : Nat) : Int) = age := Int.toNat_of_nonneg (by omega)
  have r := leafR_seal (age := age.toNat) (b := b) (by omega) (by omega) hn hx
  obtain ⟨r1, r2⟩ := seal_ends (age := age.toNat) (num := num) (b := b) (s := x) (by omega) hn hx
  rw [e] at r r1 r2
  exact ⟨r, r1, r2⟩
theorem InvA.write (h : InvA l d s) (hA : l.age < 1099511627776) : InvA l.write (l.writeD d) s := by
  obtain ⟨-, e2, e3⟩ := write_ok' (d := d) h.turned
  rw [e2, e3]
  have hfit := h.fits
  have hw1 := h.w1
  have hage := h.age1
  have hsp := h.sp
  have hn2 := h.ok.n2
  have hsm := h.small
  generalize hrs : l.recs.drop l.written = rs at *
  generalize hN : needW (frameW rs).size = N at *
  have hlay : LayIs d (layD d l.age l.which l.pages (frameW rs)) l.age l.which l.pages (frameW rs) N := by
    unfold layD; rw [hN]; exact lay_is l.age (frameW rs) hw1 N hfit
  have hok' : (layD d l.age l.which l.pages (frameW rs)).Ok := by
    unfold layD
    generalize needW (frameW rs).size = K
    induction K with
    | zero => exact h.ok
    | succ K ih => exact writeD_ok ih _ _
  generalize layD d l.age l.which l.pages (frameW rs) = d' at *
  have hpg : ∀ a i, pg d' a i = pg d a i := fun a i => pg_same hlay.n a i
  have hH : d'.halfN = d.halfN := by unfold DiskD.halfN; rw [hlay.n]
  have hH512 : d.halfN ≤ 512 := by unfold DiskD.halfN; omega
  have hlow : ∀ i, i < l.pages → d'.rawD (pg d l.which i) = d.rawD (pg d l.which i) := fun i hi => hlay.rest _ fun t ht e => by
    obtain ⟨-, e5⟩ := pg_inj (d := d) hw1 hw1 (by omega) (by omega) e
    omega
  have hrlow : ∀ i, i < l.pages → rdR d' l.which i = rdR d l.which i := fun i hi => by
    unfold rdR; rw [hpg, hlow i hi]
  have hgo' : GoTo (rdR d' l.which) l.pages := goTo_congr (fun k hk => (hrlow k hk).symm) h.go
  have hst : ∀ i, i ≤ l.pages → stN (rdR d' l.which) i = stN (rdR d l.which) i := fun i hi => stN_congr fun k hk => hrlow k (by omega)
  have hnew : ∀ t, t < needW (frameW rs).size → rdR d' l.which (l.pages + t) = some ⟨l.age, decide (t = 0), pieceW (frameW rs) t⟩ := fun t ht => by
    rw [hN] at ht
    unfold rdR
    rw [hpg, hlay.raw t ht]
    exact (piece_leaf hage hA (by omega) (piece_size _ _)).1
  obtain ⟨g1, g2, g3, g4⟩ := laid_all hsm hgo' (by rw [hst _ (Nat.le_refl _)]; exact h.last) hnew
  rw [hN] at g1 g2 g3 g4
  rw [hst _ (Nat.le_refl _)] at g2
  refine ⟨hok', by rw [hlay.n]; exact h.n4, hw1, hage, h.turned, by show s ≤ l.pages + N; omega, g1, Nat.le_refl _, ?_, ?_, ?_, ?_, ?_, ?_, ?_, ?_, ?_, ?_, ?_, ?_, ?_, h.w1s, ?_⟩
  · show (stN (rdR d' l.which) (l.pages + N)).recs = l.recs.take l.recs.length
    rw [g2, h.recs, List.take_length, ← hrs, List.take_append_drop]
  · intro x hx
    have hx' : x ∈ l.recs.drop l.recs.length := hx
    rw [List.drop_length] at hx'; cases hx'
  · show l.pages + N + needW (frameW (l.recs.drop l.recs.length)).size ≤ d'.halfN
    rw [List.drop_length, need_zero, hH]
    exact hfit
  · show (stN (rdR d' l.which) (l.pages + N)).last < l.age ∨ _
    by_cases hN1 : 1 ≤ N
    · exact .inr (g3 hN1)
    · have e0 : N = 0 := by omega
      subst e0
      show (stN (rdR d' l.which) l.pages).last < l.age ∨ ((stN (rdR d' l.which) l.pages).last = l.age ∧ (stN (rdR d' l.which) l.pages).left = _)
      rw [hst _ (Nat.le_refl _)]
      exact h.last
  · show (stN (rdR d' l.which) s).recs.length = l.sure
    rw [hst s hsp]; exact h.sure
  · intro j h1 h2
    have h2' : j ≤ l.pages + N := h2
    show (stN (rdR d' l.which) j).last = l.age
    rcases Nat.lt_or_ge l.pages j with e | e
    · have := g4 (j - l.pages) (by omega) (by omega)
      rw [show l.pages + (j - l.pages) = j by omega] at this
      exact this
    · rw [hst j e]; exact h.mid j h1 e
  · have hK : rdK d' l.which = rdK d l.which := by funext i; unfold rdK; rw [hpg, hlay.K]
    show s = d'.halfN ∨ ¬ Goes (rdK d' l.which) s
    rw [hH, hK]; exact h.stop
  · rw [hlay.W]
    refine List.nodup_append.2 ⟨h.nodup, ?_, fun a ha b hb e => ?_⟩
    · refine List.pairwise_map.2 (List.Pairwise.imp_of_mem ?_ List.nodup_range)
      intro a b ha hb hab e
      obtain ⟨-, e5⟩ := pg_inj (d := d) hw1 hw1 (by have := List.mem_range.1 ha; omega) (by have := List.mem_range.1 hb; omega) e
      omega
    · obtain ⟨w, hw, rfl⟩ := List.mem_map.1 ha
      obtain ⟨t, ht, rfl⟩ := List.mem_map.1 hb
      obtain ⟨i, i1, i2, i3⟩ := h.within w hw
      rw [i3] at e
      have := List.mem_range.1 ht
      obtain ⟨-, e5⟩ := pg_inj (d := d) hw1 hw1 (by omega) (by omega) e
      omega
  · intro w hw
    have hm : w.1 ∈ d'.W.map (·.1) := List.mem_map.2 ⟨w, hw, rfl⟩
    rw [hlay.W] at hm
    show ∃ i, s ≤ i ∧ i < l.pages + N ∧ w.1 = pg d' l.which i
    rcases List.mem_append.1 hm with hm | hm
    · obtain ⟨v, hv, e⟩ := List.mem_map.1 hm
      obtain ⟨i, i1, i2, i3⟩ := h.within v hv
      exact ⟨i, i1, by omega, by rw [hpg, ← i3]; exact e.symm⟩
    · obtain ⟨t, ht, e⟩ := List.mem_map.1 hm
      have := List.mem_range.1 ht
      exact ⟨l.pages + t, by omega, by omega, by rw [hpg]; exact e.symm⟩
  · intro i h1 h2
    have h2' : i < l.pages + N := h2
    show frontA (d'.rawD (pg d' l.which i)) = l.age ∧ backA (d'.rawD (pg d' l.which i)) = l.age
    rw [hpg]
    rcases Nat.lt_or_ge i l.pages with e | e
    · rw [hlow i e]; exact h.ends i h1 e
    · have hr := hlay.raw (i - l.pages) (by omega)
      rw [show l.pages + (i - l.pages) = i by omega] at hr
      rw [hr]
      exact (piece_leaf hage hA (by omega) (piece_size _ _)).2
  · intro p hp
    rw [hlay.n] at hp
    rw [hlay.K]; exact h.old p hp
  · intro p hp hno
    rw [hlay.n] at hp
    rw [hlay.K]
    exact h.older p hp fun i hi e => hno i hi (by rw [hpg]; exact e)
  · show Wins l.which (stN (rdR d' l.which) s) (scanN (rdK d' (1 - l.which)) d'.halfN 0 scan0)
    have hK : rdK d' (1 - l.which) = rdK d (1 - l.which) := by funext i; unfold rdK; rw [hpg, hlay.K]
    rw [hst s hsp, hK, hH]; exact h.other
  · intro hlt
    have hlt' : s < l.pages + N := hlt
    show l.sure < l.recs.length
    have h1 := h.sure_le
    have h2 := h.wr
    rcases Nat.lt_or_ge s l.pages with e | e
    · have := h.more e; omega
    · have hN1 : 1 ≤ N := by omega
      have hne : rs ≠ [] := fun e => by
        rw [e, need_zero] at hN; omega
      have hl : rs.length = l.recs.length - l.written := by rw [← hrs, List.length_drop]
      have := List.length_pos_iff.2 hne
      omega
theorem sync_K (d : DiskD) (p : Int) (hb : d.hasB p = true) : d.syncD.K p = d.rawD p := by
  rw [DiskD.rawD, if_pos hb]; exact syncK_last d.W d.K p
theorem sync_no (h : l.turned.size = 0) : l.sync = { l with sure := l.written } := by unfold LogD.sync; rw [if_neg (fun e => e h)]
theorem InvA.sync (h : InvA l d s) : InvA l.sync d.syncD l.pages := by
  rw [sync_no h.turned]
  have hpH := h.pH
  have hw1 := h.w1
  have hsp := h.sp
  have hR : rdR d.syncD l.which = rdR d l.which := by funext i; unfold rdR; rw [pg_same (show d.syncD.n = d.n from rfl), sync_raw]
  have hK : ∀ a, a ≤ 1 → ∀ i, i < d.halfN → rdK d.syncD a i = rdR d a i := fun a ha i hi => by
    unfold rdK rdR; rw [pg_same (show d.syncD.n = d.n from rfl), sync_K d _ (pg_has ha hi)]
  have hKo : ∀ i, i < d.halfN → rdK d.syncD (1 - l.which) i = rdK d (1 - l.which) i := fun i hi => by
    rw [hK _ (by omega) i hi]
    unfold rdK rdR; rw [h.raw_K (pg_has (by omega) hi) (h.other_no hi)]
  have hrl : (stN (rdR d l.which) l.pages).recs.length = l.written := by rw [h.recs, List.length_take, Nat.min_eq_left h.wr]
  refine ⟨syncD_ok h.ok, h.n4, hw1, h.age1, h.turned, Nat.le_refl _, by rw [hR]; exact h.go, h.wr, by rw [hR]; exact h.recs, h.small, h.fits, by rw [hR]; exact h.last, ?_, ?_, ?_, ?_, ?_, ?_, ?_, ?_, ?_, ?_, fun h => absurd h (Nat.lt_irrefl _)⟩
  · show (stN (rdR d.syncD l.which) l.pages).recs.length = l.written
    rw [hR]; exact hrl
  · intro j h1 h2
    have h2' : j ≤ l.pages := h2
    omega
  · show l.pages = d.halfN ∨ ¬ Goes (rdK d.syncD l.which) l.pages
    rcases Nat.lt_or_ge l.pages d.halfN with e | e
    · right
      refine h.halt (rd' := rdK d.syncD l.which) hsp (Nat.le_refl _) e (fun i hi => hK _ hw1 i (by omega)) ?_
      rw [hK _ hw1 _ e]
      unfold rdK rdR
      rw [h.raw_K (pg_has hw1 e) (h.high_no (Nat.le_refl _) e)]
    · left; omega
  · exact List.nodup_nil
  · intro w hw; cases hw
  · intro i h1 h2
    have h2' : i < l.pages := h2
    omega
  · intro p hp
    have hp' : p < d.n := hp
    show frontA (d.syncD.K p) ≤ l.age ∧ backA (d.syncD.K p) ≤ l.age
    rw [sync_K d p (hasB_iff.2 ⟨by omega, by omega⟩)]
    exact h.raw_le p hp
  · intro p hp hno
    have hp' : p < d.n := hp
    have hb : d.hasB p = true := hasB_iff.2 ⟨by omega, by omega⟩
    show frontA (d.syncD.K p) < l.age ∧ backA (d.syncD.K p) < l.age
    have hno' : ∀ i, i < l.pages → (p : Int) ≠ pg d l.which i := hno
    rw [sync_K d p hb, h.raw_K hb fun i _ h2 => hno' i h2]
    exact h.older p hp fun i hi => hno' i (by omega)
  · show Wins l.which (stN (rdR d.syncD l.which) l.pages) (scanN (rdK d.syncD (1 - l.which)) d.halfN 0 scan0)
    rw [hR, scan_congr hKo]
    exact h.other.grow h.go hsp
  · intro e
    have := h.w1s e
    have := h.sure_le
    show 1 ≤ l.written
    omega
end Bw
namespace Bw
set_option linter.unusedVariables false
variable {l : LogD} {d d' : DiskD} {s i j k m : Nat} {F : List Int}
structure InvB (l : LogD) (d : DiskD) : Prop where
  ok : d.Ok
  n4 : 4 ≤ d.n
  w1 : l.which ≤ 1
  age2 : 2 ≤ l.age
  t1 : 1 ≤ l.turned.size
  t2 : l.turned.size ≤ 100000
  fit : needW (frameW [l.turned]).size ≤ d.halfN
  pH : l.pages ≤ d.halfN
  go : GoTo (rdK d l.which) l.pages
  recs : (stN (rdK d l.which) l.pages).recs = l.recs
  stop : l.pages = d.halfN ∨ ¬ Goes (rdK d l.which) l.pages
  wr : l.written = l.recs.length
  sure : l.sure = l.recs.length
  w1s : l.which = 1 → 1 ≤ l.sure
  nodup : (d.W.map (·.1)).Nodup
  within : ∀ x ∈ d.W, ∃ i, i < needW (frameW [l.turned]).size ∧ x.1 = pg d (1 - l.which) i
  new : ∀ i, i < needW (frameW [l.turned]).size → d.rawD (pg d (1 - l.which) i) = sealS (leafS l.age.toNat i (decide (i = 0)) (pieceW (frameW [l.turned]) i))
  old : ∀ p : Nat, p < d.n → frontA (d.K p) < l.age ∧ backA (d.K p) < l.age
  other : Wins l.which (stN (rdK d l.which) l.pages) (scanN (rdK d (1 - l.which)) d.halfN 0 scan0)
theorem one_frame (x : ByteArray) : (frameW [x]).size = 3 + x.size := by
  rw [frameW, size_str, frame_cons, List.length_append, List.length_append, toLE_length, lst_length]; rfl
theorem turn_zero {x : ByteArray} (h : l.turnE d x = 0) : l.why x = 0 ∧ l.recs.length ≤ l.sure ∧ needW (frameW [x]).size ≤ d.halfN := by
  unfold LogD.turnE at h
  by_cases h1 : l.why x = 0
  · rw [if_neg (fun e => e h1)] at h
    by_cases h2 : l.sure < l.recs.length
    · rw [if_pos h2] at h; cases h
    · rw [if_neg h2] at h
      by_cases h3 : d.halfN < needW (frameL [x]).length
      · rw [if_pos h3] at h; cases h
      · rw [frame_len] at h3; exact ⟨h1, by omega, by omega⟩
  · rw [if_pos h1] at h; exact absurd h h1
theorem turn_ok {x : ByteArray} (h : l.turnE d x = 0) : l.turn d x = { l with age := l.age + 1, turned := x } ∧ l.turnD d x = layD d (l.age + 1) (1 - l.which) 0 (frameW [x]) := by
  unfold LogD.turn LogD.turnD; rw [if_pos h, if_pos h]; exact ⟨rfl, rfl⟩
theorem turn_no {x : ByteArray} (h : l.turnE d x ≠ 0) : l.turn d x = l ∧ l.turnD d x = d := by
  unfold LogD.turn LogD.turnD; rw [if_neg h, if_neg h]; exact ⟨rfl, rfl⟩
theorem InvA.turn (h : InvA l d s) {x : ByteArray} (hE : l.turnE d x = 0) : InvB (l.turn d x) (l.turnD d x) := by
  obtain ⟨t1, t2, t3⟩ := turn_zero hE
  obtain ⟨y1, y2, -⟩ := why_zero t1
  obtain ⟨e1, e2⟩ := turn_ok hE
  rw [e1, e2]
  have hw1 := h.w1
  have hsl := h.sure_le
  have hwr := h.wr
  have hage := h.age1
  have hsp : s = l.pages := by
    have := h.sp
    rcases Nat.lt_or_ge s l.pages with e | e
    · have := h.more e; omega
    · omega
  subst hsp
  have hW : ∀ w ∈ d.W, False := fun w hw => by
    obtain ⟨i, i1, i2, -⟩ := h.within w hw
    omega
  have hWm : d.W.map (·.1) = [] := by
    cases hd : d.W with
    | nil => rfl
    | cons w W => exact (hW w (by rw [hd]; exact List.mem_cons_self)).elim
  generalize hN : needW (frameW [x]).size = N at *
  have hlay : LayIs d (layD d (l.age + 1) (1 - l.which) 0 (frameW [x])) (l.age + 1) (1 - l.which) 0 (frameW [x]) N := by
    unfold layD; rw [hN]; exact lay_is (l.age + 1) (frameW [x]) (by omega) N (by omega)
  have hok' : (layD d (l.age + 1) (1 - l.which) 0 (frameW [x])).Ok := by
    unfold layD
    generalize needW (frameW [x]).size = K
    induction K with
    | zero => exact h.ok
    | succ K ih => exact writeD_ok ih _ _
  generalize layD d (l.age + 1) (1 - l.which) 0 (frameW [x]) = d' at *
  have hpg : ∀ a i, pg d' a i = pg d a i := fun a i => pg_same hlay.n a i
  have hH : d'.halfN = d.halfN := by unfold DiskD.halfN; rw [hlay.n]
  have hK : ∀ a, rdK d' a = rdK d a := fun a => by funext i; unfold rdK; rw [hpg, hlay.K]
  have hKR : ∀ i, i < l.pages → rdR d l.which i = rdK d l.which i := fun i hi => (h.rdK_low hi).symm
  refine ⟨hok', by rw [hlay.n]; exact h.n4, hw1, by show 2 ≤ l.age + 1; omega, y1, y2, ?_, by rw [hH]; exact h.pH, ?_, ?_, ?_, by show l.written = l.recs.length; omega, by show l.sure = l.recs.length; omega, h.w1s, ?_, ?_, ?_, ?_, ?_⟩
  · show needW (frameW [x]).size ≤ d'.halfN
    rw [hN, hH]; exact t3
  · show GoTo (rdK d' l.which) l.pages
    rw [hK]; exact goTo_congr hKR h.go
  · show (stN (rdK d' l.which) l.pages).recs = l.recs
    rw [hK, ← stN_congr hKR, h.recs, List.take_of_length_le (by omega)]
  · show l.pages = d'.halfN ∨ ¬ Goes (rdK d' l.which) l.pages
    rw [hK, hH]; exact h.stop
  · rw [hlay.W, hWm, List.nil_append]
    refine List.pairwise_map.2 (List.Pairwise.imp_of_mem ?_ List.nodup_range)
    intro a b ha hb hab e
    obtain ⟨-, e5⟩ := pg_inj (d := d) (h := 1 - l.which) (by omega) (by omega) (by have := List.mem_range.1 ha; omega) (by have := List.mem_range.1 hb; omega) e
    omega
  · intro w hw
    have hm : w.1 ∈ d'.W.map (·.1) := List.mem_map.2 ⟨w, hw, rfl⟩
    rw [hlay.W, hWm, List.nil_append] at hm
    obtain ⟨t, ht, e⟩ := List.mem_map.1 hm
    have := List.mem_range.1 ht
    exact ⟨t, by show t < needW (frameW [x]).size; omega, by show w.1 = pg d' (1 - l.which) t; rw [hpg, ← e, Nat.zero_add]⟩
  · intro i hi
    have hi' : i < N := by rw [← hN]; exact hi
    have := hlay.raw i hi'
    rw [Nat.zero_add] at this
    show d'.rawD (pg d' (1 - l.which) i) = _
    rw [hpg]; exact this
  · intro p hp
    rw [hlay.n] at hp
    have := h.old p hp
    show frontA (d'.K p) < l.age + 1 ∧ backA (d'.K p) < l.age + 1
    rw [hlay.K]; omega
  · show Wins l.which (stN (rdK d' l.which) l.pages) (scanN (rdK d' (1 - l.which)) d'.halfN 0 scan0)
    rw [hK, hK, hH, ← stN_congr hKR]; exact h.other
namespace InvB
theorem need1 (h : InvB l d) : 1 ≤ needW (frameW [l.turned]).size := by
  rw [one_frame]; unfold needW; omega
theorem raw_K (h : InvB l d) {p : Int} (hb : d.hasB p = true) (hno : ∀ i, i < needW (frameW [l.turned]).size → p ≠ pg d (1 - l.which) i) : d.rawD p = d.K p :=
  raw_kept hb fun w hw e => by
    obtain ⟨i, h2, h3⟩ := h.within w hw
    exact hno i h2 (e.symm.trans h3)
theorem crash_K (h : InvB l d) {p : Int} (hb : d.hasB p = true) (hno : ∀ i, i < needW (frameW [l.turned]).size → p ≠ pg d (1 - l.which) i) : (d.crashD F).rawD p = d.K p :=
  crash_kept hb fun w hw e => by
    obtain ⟨i, h2, h3⟩ := h.within w hw
    exact hno i h2 (e.symm.trans h3)
theorem this_no (h : InvB l d) (hH : i < d.halfN) : ∀ j, j < needW (frameW [l.turned]).size → pg d l.which i ≠ pg d (1 - l.which) j := fun j h2 e => by
  have := h.fit
  have := h.w1
  obtain ⟨h4, -⟩ := pg_inj (d := d) h.w1 (by omega) hH (by omega) e
  omega
theorem high_no (h : InvB l d) (hi : needW (frameW [l.turned]).size ≤ i) (hH : i < d.halfN) : ∀ j, j < needW (frameW [l.turned]).size → pg d (1 - l.which) i ≠ pg d (1 - l.which) j := fun j h2 e => by
  obtain ⟨-, h4⟩ := pg_inj (d := d) (h := 1 - l.which) (by omega) (by omega) hH (by omega) e
  omega
theorem leaf (h : InvB l d) (hA : l.age < 1099511627776) (hi : i < needW (frameW [l.turned]).size) :
    rdR d (1 - l.which) i = some ⟨l.age, decide (i = 0), pieceW (frameW [l.turned]) i⟩ ∧ frontA (d.rawD (pg d (1 - l.which) i)) = l.age ∧ backA (d.rawD (pg d (1 - l.which) i)) = l.age := by
  have := h.fit
  have := h.ok.n2
  have hH : d.halfN ≤ 512 := by unfold DiskD.halfN; omega
  have h2 := h.age2
  unfold rdR
  rw [h.new i hi]
  exact piece_leaf (by omega) hA (by omega) (piece_size _ _)
theorem raw_le (h : InvB l d) (hA : l.age < 1099511627776) (p : Nat) (hp : p < d.n) : frontA (d.rawD p) ≤ l.age ∧ backA (d.rawD p) ≤ l.age := by
  have hb : d.hasB p = true := hasB_iff.2 ⟨by omega, by omega⟩
  by_cases e : ∃ i, i < needW (frameW [l.turned]).size ∧ (p : Int) = pg d (1 - l.which) i
  · obtain ⟨i, h2, h3⟩ := e
    obtain ⟨-, e1, e2⟩ := h.leaf hA h2
    rw [h3]; omega
  · rw [h.raw_K hb fun i h2 h3 => e ⟨i, h2, h3⟩]
    have := h.old p hp
    omega
theorem crash_le (h : InvB l d) (hA : l.age < 1099511627776) (p : Nat) (hp : p < d.n) : frontA ((d.crashD F).rawD p) ≤ l.age ∧ backA ((d.crashD F).rawD p) ≤ l.age := by
  have hb : d.hasB p = true := hasB_iff.2 ⟨by omega, by omega⟩
  have h1 := h.raw_le hA p hp
  have h2 := h.old p hp
  rcases crash_raw (F := F) hb h.nodup with e | e | e
  · rw [e]; omega
  · rw [e]; exact h1
  · obtain ⟨t1, t2⟩ := torn_ends (raw_size h.ok hb) (h.ok.K1 p)
    rw [e, t1, t2]; omega
/-- Where no page is new, it stops behind pages of the log's age. -/
theorem halt (h : InvB l d) {rd' : Nat → Option LeafW} {a : Nat} (ha : a ≤ 1) (hm : m < d.halfN) (hl : l.age ≤ (stN rd' m).last) (hr : rd' m = rdK d a m) : ¬ Goes rd' m := by
  rintro ⟨lf, g1, g2⟩
  rw [hr] at g1
  obtain ⟨p, hp, hpe⟩ := pg_nat d a m ha hm
  have e1 : leafR (d.K (pg d a m)) m = some lf := g1
  obtain ⟨e2, -, -⟩ := leafR_ends (h.ok.K1 _) e1
  have e3 := (h.old p hp).1
  rw [← hpe, e2] at e3
  unfold scanStop at g2
  have : lf.age < (stN rd' m).last := by omega
  simp [this] at g2
end InvB
theorem scan_small {H : Nat} {rd : Nat → Option LeafW} {B : Int} (hb : ∀ i lf, i < H → rd i = some lf → lf.age < B) (hr : (scanN rd H 0 scan0).recs ≠ []) : (scanN rd H 0 scan0).age < B := by
  obtain ⟨j, j1, j2, j3⟩ := scan_ex rd H
  rw [scan_is j1 j2 j3] at hr ⊢
  cases j with
  | zero => exact absurd rfl hr
  | succ j =>
    obtain ⟨lf, l1, -⟩ := j2 0 (by omega)
    rw [st_age1 j2 (by omega) l1]
    exact hb 0 lf (by omega) l1
theorem InvB.rdK_small (h : InvB l d) {a : Nat} (ha : a ≤ 1) : ∀ i lf, i < d.halfN → rdK d a i = some lf → lf.age < l.age := fun i lf hi hr => by
  obtain ⟨p, hp, hpe⟩ := pg_nat d a i ha hi
  have e1 : leafR (d.K (pg d a i)) i = some lf := hr
  obtain ⟨e2, -, -⟩ := leafR_ends (h.ok.K1 _) e1
  have e3 := (h.old p hp).1
  rw [← hpe, e2] at e3
  exact e3
theorem sync_yes (h : 1 ≤ l.turned.size) : l.sync = { l with which := 1 - l.which, recs := [l.turned], written := 1, pages := needW (frameW [l.turned]).size, turned := ByteArray.empty, sure := 1 } := by
  unfold LogD.sync; rw [if_pos (by omega), frame_len]
/-- All of a turn is there. -/
theorem InvB.turned_go (h : InvB l d) (hA : l.age < 1099511627776) {rd' : Nat → Option LeafW} (hr : ∀ i, i < needW (frameW [l.turned]).size → rd' i = some ⟨l.age, decide (i = 0), pieceW (frameW [l.turned]) i⟩) :
    GoTo rd' (needW (frameW [l.turned]).size) ∧ (stN rd' (needW (frameW [l.turned]).size)).recs = [l.turned] ∧ (stN rd' (needW (frameW [l.turned]).size)).last = l.age ∧ (stN rd' (needW (frameW [l.turned]).size)).left = ByteArray.empty ∧ (stN rd' (needW (frameW [l.turned]).size)).age = l.age := by
  have hN := h.need1
  have h2 := h.age2
  have ht := h.t2
  obtain ⟨g1, g2, g3, -⟩ := laid_all (rd := rd') (p := 0) (age := l.age) (rs := [l.turned]) (fun x hx => by obtain rfl := List.mem_singleton.1 hx; exact ht) (fun i hi => absurd hi (by omega)) (.inl (by show (0 : Int) < l.age; omega)) (fun t ht => by rw [Nat.zero_add]; exact hr t ht)
  rw [Nat.zero_add] at g1 g2 g3
  obtain ⟨g3, g4⟩ := g3 hN
  exact ⟨g1, g2, g3, g4, st_age1 g1 hN (hr 0 (by omega))⟩
theorem InvB.sync (h : InvB l d) (hA : l.age < 1099511627776) : InvA l.sync d.syncD (needW (frameW [l.turned]).size) := by
  rw [sync_yes h.t1]
  have hw1 := h.w1
  have h2 := h.age2
  have hfit := h.fit
  have hN1 := h.need1
  have hR : rdR d.syncD (1 - l.which) = rdR d (1 - l.which) := by funext i; unfold rdR; rw [pg_same (show d.syncD.n = d.n from rfl), sync_raw]
  have hKr : ∀ a, a ≤ 1 → ∀ i, i < d.halfN → rdK d.syncD a i = rdR d a i := fun a ha i hi => by
    unfold rdK rdR; rw [pg_same (show d.syncD.n = d.n from rfl), sync_K d _ (pg_has ha hi)]
  obtain ⟨g1, g2, g3, g4, g5⟩ := h.turned_go hA (rd' := rdR d (1 - l.which)) fun i hi => (h.leaf hA hi).1
  refine ⟨syncD_ok h.ok, h.n4, by show 1 - l.which ≤ 1; omega, by show 1 ≤ l.age; omega, rfl, Nat.le_refl _, by rw [hR]; exact g1, Nat.le_refl _, by rw [hR]; exact g2, (fun x hx => by cases hx), by show needW (frameW [l.turned]).size + needW (frameW []).size ≤ d.halfN; exact hfit, by rw [hR]; exact .inr ⟨g3, g4⟩, ?_, ?_, ?_, List.nodup_nil, (fun w hw => by cases hw), ?_, ?_, ?_, ?_, fun _ => Nat.le_refl 1, fun h => absurd h (Nat.lt_irrefl _)⟩
  · show (stN (rdR d.syncD (1 - l.which)) (needW (frameW [l.turned]).size)).recs.length = 1
    rw [hR, g2]; rfl
  · intro j h1 h2
    have h2' : j ≤ needW (frameW [l.turned]).size := h2
    omega
  · show needW (frameW [l.turned]).size = d.halfN ∨ ¬ Goes (rdK d.syncD (1 - l.which)) (needW (frameW [l.turned]).size)
    rcases Nat.lt_or_ge (needW (frameW [l.turned]).size) d.halfN with e | e
    · right
      refine h.halt (a := 1 - l.which) (by omega) e ?_ ?_
      · rw [stN_congr (rd' := rdR d (1 - l.which)) fun k hk => hKr _ (by omega) k (by omega), g3]; exact Int.le_refl _
      · rw [hKr _ (by omega) _ e]
        unfold rdK rdR
        rw [h.raw_K (pg_has (by omega) e) (h.high_no (Nat.le_refl _) e)]
    · left; omega
  · intro i h1 h2
    have h2' : i < needW (frameW [l.turned]).size := h2
    omega
  · intro p hp
    have hp' : p < d.n := hp
    show frontA (d.syncD.K p) ≤ l.age ∧ backA (d.syncD.K p) ≤ l.age
    rw [sync_K d p (hasB_iff.2 ⟨by omega, by omega⟩)]
    exact h.raw_le hA p hp
  · intro p hp hno
    have hp' : p < d.n := hp
    have hb : d.hasB p = true := hasB_iff.2 ⟨by omega, by omega⟩
    show frontA (d.syncD.K p) < l.age ∧ backA (d.syncD.K p) < l.age
    rw [sync_K d p hb, h.raw_K hb hno]
    exact h.old p hp
  · show Wins (1 - l.which) (stN (rdR d.syncD (1 - l.which)) (needW (frameW [l.turned]).size)) (scanN (rdK d.syncD (1 - (1 - l.which))) d.halfN 0 scan0)
    have e1 : 1 - (1 - l.which) = l.which := by omega
    have e2 : scanN (rdK d.syncD l.which) d.halfN 0 scan0 = scanN (rdK d l.which) d.halfN 0 scan0 := scan_congr fun k hk => by
      rw [hKr _ hw1 k hk]
      unfold rdK rdR
      rw [h.raw_K (pg_has hw1 hk) (h.this_no hk)]
    rw [e1, e2, hR]
    by_cases hr : (scanN (rdK d l.which) d.halfN 0 scan0).recs = []
    · exact .inl hr
    · have := scan_small (h.rdK_small hw1) hr
      refine .inr ⟨by rw [g2]; simp, ?_⟩
      rw [g5]
      split <;> omega
theorem least_ex {P : Nat → Prop} : ∀ N, (∀ i, i < N → P i) ∨ ∃ m, m < N ∧ ¬ P m ∧ ∀ i, i < m → P i
  | 0 => .inl fun i hi => absurd hi (by omega)
  | N + 1 => by
    rcases least_ex (P := P) N with h | ⟨m, h1, h2, h3⟩
    · by_cases e : P N
      · refine .inl fun i hi => ?_
        by_cases e2 : i = N
        · rw [e2]; exact e
        · exact h i (by omega)
      · exact .inr ⟨N, by omega, e, h⟩
    · exact .inr ⟨m, by omega, h2, h3⟩
/-- What a crash leaves behind a turn, and Open finds. -/
structure CrashB (l : LogD) (d' : DiskD) : Prop where
  openE : openLE d' = 0
  inv : InvA (openL d') d' (openL d').pages
  age_le : (openL d').age ≤ l.age + 1
  which : ((openL d').which = l.which ∧ (openL d').recs = l.recs) ∨ ((openL d').which = 1 - l.which ∧ (openL d').recs = [l.turned])
theorem InvB.crash (h : InvB l d) (F : List Int) (hA : l.age < 1099511627776) : CrashB l (d.crashD F) := by
  have h2 := h.age2
  have hw1 := h.w1
  have hfit := h.fit
  have hN1 := h.need1
  have ht1 := h.t1
  have ht2 := h.t2
  have hok' : (d.crashD F).Ok := crashD_ok h.ok F
  have hM : maxAge (d.crashD F) d.n ≤ l.age := maxAge_le (by omega) d.n fun p hp => h.crash_le hA p hp
  have hE : openLE (d.crashD F) = 0 := openLE_zero h.n4 hA hM
  have hI := open_inv hok' h.n4 (show (d.crashD F).W = [] from rfl)
  have hag : (openL (d.crashD F)).age ≤ l.age + 1 := by
    show maxAge (d.crashD F) d.n + 1 ≤ l.age + 1; omega
  -- this half
  have hme : (d.crashD F).scan (l.which : Int) = stN (rdK d l.which) l.pages := by
    rw [scan_eq (d := d.crashD F) hw1]
    rw [scan_congr (rd' := rdK d l.which) fun k hk => by
      show leafR ((d.crashD F).rawD (pg d l.which k)) k = leafR (d.K (pg d l.which k)) k
      rw [h.crash_K (pg_has hw1 hk) (h.this_no hk)]]
    exact scan_is h.pH h.go h.stop
  have hmw : l.which = 1 → ((d.crashD F).scan (l.which : Int)).recs ≠ [] := fun e => by
    rw [hme, h.recs]
    have := h.w1s e
    have := h.sure
    intro h0; rw [h0] at this; simp at this; omega
  -- where the other half does not win
  have hlose : Wins l.which ((d.crashD F).scan (l.which : Int)) ((d.crashD F).scan ((1 - l.which : Nat) : Int)) → CrashB l (d.crashD F) := fun hw => by
    obtain ⟨b1, b2, b3⟩ := best_which (d := d.crashD F) hok' hw1 hmw hw
    refine ⟨hE, hI, hag, .inl ⟨b1, ?_⟩⟩
    have hb : (d.crashD F).best.recs = l.recs := by rw [b2, hme, h.recs]
    exact hb
  have hoth : ∀ i, i < d.halfN → (d.crashD F).rawD (pg d (1 - l.which) i) = d.K (pg d (1 - l.which) i) ∨ (d.crashD F).rawD (pg d (1 - l.which) i) = d.rawD (pg d (1 - l.which) i) ∨ rdR (d.crashD F) (1 - l.which) i = none := fun i hi => by
    have hb : d.hasB (pg d (1 - l.which) i) = true := pg_has (by omega) hi
    rcases Nat.lt_or_ge i (needW (frameW [l.turned]).size) with e | e
    · rcases crash_raw (F := F) hb h.nodup with e1 | e1 | e1
      · exact .inl e1
      · exact .inr (.inl e1)
      · refine .inr (.inr ?_)
        show leafR ((d.crashD F).rawD (pg d (1 - l.which) i)) i = none
        obtain ⟨-, f1, -⟩ := h.leaf hA e
        obtain ⟨p, hp, hpe⟩ := pg_nat d (1 - l.which) i (by omega) hi
        have e3 := (h.old p hp).2
        rw [← hpe] at e3
        rw [e1, leafR_torn (raw_size h.ok hb) (h.ok.K1 _) (by omega)]
    · exact .inl (h.crash_K hb (h.high_no e hi))
  have hrdK : ∀ i, (d.crashD F).rawD (pg d (1 - l.which) i) = d.K (pg d (1 - l.which) i) → rdR (d.crashD F) (1 - l.which) i = rdK d (1 - l.which) i := fun i e => by
    show leafR ((d.crashD F).rawD (pg d (1 - l.which) i)) i = leafR (d.K (pg d (1 - l.which) i)) i
    rw [e]
  have hrdR : ∀ i, i < needW (frameW [l.turned]).size → (d.crashD F).rawD (pg d (1 - l.which) i) = d.rawD (pg d (1 - l.which) i) → rdR (d.crashD F) (1 - l.which) i = some ⟨l.age, decide (i = 0), pieceW (frameW [l.turned]) i⟩ := fun i hi e => by
    have h1 := (h.leaf hA hi).1
    have h3 : leafR (d.rawD (pg d (1 - l.which) i)) i = some ⟨l.age, decide (i = 0), pieceW (frameW [l.turned]) i⟩ := h1
    show leafR ((d.crashD F).rawD (pg d (1 - l.which) i)) i = _
    rw [e, h3]
  rcases least_ex (P := fun i => rdR (d.crashD F) (1 - l.which) i = some ⟨l.age, decide (i = 0), pieceW (frameW [l.turned]) i⟩) (needW (frameW [l.turned]).size) with hall | ⟨m, m1, m2, m3⟩
  · -- all of the turn
    obtain ⟨g1, g2, g3, g4, g5⟩ := h.turned_go hA hall
    have hsc : (d.crashD F).scan ((1 - l.which : Nat) : Int) = stN (rdR (d.crashD F) (1 - l.which)) (needW (frameW [l.turned]).size) := by
      rw [scan_eq (d := d.crashD F) (by omega)]
      refine scan_is hfit g1 ?_
      rcases Nat.lt_or_ge (needW (frameW [l.turned]).size) d.halfN with e | e
      · right
        refine h.halt (a := 1 - l.which) (by omega) e (by rw [g3]; exact Int.le_refl _) (hrdK _ ?_)
        exact h.crash_K (pg_has (by omega) e) (h.high_no (Nat.le_refl _) e)
      · left
        show needW (frameW [l.turned]).size = d.halfN
        omega
    have e1 : 1 - (1 - l.which) = l.which := by omega
    obtain ⟨b1, b2, b3⟩ := best_which (d := d.crashD F) hok' (w := 1 - l.which) (by omega) (fun _ => by rw [hsc, g2]; simp) (by
      rw [e1, hsc, hme]
      by_cases hr : (stN (rdK d l.which) l.pages).recs = []
      · exact .inl hr
      · have hsm : (stN (rdK d l.which) l.pages).age < l.age := by
          have h5 := scan_is h.pH h.go h.stop
          rw [← h5] at hr ⊢
          exact scan_small (h.rdK_small hw1) hr
        refine .inr ⟨by rw [g2]; simp, ?_⟩
        rw [g5]
        split <;> omega)
    refine ⟨hE, hI, hag, .inr ⟨b1, ?_⟩⟩
    have hb : (d.crashD F).best.recs = [l.turned] := by rw [b2, hsc, g2]
    exact hb
  · refine hlose ?_
    have hmH : m < d.halfN := by omega
    by_cases hm0 : m = 0
    · -- its first page is not there
      subst hm0
      obtain ⟨j, j1, j2, j3, j4⟩ := scan_rd (d := d.crashD F) (h := 1 - l.which) (by omega)
      have j1' : j ≤ d.halfN := j1
      rcases hoth 0 hmH with e | e | e
      · have hag0 : ∀ t, t ≤ j → ∀ i, i < t → rdR (d.crashD F) (1 - l.which) i = rdK d (1 - l.which) i := by
          intro t
          induction t with
          | zero => exact fun _ i hi => absurd hi (by omega)
          | succ t ih =>
            intro ht
            have hih := ih (by omega)
            have hnew : rdR (d.crashD F) (1 - l.which) t = rdK d (1 - l.which) t := by
              by_cases ht0 : t = 0
              · subst ht0; exact hrdK 0 e
              · have hg := j2 t (by omega)
                rcases hoth t (by omega) with e1 | e1 | e1
                · exact hrdK t e1
                · rcases Nat.lt_or_ge t (needW (frameW [l.turned]).size) with e2 | e2
                  · exfalso
                    have h5 := hrdR t e2 e1
                    obtain ⟨lf, q1, q2⟩ := hg
                    rw [h5] at q1
                    injection q1 with q1
                    subst q1
                    obtain ⟨lf2, q3, -⟩ := j2 (t - 1) (by omega)
                    have q4 := st_last (n := t - 1) (j2.le (by omega)) q3
                    rw [show t - 1 + 1 = t by omega] at q4
                    rw [hih (t - 1) (by omega)] at q3
                    have q5 := h.rdK_small (a := 1 - l.which) (by omega) (t - 1) lf2 (by omega) q3
                    unfold scanStop at q2
                    rw [q4] at q2
                    simp [ht0, q5] at q2
                  · exact hrdK t (h.crash_K (pg_has (by omega) (by omega)) (h.high_no e2 (by omega)))
                · exfalso
                  obtain ⟨lf, q1, -⟩ := hg
                  rw [e1] at q1; cases q1
            intro i hi
            by_cases e2 : i = t
            · rw [e2]; exact hnew
            · exact hih i (by omega)
        have hag := hag0 j (Nat.le_refl _)
        have hst : stN (rdR (d.crashD F) (1 - l.which)) j = stN (rdK d (1 - l.which)) j := stN_congr hag
        have hgo : GoTo (rdK d (1 - l.which)) j := goTo_congr hag j2
        obtain ⟨jS, s1, s2, s3⟩ := scan_ex (rdK d (1 - l.which)) d.halfN
        have hjS : j ≤ jS := by
          rcases Nat.lt_or_ge jS j with e3 | e3
          · exfalso
            rcases s3 with s3 | s3
            · omega
            · exact s3 (hgo jS e3)
          · exact e3
        have hoS := h.other
        rw [scan_is s1 s2 s3] at hoS
        rw [j4, hst, hme]
        obtain ⟨x, hx⟩ := st_recs s2 hjS
        rcases hoS with hoS | ⟨o1, o2⟩
        · rw [hx] at hoS
          exact .inl (List.append_eq_nil_iff.1 hoS).1
        · by_cases hr : (stN (rdK d (1 - l.which)) j).recs = []
          · exact .inl hr
          · have hj1 : 1 ≤ j := by
              rcases Nat.eq_zero_or_pos j with e4 | e4
              · subst e4; exact absurd rfl hr
              · exact e4
            refine .inr ⟨o1, ?_⟩
            rw [← st_age s2 hj1 hjS]
            exact o2
      · exact absurd (hrdR 0 m1 e) m2
      · have hj0 : j = 0 := by
          rcases Nat.eq_zero_or_pos j with e4 | e4
          · exact e4
          · obtain ⟨lf, q1, -⟩ := j2 0 e4
            rw [e] at q1; cases q1
        rw [j4, hj0]
        exact .inl rfl
    · -- the first pages are new, the next one is not
      have hsz := one_frame l.turned
      obtain ⟨n1, n2⟩ := need_bound (frameW [l.turned])
      have hmlt : 234 * m < (frameW [l.turned]).size := by
        have e5 : needW (frameW [l.turned]).size = ((frameW [l.turned]).size + 233) / 234 := rfl
        omega
      obtain ⟨g1, g2⟩ := laid_go (rd := rdR (d.crashD F) (1 - l.which)) (p := 0) (N := m) (age := l.age) (s := frameW [l.turned]) (fun i hi => absurd hi (by omega)) (by omega) (.inl (by show (0 : Int) < l.age; omega)) (fun t ht => by rw [Nat.zero_add]; exact m3 t ht) m (Nat.le_refl _)
      rw [Nat.zero_add] at g1 g2
      have hlast := g2.last
      rw [if_neg hm0] at hlast
      have hrec := g2.recs
      rw [Nat.min_eq_right (by omega), whole_part ht2 hmlt] at hrec
      have hsc : (d.crashD F).scan ((1 - l.which : Nat) : Int) = stN (rdR (d.crashD F) (1 - l.which)) m := by
        rw [scan_eq (d := d.crashD F) (by omega)]
        refine scan_is (by show m ≤ d.halfN; omega) g1 (.inr ?_)
        rcases hoth m hmH with e | e | e
        · exact h.halt (a := 1 - l.which) (by omega) hmH (by rw [hlast]; exact Int.le_refl _) (hrdK _ e)
        · exact absurd (hrdR m m1 e) m2
        · rintro ⟨lf, q1, -⟩
          rw [e] at q1; cases q1
      rw [hsc]
      exact .inl hrec
end Bw
namespace Bw
set_option linter.unusedVariables false
theorem openL_eq {d : DiskD} {w : Nat} {a : Int} {p : Nat} {rs : List ByteArray} (h1 : (openL d).which = w) (h2 : (openL d).age = a) (h3 : (openL d).pages = p) (h4 : (openL d).recs = rs) : openL d = ⟨w, a, p, rs, rs.length, rs.length, ByteArray.empty⟩ := by
  subst h1 h2 h3 h4; rfl
theorem page0_head : page0.extract 0 252 = wholeS ByteArray.empty := sealS_head (s := ByteArray.empty) (by simp)
theorem page0_ends : frontA page0 = 0 ∧ backA page0 = 0 := by
  have e1 := get_ext page0_size 0 6 (by omega) (by omega) (by omega)
  have e2 := get_ext page0_size 244 6 (by omega) (by omega) (by omega)
  rw [page0_head] at e1 e2
  constructor
  · show getV page0 ((0 : Nat) : Int) ((6 : Nat) : Int) = 0
    rw [← e1]; decide +kernel
  · show getV page0 ((244 : Nat) : Int) ((6 : Nat) : Int) = 0
    rw [← e2]; decide +kernel
theorem page0_none (i : Nat) : leafR page0 i = none := by
  cases e : leafR page0 i with
  | none => rfl
  | some lf =>
    obtain ⟨h1, -, h3⟩ := leafR_ends page0_size e
    rw [page0_ends.1] at h1
    exact absurd h1.symm h3
/-- A log on a disk that is new. -/
def newL : LogD := ⟨0, 1, 0, [], 0, 0, ByteArray.empty⟩
theorem initD_raw (n : Nat) (p : Int) : (initD n).rawD p = page0 ∨ (initD n).rawD p = ByteArray.empty := by
  unfold DiskD.rawD
  split
  · exact .inl rfl
  · exact .inr rfl
theorem open_new {n : Nat} (h4 : 4 ≤ n) (hn : n ≤ 1024) : openLE (initD n) = 0 ∧ openL (initD n) = newL ∧ InvA newL (initD n) 0 := by
  have hok := initD_ok (show 1 ≤ n by omega) hn
  have hraw : ∀ p : Nat, p < n → (initD n).rawD p = page0 := fun p hp => by
    rw [DiskD.rawD, if_pos (hasB_iff.2 ⟨by omega, by show (p : Int) < (n : Int); omega⟩)]; rfl
  have hM : maxAge (initD n) n ≤ 0 := maxAge_le (Int.le_refl 0) n fun p hp => by
    rw [hraw p hp, page0_ends.1, page0_ends.2]; exact ⟨Int.le_refl _, Int.le_refl _⟩
  have hM0 := maxAge_nn (initD n) n
  have hE : openLE (initD n) = 0 := openLE_zero (B := 0) h4 (by decide) hM
  have hI := open_inv (d := initD n) hok h4 rfl
  have hsc : ∀ a : Nat, a ≤ 1 → (initD n).scan (a : Int) = scan0 := fun a ha => by
    obtain ⟨j, j1, j2, j3, j4⟩ := scan_rd (d := initD n) ha
    have hj : j = 0 := by
      rcases Nat.eq_zero_or_pos j with e | e
      · exact e
      · exfalso
        obtain ⟨lf, q1, -⟩ := j2 0 e
        obtain ⟨p, hp, hpe⟩ := pg_nat (initD n) a 0 ha (by omega)
        have q2 : leafR ((initD n).rawD (pg (initD n) a 0)) 0 = some lf := q1
        rw [hpe, hraw p hp, page0_none] at q2
        cases q2
    rw [j4, hj]; rfl
  have hb : (initD n).best = ⟨0, 0, [], 0⟩ := by
    have s0 : (initD n).scan 0 = scan0 := hsc 0 (by omega)
    have s1 : (initD n).scan 1 = scan0 := hsc 1 (by omega)
    unfold DiskD.best
    rw [s0, s1]
    rfl
  have hL : openL (initD n) = newL := by
    have e : openL (initD n) = ⟨(initD n).best.which, maxAge (initD n) n + 1, (initD n).best.pages, (initD n).best.recs, (initD n).best.recs.length, (initD n).best.recs.length, ByteArray.empty⟩ := rfl
    rw [e, hb, show maxAge (initD n) n = 0 by omega]; rfl
  refine ⟨hE, hL, ?_⟩
  rw [hL] at hI
  exact hI
theorem crash_synced {d : DiskD} (h : d.W = []) (F : List Int) : d.crashD F = d := by
  obtain ⟨n, K, W⟩ := d
  have h' : W = [] := h
  subst h'
  show (⟨n, crashK [] F K, []⟩ : DiskD) = _
  unfold crashK; rfl
theorem writeD_n (l : LogD) (d : DiskD) : (l.writeD d).n = d.n := by
  unfold LogD.writeD layD
  split
  · generalize needW _ = K
    induction K with
    | zero => rfl
    | succ K ih =>
      show (DiskD.writeD _ _ _).n = _
      unfold DiskD.writeD
      split <;> exact ih
  · rfl
theorem turnD_n (l : LogD) (d : DiskD) (x : ByteArray) : (l.turnD d x).n = d.n := by
  unfold LogD.turnD layD
  split
  · generalize needW _ = K
    induction K with
    | zero => rfl
    | succ K ih =>
      show (DiskD.writeD _ _ _).n = _
      unfold DiskD.writeD
      split <;> exact ih
  · rfl
theorem appendE_n {d d' : DiskD} (h : d.n = d'.n) (l : LogD) (x : ByteArray) : l.appendE d x = l.appendE d' x := by
  unfold LogD.appendE LogD.room DiskD.halfN; rw [h]
theorem appendN_n {d d' : DiskD} (h : d.n = d'.n) (l : LogD) (x : ByteArray) : l.appendN d x = l.appendN d' x := by
  unfold LogD.appendN; rw [appendE_n h]
theorem append_n {d d' : DiskD} (h : d.n = d'.n) (l : LogD) (x : ByteArray) : l.append d x = l.append d' x := by
  unfold LogD.append; rw [appendE_n h]
theorem turnE_n {d d' : DiskD} (h : d.n = d'.n) (l : LogD) (x : ByteArray) : l.turnE d x = l.turnE d' x := by
  unfold LogD.turnE DiskD.halfN; rw [h]
theorem turn_n {d d' : DiskD} (h : d.n = d'.n) (l : LogD) (x : ByteArray) : l.turn d x = l.turn d' x := by
  unfold LogD.turn; rw [turnE_n h]
theorem InvB.sync_age {l : LogD} {d : DiskD} (h : InvB l d) (hA : l.age < 1099511627776) : (stN (rdR d.syncD l.sync.which) (needW (frameW [l.turned]).size)).age = l.age := by
  rw [sync_yes h.t1]
  show (stN (rdR d.syncD (1 - l.which)) (needW (frameW [l.turned]).size)).age = l.age
  have hR : rdR d.syncD (1 - l.which) = rdR d (1 - l.which) := by funext i; unfold rdR; rw [pg_same (show d.syncD.n = d.n from rfl), sync_raw]
  rw [hR]
  exact (h.turned_go hA fun i hi => (h.leaf hA hi).1).2.2.2.2
theorem InvA.age_pos {l : LogD} {d : DiskD} {s : Nat} (h : InvA l d s) (hs : 1 ≤ s) : 1 ≤ (stN (rdR d l.which) s).age := by
  have hg := h.go.le h.sp
  have hpH := h.pH
  have hsp := h.sp
  obtain ⟨lf, l1, -⟩ := hg 0 (by omega)
  rw [st_age1 hg hs l1]
  have := leafR_pos (raw_size h.ok (pg_has h.w1 (show 0 < d.halfN by omega))) (show leafR (d.rawD (pg d l.which 0)) 0 = some lf from l1)
  omega

/- The fixed calls. -/
def xA : ByteArray := ⟨#[97]⟩
def xB : ByteArray := ⟨#[98]⟩
def xT : ByteArray := ⟨#[116]⟩
def xU : ByteArray := ⟨#[117]⟩
def xC : ByteArray := ⟨#[99]⟩
def x0 : ByteArray := ⟨#[]⟩
def xZ : ByteArray := str (zeros 470)
def fL1 : LogD := ⟨0, 1, 0, [xA], 0, 0, ByteArray.empty⟩
def fL2 : LogD := ⟨0, 1, 1, [xA], 1, 0, ByteArray.empty⟩
def fL3 : LogD := ⟨0, 1, 1, [xA], 1, 1, ByteArray.empty⟩
def fL4 : LogD := ⟨0, 1, 1, [xA, xB], 1, 1, ByteArray.empty⟩
def fL5 : LogD := ⟨0, 1, 2, [xA, xB], 2, 1, ByteArray.empty⟩
def fO0 : LogD := ⟨0, 2, 1, [xA], 1, 1, ByteArray.empty⟩
def fO1 : LogD := ⟨0, 3, 1, [xA], 1, 1, xT⟩
def fO2 : LogD := ⟨1, 3, 1, [xT], 1, 1, ByteArray.empty⟩
def fP : LogD := ⟨1, 4, 1, [xT], 1, 1, ByteArray.empty⟩
def fD0 : DiskD := initD 8
def fD1 : DiskD := fL1.writeD fD0
def fD2 : DiskD := fD1.syncD
def fD3 : DiskD := fL4.writeD fD2
def fD4 : DiskD := fD3.crashD []
def fD5 : DiskD := fO0.turnD fD4 xT
def fD6 : DiskD := fD5.syncD
theorem sync_n (d : DiskD) : d.syncD.n = d.n := rfl
theorem crash_n (d : DiskD) (F : List Int) : (d.crashD F).n = d.n := rfl
theorem n1 : fD1.n = fD0.n := writeD_n _ _
theorem n2 : fD2.n = fD0.n := (sync_n fD1).trans n1
theorem n3 : fD3.n = fD0.n := (writeD_n fL4 fD2).trans n2
theorem n4 : fD4.n = fD0.n := (crash_n fD3 []).trans n3
theorem n5 : fD5.n = fD0.n := (turnD_n fO0 fD4 xT).trans n4
theorem n6 : fD6.n = fD0.n := (sync_n fD5).trans n5
theorem f1 : newL.append fD0 xA = fL1 ∧ newL.appendN fD0 xA = 1 ∧ newL.appendE fD0 xA = 0 := ⟨by rfl, by decide +kernel, by decide +kernel⟩
theorem f2 : fL1.write = fL2 ∧ fL1.writeE = 0 := ⟨by rfl, by decide +kernel⟩
theorem f3 : fL2.sync = fL3 := by rfl
theorem f4 : fL3.append fD2 xB = fL4 ∧ fL3.appendN fD2 xB = 2 ∧ fL3.appendE fD2 xB = 0 := by
  rw [append_n n2, appendN_n n2, appendE_n n2]; exact ⟨by rfl, by decide +kernel, by decide +kernel⟩
theorem f5 : fL4.write = fL5 ∧ fL4.writeE = 0 := ⟨by rfl, by decide +kernel⟩
theorem f6 : fL5.append fD3 xZ = fL5 ∧ fL5.appendN fD3 xZ = 0 ∧ fL5.appendE fD3 xZ = 6 := by
  have h : fL5.appendE fD3 xZ = 6 := by rw [appendE_n n3]; decide +kernel
  refine ⟨append_no (by rw [h]; decide), ?_, h⟩
  unfold LogD.appendN; rw [if_neg (by rw [h]; decide)]
theorem f7 : fL5.append fD3 x0 = fL5 ∧ fL5.appendE fD3 x0 = 1 := by
  rw [append_n n3, appendE_n n3]; exact ⟨by rfl, by decide +kernel⟩
theorem i1 : InvA fL1 fD0 0 := by have := (open_new (n := 8) (by omega) (by omega)).2.2.append xA; rw [show newL.append (initD 8) xA = fL1 from f1.1] at this; exact this
theorem i2 : InvA fL2 fD1 0 := by have := i1.write (by decide); rw [f2.1] at this; exact this
theorem i3 : InvA fL3 fD2 1 := by have := i2.sync; rw [f3] at this; exact this
theorem i4 : InvA fL4 fD2 1 := by have := i3.append xB; rw [f4.1] at this; exact this
theorem i5 : InvA fL5 fD3 1 := by have := i4.write (by decide); rw [f5.1] at this; exact this
theorem f8 : openLE fD4 = 0 ∧ openL fD4 = fO0 ∧ InvA fO0 fD4 1 := by
  have c := i5.crash [] (by decide)
  obtain ⟨l1, l2⟩ := c.lost rfl
  have a1 : (openL fD4).age = 2 := by
    have h1 : (openL fD4).age ≤ 1 + 1 := c.age_le
    have h2 : _ < (openL fD4).age := c.age_gt (Nat.le_refl 1)
    have h3 := i5.age_pos (Nat.le_refl 1)
    omega
  have e : openL fD4 = fO0 := openL_eq c.which a1 l2 l1
  have hI : InvA (openL fD4) fD4 (openL fD4).pages := c.inv
  rw [e] at hI
  exact ⟨c.openE, e, hI⟩
theorem f9 : fO0.turn fD4 xT = fO1 ∧ fO0.turnE fD4 xT = 0 := by
  rw [turn_n n4, turnE_n n4]; exact ⟨by rfl, by decide +kernel⟩
theorem f10 : fO1.turn fD5 xU = fO1 ∧ fO1.turnE fD5 xU = 9 ∧ fO1.turnD fD5 xU = fD5 := by
  have h : fO1.turnE fD5 xU = 9 := by rw [turnE_n n5]; decide +kernel
  have := turn_no (l := fO1) (d := fD5) (x := xU) (by rw [h]; decide)
  exact ⟨this.1, h, this.2⟩
theorem f11 : fO1.append fD5 xC = fO1 ∧ fO1.appendE fD5 xC = 9 := by
  rw [append_n n5, appendE_n n5]; exact ⟨by rfl, by decide +kernel⟩
theorem f12 : fO1.sync = fO2 := by rfl
theorem i6 : InvB fO1 fD5 := by have := f8.2.2.turn f9.2; rw [f9.1] at this; exact this
theorem i7 : InvA fO2 fD6 1 := by have := i6.sync (by decide); rw [f12] at this; exact this
theorem f13 : openLE fD6 = 0 ∧ openL fD6 = fP := by
  have c := i7.crash [] (by decide)
  rw [crash_synced (d := fD6) rfl] at c
  obtain ⟨l1, l2⟩ := c.lost rfl
  have a1 : (openL fD6).age = 4 := by
    have h1 : (openL fD6).age ≤ 3 + 1 := c.age_le
    have h2 : (stN (rdR fD6 fO2.which) 1).age < (openL fD6).age := c.age_gt (Nat.le_refl 1)
    have h3 : (stN (rdR fD6 fO1.sync.which) (needW (frameW [fO1.turned]).size)).age = 3 := i6.sync_age (by decide)
    rw [f12] at h3
    have h4 : (stN (rdR fD6 fO2.which) 1).age = 3 := h3
    omega
  exact ⟨c.openE, openL_eq c.which a1 l2 l1⟩
theorem f14 : fO2.room fD6 = 3 := by unfold LogD.room DiskD.halfN; rw [n6]; decide +kernel
end Bw
