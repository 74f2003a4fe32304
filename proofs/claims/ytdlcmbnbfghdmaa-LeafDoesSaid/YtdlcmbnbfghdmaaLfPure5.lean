/- The document's Decode is the packed one's. No program in sight. -/
import Derived.Test.YtdlcmbnbfghdmaaLfPure4
import Derived.Test.YtdlcmbnbfghdmaaLfWalk9
namespace Bw
set_option linter.unusedVariables false
theorem rLf_encL {x : LfD} (h : x.right = true) (t : List UInt8) : rLf (x.encL ++ t) = some (x, t) := by
  have hs := right_sm h
  have hr := right_row h
  have e : x.encL ++ t = 76 :: UInt8.ofNat x.l.length :: (numL x.next 2 ++ (textL x.high ++ (pairsL x.l ++ t))) := by simp [LfD.encL]
  have hn : (UInt8.ofNat x.l.length).toNat = x.l.length := by rw [UInt8.toNat_ofNat']; omega
  have h2 := hr.2.2.1
  rw [e, rLf, rNum_numL x.next 2 _ h2.1 (by omega) (by simp; omega), Option.bind_some, rText_textL _ _ (by omega), Option.bind_some, hn, rPairs_pairsL _ _ (fun p hp => by have := hs.2.2 p hp; omega), Option.bind_some, if_pos rfl]
theorem rLf_inv {l : List UInt8} {x : LfD} {t : List UInt8} (h : rLf l = some (x, t)) (hr : x.right = true) : l = x.encL ++ t := by
  match l, h with
  | b :: n :: r, h =>
    rw [rLf] at h
    obtain ⟨m, hm, h⟩ := Option.bind_eq_some_iff.1 h
    obtain ⟨hh, hh2, h⟩ := Option.bind_eq_some_iff.1 h
    obtain ⟨ps, hp, h⟩ := Option.bind_eq_some_iff.1 h
    split at h
    · rename_i hb
      injection h with h
      injection h with h1 h2
      subst h1
      obtain ⟨p1, p2, p3⟩ := rPairs_inv _ (ps := ps.1) (t := ps.2) hp
      have h3 := (right_row hr).2.2.1.2
      have q1 := (rNum_inv (n := m.1) (t := m.2) hm (by simp only at h3; omega)).1
      have q2 := (rText_inv (s := hh.1) (t := hh.2) hh2).1
      have hn : UInt8.ofNat ps.1.length = n := by
        apply UInt8.toNat_inj.1
        rw [UInt8.toNat_ofNat', p2]
        have := n.toNat_lt
        omega
      rw [q1, q2, p1, hb, LfD.encL]
      simp [hn, h2]
    · cases h
theorem fin_iff {s : ByteArray} {x : LfD} (hr : x.right = true) (hs : s.size ≤ 252) : (padE x.enc s.size = 0 ∧ padS x.enc s.size = s) ↔ ∃ k, lst s = x.encL ++ zL k := by
  have he : x.enc = str x.encL := by rw [LfD.enc, if_pos hr]
  have hz : x.enc.size = x.encL.length := by rw [he, size_str]
  constructor
  · rintro ⟨h1, h2⟩
    unfold padS at h2
    rw [if_pos h1] at h2
    have h3 := congrArg lst h2
    rw [lst_str, he, lst_str] at h3
    exact ⟨_, h3.symm⟩
  · rintro ⟨k, hk⟩
    have hl := congrArg List.length hk
    rw [List.length_append, zL_length, lst_length] at hl
    have h1 : padE x.enc s.size = 0 := by
      unfold padE
      rw [if_neg (by omega), if_neg (by omega)]
    refine ⟨h1, ?_⟩
    unfold padS
    rw [if_pos h1, he, lst_str, size_str]
    have : (s.size : Int).toNat - x.encL.length = k := by omega
    rw [this]
    have h4 := congrArg str hk
    rw [str_lst] at h4
    exact h4.symm
theorem bare_zL {t : List UInt8} : bareL t = [] ↔ ∃ k, t = zL k := by
  constructor
  · intro h
    obtain ⟨k, h1, -⟩ := bareL_spec t
    rw [h, List.nil_append] at h1
    exact ⟨k, h1⟩
  · rintro ⟨k, rfl⟩
    have := bareL_of [] k (.inl rfl)
    exact this
theorem rfL_pairs {s : ByteArray} : ∀ (n i : Nat) (L ps : List PairD) (t : List UInt8), i ≤ s.size → rPairs n ((lst s).drop i) = some (ps, t) → rfL s n i 0 L = some (L ++ ps, 0)
  | 0, i, L, ps, t, hi, h => by
    rw [rPairs] at h
    injection h with h
    injection h with h1 h2
    rw [← h1, rfL, List.append_nil]
  | n + 1, i, L, ps, t, hi, h => by
    rw [rPairs] at h
    obtain ⟨a, ha, h⟩ := Option.bind_eq_some_iff.1 h
    obtain ⟨b, hb, h⟩ := Option.bind_eq_some_iff.1 h
    obtain ⟨a1, a2, a3, a4, a5⟩ := rText_at (x := a.1) (t := a.2) ha hi
    rw [a5] at hb
    obtain ⟨b1, b2, b3, b4, b5⟩ := rText_at (x := b.1) (t := b.2) hb a4
    rw [b5] at h
    obtain ⟨c, hc, h⟩ := Option.map_eq_some_iff.1 h
    rw [rfL_step a1, a3, a2, b1, b2, b3, rfL_pairs n _ _ c.1 c.2 b4 hc]
    injection h with h1 h2
    rw [← h1]
    simp
theorem lst_four {s : ByteArray} (h : 5 ≤ s.size) : lst s = s[0] :: s[1] :: s[2] :: s[3] :: (lst s).drop 4 := by
  have hl := lst_length s
  have h0 := List.drop_eq_getElem_cons (l := lst s) (i := 0) (by omega)
  have h1 := List.drop_eq_getElem_cons (l := lst s) (i := 1) (by omega)
  have h2 := List.drop_eq_getElem_cons (l := lst s) (i := 2) (by omega)
  have h3 := List.drop_eq_getElem_cons (l := lst s) (i := 3) (by omega)
  rw [List.drop_zero] at h0
  rw [lst_getElem s 0 (by omega), lst_getElem s 1 (by omega), lst_getElem s 2 (by omega), lst_getElem s 3 (by omega), ← h3, ← h2, ← h1, ← h0]
theorem rfO_eq {s : ByteArray} (h5 : 5 ≤ s.size) (h252 : s.size ≤ 252) : rfO s s[1].toNat ((s[2].toNat : Int) + (256 : Int) * (s[3].toNat : Int)) = decLO s := by
  rw [decLO, if_neg (by omega)]
  cases hr : rLf (lst s) with
  | none =>
    rw [Option.bind_none]
    cases ho : rfO s s[1].toNat ((s[2].toNat : Int) + (256 : Int) * (s[3].toNat : Int)) with
    | none => rfl
    | some x =>
      obtain ⟨r, h1, h2⟩ := Option.bind_eq_some_iff.1 ho
      rw [rfFin] at h2
      split at h2
      · rename_i h3
        obtain ⟨k, hk⟩ := (fin_iff h3.2.2.2 h252).1 ⟨h3.2.1, h3.2.2.1⟩
        rw [hk, rLf_encL h3.2.2.2] at hr
        cases hr
      · cases h2
  | some y =>
    obtain ⟨x, t⟩ := y
    rw [Option.bind_some]
    have hb : ¬ (roomE s 1 1 ≠ 0 ∨ roomE s 2 2 ≠ 0 ∨ textE s 4 ≠ 0 ∨ (∃ h0 : 0 < s.size, s[0] ≠ 76)) := fun h => by rw [rLf_bad h] at hr; cases hr
    have h1 : roomE s 1 1 = 0 := Decidable.byContradiction fun h' => hb (.inl h')
    have h2 : roomE s 2 2 = 0 := Decidable.byContradiction fun h' => hb (.inr (.inl h'))
    have h3 : textE s 4 = 0 := Decidable.byContradiction fun h' => hb (.inr (.inr (.inl h')))
    have h0 : 0 < s.size := by omega
    have h4 : s[0] = 76 := Decidable.byContradiction fun h' => hb (.inr (.inr (.inr ⟨h0, h'⟩)))
    obtain ⟨n, i, g1, g2, g3, g4, g5, g6, g7⟩ := rLf_good h1 h2 h3 h0 h4
    have hl := lst_four h5
    have e1 := getV_eq (s := s) (i := 1) (k := 1) (by omega) (by omega) (by omega)
    have e2 := getV_eq (s := s) (i := 2) (k := 2) (by omega) (by omega) (by omega)
    rw [hl] at e1 e2
    simp [le] at e1 e2
    have hn : s[1].toNat = n := by
      have : getV s 1 1 = (s[1].toNat : Int) := e1
      omega
    have hv : (s[2].toNat : Int) + (256 : Int) * (s[3].toNat : Int) = getV s 2 2 := by
      have : getV s 2 2 = _ := e2
      rw [this]
    rw [hv, hn]
    rw [hr] at g7
    obtain ⟨ps, hq, h6⟩ := Option.map_eq_some_iff.1 g7.symm
    injection h6 with h6 h7
    have hL := rfL_pairs n i [] ps.1 ps.2 g4 hq
    rw [rfO, g3, h3, hL, Option.bind_some, List.nil_append]
    simp only
    rw [h6, rfFin]
    by_cases hR : x.right = true
    · have hE := rLf_inv hr hR
      by_cases hz : bareL t = []
      · obtain ⟨k, hk⟩ := bare_zL.1 hz
        obtain ⟨f1, f2⟩ := (fin_iff hR h252).2 ⟨k, by rw [hE, hk]⟩
        rw [if_pos ⟨rfl, f1, f2, hR⟩, if_pos ⟨hR, hz⟩]
      · have hq2 : ¬ ((0 : Int) = 0 ∧ padE x.enc s.size = 0 ∧ padS x.enc s.size = s ∧ x.right = true) := by
          rintro ⟨-, f1, f2, -⟩
          obtain ⟨k, hk⟩ := (fin_iff hR h252).1 ⟨f1, f2⟩
          rw [hE] at hk
          exact hz (bare_zL.2 ⟨k, List.append_cancel_left hk⟩)
        rw [if_neg hq2, if_neg (fun h => hz h.2)]
    · rw [if_neg (fun h => hR h.2.2.2), if_neg (fun h => hR h.1)]
end Bw
