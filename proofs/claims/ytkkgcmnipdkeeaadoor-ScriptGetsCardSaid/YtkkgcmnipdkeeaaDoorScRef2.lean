/- Layer 24, the document's side: whether an act may be. -/
import Derived.Test.YtkkgcmnipdkeeaaDoorScRef1
namespace Go.Proofs.YtkkgcmnipdkeeaaDoor
open Go.RowKit Bw
set_option linter.unusedVariables false
def okT (T : Bool) (t : Int) : Bool := if T then decide (1 ≤ t) && decide (t ≤ 8) else decide (t = 0)
def okK (K N : Bool) (key : ByteArray) : Bool := if N then decide ((key.size : Int) ≤ 16) else if K then keyB key else key.toList.isEmpty
def okV (V N : Bool) (val : ByteArray) (n : Int) : Bool := (valB val && (V || val.toList.isEmpty)) && (decide (0 ≤ n) && decide (n ≤ 255) && (N || decide (n = 0)))
def okF (F : Bool) (f : List Int) : Bool := decide ((f.length : Int) ≤ 60) && (F || (f.length : Int) == 0)
theorem str_isEmpty (s : ByteArray) : s.toList.isEmpty = decide (s = ByteArray.empty) := by
  by_cases h : s.size = 0
  · rw [str_empty h]
    have : s = ByteArray.empty := lst_inj (List.eq_nil_of_length_eq_zero (by rw [lst_length, h]))
    simp [this]
  · rw [str_nonempty h]
    have : ¬ s = ByteArray.empty := fun e => h (by rw [e]; rfl)
    simp [this]
theorem right_ref (a : ActD) (hk : 0 ≤ a.k ∧ a.k ≤ 11) : a.right = (okT (bT a.k) a.t && okK (bK a.k) (bN a.k) a.key && okV (bV a.k) (bN a.k) a.val a.n && (fatesB a.f && okF (bF a.k) a.f)) := by
  have c0 : inB a.k 0 11 = true := by simp [inB, hk]
  have e1 := str_isEmpty
  have e3 : ((a.f.length : Int) == 0) = decide (a.f = []) := by
    cases a.f with
    | nil => rfl
    | cons x l => simp; omega
  have e4 : decide ((a.f.length : Int) ≤ 60) = decide (a.f.length ≤ 60) := by simp; omega
  have e6 : okK (bK a.k) (bN a.k) a.key = (if bK a.k then keyB a.key || (decide (a.k = 4) && decide (a.key = ByteArray.empty)) else decide (a.key = ByteArray.empty)) := by
    unfold okK
    cases hN : bN a.k
    · have h4 : decide (a.k = 4) = false := hN
      simp only [Bool.false_eq_true, if_false, h4, Bool.false_and, Bool.or_false, e1]
    · have h4 : a.k = 4 := by simpa [bN] using hN
      have hK : bK a.k = true := by rw [h4]; rfl
      have h5 : decide (a.k = 4) = true := by simp [h4]
      simp only [if_true, hK, h5, Bool.true_and]
      by_cases h0 : a.key = ByteArray.empty
      · rw [h0]; rfl
      · have h1 : 1 ≤ a.key.size := by
          rcases Nat.eq_zero_or_pos a.key.size with hz | hz
          · exact absurd (by have := ByteArray.size_eq_zero_iff.1 hz; exact this) h0
          · exact hz
        have h2 : decide (1 ≤ (a.key.size : Int)) = true := by simp; omega
        simp only [keyB, h2, Bool.true_and, h0, decide_false, Bool.or_false]
  unfold ActD.right
  rw [c0, e6, Bool.true_and]
  unfold okT okV okF inB
  rw [e1, e3, e4]
  ac_rfl
set_option maxHeartbeats 4000000 in
set_option maxRecDepth 100000 in
theorem ref24_Right (a : ActD) (hl : a.f.length ≤ 1099511627776) (q : Option Addr) (c : Nat) (w : World) (hA : IntsAt w q a.f) :
    Calls Tryd.prog 10 #[actV a q c] w fun e w' => e = .returned (.bool a.right) ∧ Below w.heap.size w w' := by
  by_cases hk : 0 ≤ a.k ∧ a.k ≤ 11
  · have HR := Lib.hid (right_ref a hk)
    have C1 := Lib.hid (fun w => in_t a.k w)
    have C2 := Lib.hid (fun w => in_k a.k w)
    have C3 := Lib.hid (fun w => in_v a.k w)
    have C4 := Lib.hid (fun w => in_n a.k w)
    have C5 := Lib.hid (fun w => in_f a.k w)
    have CK := Lib.hid (ref5_Key a.key)
    have CV := Lib.hid (ref5_Value a.val)
    have HA := Lib.hid hA
    have h4 : (a.k == 4) = bN a.k := rfl
    have HK4 := Lib.hid (show bN a.k = true → bK a.k = true from fun h => by
      have h4 : a.k = 4 := by simpa [bN] using h
      rw [h4]; rfl)
    clear hA
    generalize a.right = R at *
    obtain ⟨k, t, key, val, n, f⟩ := a
    simp only [actV] at *
    generalize bT k = T at *
    generalize bK k = K at *
    generalize bV k = V at *
    generalize bN k = N at *
    generalize bF k = F at *
    obtain ⟨k0, k1⟩ := hk
    go_enter Tryd.func10, Tryd.ntmps10
    go_upto_region 1 with fail
    have hD := (Hold.start w).madeRow (.int .i64 k) [.int .i64 t, .string key, .string val, .int .i64 n, .slice q f.length c] 28
    simp only [List.nil_append] at hD
    generalize w.alloc _ = w0 at *
    replace hD : Hold w w0 [rowR w.heap.size (.int .i64 k) [.int .i64 t, .string key, .string val, .int .i64 n, .slice q f.length c]] := hD
    obtain ⟨⟨a0, a1, a2, a3, a4, a5⟩, -⟩ := RowAt.c6 (hD.get 0 rfl)
    go_upto_region 3 with fail
    go_cut [35] (fun v35 wx => v35 = .bool (!okT T t) ∧ Hold w wx [rowR w.heap.size (.int .i64 k) [.int .i64 t, .string key, .string val, .int .i64 n, .slice q f.length c]])
    case first =>
      go_wp2_with ((with_reducible refine (C1.out _).mono ?_); rintro e wn ⟨rfl, hb⟩; replace hD := hD.next hb; clear hb; clear a0 a1 a2 a3 a4 a5; obtain ⟨⟨a0, a1, a2, a3, a4, a5⟩, -⟩ := RowAt.c6 (hD.get 0 rfl))
      all_goals go_meet
      all_goals refine ⟨?_, hD⟩
      all_goals clear hD HR HA HK4 C1 C2 C3 C4 C5 CK CV
      all_goals congr 1
      all_goals first
        | (simp [okT, *]; done)
        | (simp_all [okT]; done)
        | (have hT' : T = false := Bool.eq_false_iff.2 (by assumption); subst hT'; rfl)
        | (simp_all [okT]; omega)
    case rest =>
    clear hD a0 a1 a2 a3 a4 a5 C1
    obtain ⟨rfl, hD⟩ := hcut
    obtain ⟨⟨a0, a1, a2, a3, a4, a5⟩, -⟩ := RowAt.c6 (hD.get 0 rfl)
    cases hT : okT T t
    · rw [hT] at HR
      go_wp2_with fail
      go_ret
      have hR : R = false := by rw [HR.out]; simp
      exact ⟨by rw [hR]; rfl, hD.up⟩
    rw [hT] at HR
    go_upto_region 5 with fail
    go_cut [71] (fun v71 wx => v71 = .bool (!okK K N key) ∧ Hold w wx [rowR w.heap.size (.int .i64 k) [.int .i64 t, .string key, .string val, .int .i64 n, .slice q f.length c]])
    case first =>
      cases N
      · have h5 : (k != 4) = true := by rw [bne, h4]; rfl
        go_wp2_with (first
          | ((with_reducible refine (C2.out _).mono ?_); rintro e wn ⟨rfl, hb⟩; replace hD := hD.next hb; clear hb; clear a0 a1 a2 a3 a4 a5; obtain ⟨⟨a0, a1, a2, a3, a4, a5⟩, -⟩ := RowAt.c6 (hD.get 0 rfl))
          | ((with_reducible refine (CK.out _).mono ?_); rintro e wn ⟨rfl, rfl⟩))
        all_goals (go_meet; refine ⟨?_, hD⟩; clear hD HR HA HK4 C2 C3 C4 C5 CK CV; congr 1; first | (simp [okK, *]; done) | (simp [okK, bne, *]; done) | (simp_all [okK]; done) | (have hT' : K = false := Bool.eq_false_iff.2 (by assumption); subst hT'; simp [okK]; done) | trace_state)
      · have h5 : (k != 4) = false := by rw [bne, h4]; rfl
        have hkk := HK4.out rfl
        subst hkk
        go_wp2_with (first
          | ((with_reducible refine (C2.out _).mono ?_); rintro e wn ⟨rfl, hb⟩; replace hD := hD.next hb; clear hb; clear a0 a1 a2 a3 a4 a5; obtain ⟨⟨a0, a1, a2, a3, a4, a5⟩, -⟩ := RowAt.c6 (hD.get 0 rfl))
          | ((with_reducible refine (CK.out _).mono ?_); rintro e wn ⟨rfl, rfl⟩))
        all_goals (go_meet; refine ⟨?_, hD⟩; clear hD HR HA HK4 C2 C3 C4 C5 CK CV; congr 1; first | (simp [okK, *]; done) | (simp [okK, bne, *]; done) | (simp_all [okK]; done) | (have hT' : K = false := Bool.eq_false_iff.2 (by assumption); subst hT'; simp [okK]; done) | trace_state)
    case rest =>
    clear hD a0 a1 a2 a3 a4 a5
    obtain ⟨rfl, hD⟩ := hcut
    obtain ⟨⟨a0, a1, a2, a3, a4, a5⟩, -⟩ := RowAt.c6 (hD.get 0 rfl)
    cases hK : okK K N key
    · rw [hK] at HR
      go_wp2_with fail
      go_ret
      have hR : R = false := by rw [HR.out]; simp
      exact ⟨by rw [hR]; rfl, hD.up⟩
    rw [hK] at HR
    clear CK HK4 C2 hK h4
    go_upto_region 7 with fail
    go_cut [107] (fun v107 wx => v107 = .bool (!okV V N val n) ∧ Hold w wx [rowR w.heap.size (.int .i64 k) [.int .i64 t, .string key, .string val, .int .i64 n, .slice q f.length c]])
    case first =>
      go_wp2_with (first
        | ((with_reducible refine (C3.out _).mono ?_); rintro e wn ⟨rfl, hb⟩; replace hD := hD.next hb; clear hb; clear a0 a1 a2 a3 a4 a5; obtain ⟨⟨a0, a1, a2, a3, a4, a5⟩, -⟩ := RowAt.c6 (hD.get 0 rfl))
        | ((with_reducible refine (C4.out _).mono ?_); rintro e wn ⟨rfl, hb⟩; replace hD := hD.next hb; clear hb; clear a0 a1 a2 a3 a4 a5; obtain ⟨⟨a0, a1, a2, a3, a4, a5⟩, -⟩ := RowAt.c6 (hD.get 0 rfl))
        | ((with_reducible refine (CV.out _).mono ?_); rintro e wn ⟨rfl, rfl⟩))
      all_goals (go_meet; refine ⟨?_, hD⟩; clear hD HR HA C3 C4 C5 CV; congr 1; first | (have a1 : decide (n < 0) = false := decide_eq_false (by omega); have a2 : decide (255 < n) = false := decide_eq_false (by omega); have hT' : N = false := Bool.eq_false_iff.2 (by assumption); rw [a1, a2]; simp only [okV, *, decide_true, Bool.true_or, Bool.true_and, Bool.false_or, Bool.and_true, List.isEmpty_nil, Bool.or_true]; rfl) | (simp [okV, *]; done) | (simp_all [okV]; done) | (simp_all [okV]; omega))
    case rest =>
    clear hD a0 a1 a2 a3 a4 a5
    obtain ⟨rfl, hD⟩ := hcut
    obtain ⟨⟨a0, a1, a2, a3, a4, a5⟩, -⟩ := RowAt.c6 (hD.get 0 rfl)
    cases hV : okV V N val n
    · rw [hV] at HR
      go_wp2_with fail
      go_ret
      have hR : R = false := by rw [HR.out]; simp
      exact ⟨by rw [hR]; rfl, hD.up⟩
    rw [hV] at HR
    clear CV C3 C4 hV
    go_wp2_with fail
    go_loopw [3] (fun v3 wr => ∃ m : Nat, m ≤ f.length ∧ v3 = .int .i64 m ∧ fatesB (f.take m) = true ∧ Hold w wr [rowR w.heap.size (.int .i64 k) [.int .i64 t, .string key, .string val, .int .i64 n, .slice q f.length c]]) (fun v _ => f.length - (intOf v).toNat)
    case atStart => exact ⟨0, by omega, rfl, rfl, hD⟩
    case round =>
    clear hD a0 a1 a2 a3 a4 a5
    obtain ⟨m, hm, rfl, hf, hD⟩ := hrel
    have HFt := Lib.hid hf
    clear hf
    obtain ⟨⟨a0, a1, a2, a3, a4, a5⟩, -⟩ := RowAt.c6 (hD.get 0 rfl)
    have i0 : (0 : Int) ≤ (m : Int) := by omega
    have i2 : (f.length : Int) ≤ 1099511627776 := by omega
    by_cases hlt : m < f.length
    · have b1 : (m : Int) < (f.length : Int) := by omega
      obtain ⟨g, o, rfl, e1⟩ := (HA.out.up hD.up) m hlt
      have HT := Lib.hid (show fatesB (f.take (m + 1)) = (fatesB (f.take m) && inB f[m] 0 2) by rw [List.take_succ_eq_append_getElem hlt]; simp only [fatesB, List.all_append, List.all_cons, List.all_nil, Bool.and_true])
      have HM := Lib.hid (show fatesB f = true → inB f[m] 0 2 = true from fun h => by simp only [fatesB, List.all_eq_true] at h; exact h _ (List.getElem_mem hlt))
      generalize f[m] = x at *
      by_cases hx : 0 ≤ x ∧ x ≤ 2
      · obtain ⟨x0, x1⟩ := hx
        go_wp2_with fail
        go_roundw
        case rel =>
          have hff : fatesB (f.take (m + 1)) = true := by rw [HT.out, HFt.out]; simp [inB, x0, x1]
          first
            | exact ⟨m + 1, by omega, by go_num, hff, hD⟩
            | exact ⟨_, _, _, _, _, _, _, _, _, _, _, _, _, _, _, _, _, _, _, _, _, _, ⟨m + 1, by omega, by go_num, hff, hD⟩, rfl⟩
            | exact ⟨_, _, _, _, _, _, _, _, _, _, _, _, _, _, _, _, _, _, _, _, _, _, _, ⟨m + 1, by omega, by go_num, hff, hD⟩, rfl⟩
            | exact ⟨_, _, _, _, _, _, _, _, _, _, _, _, _, _, _, _, _, _, _, _, _, _, _, _, ⟨m + 1, by omega, by go_num, hff, hD⟩, rfl⟩
            | exact ⟨_, _, _, _, _, _, _, _, _, _, _, _, _, _, _, _, _, _, _, _, _, _, _, _, _, ⟨m + 1, by omega, by go_num, hff, hD⟩, rfl⟩
        case measure => simp [intOf]; omega
      · have hR : R = false := by
          have : fatesB f = false := by
            cases hh : fatesB f
            · rfl
            · have := HM.out hh
              simp [inB] at this
              omega
          rw [HR.out, this]; simp
        have hx2 : x < 0 ∨ (0 ≤ x ∧ 2 < x) := by omega
        rcases hx2 with x0 | ⟨x0, x1⟩
        all_goals
          clear hx
          go_wp2_with fail
          go_ret
          exact ⟨by rw [hR]; rfl, hD.up⟩
    · have hml : m = f.length := by omega
      subst hml
      have hf := HFt.out
      rw [List.take_length] at hf
      have hR : R = okF F f := by rw [HR.out, hf]; simp
      have KY : ∀ x : Bool, R = x → Ending.returned (Value.bool x) = Ending.returned (Value.bool R) := fun x h => by rw [h]
      have HRR := Lib.hid hR
      clear hR hf
      go_wp2_with ((with_reducible refine (C5.out _).mono ?_); rintro e wn ⟨rfl, hb⟩; replace hD := hD.next hb; clear hb; clear a0 a1 a2 a3 a4 a5; obtain ⟨⟨a0, a1, a2, a3, a4, a5⟩, -⟩ := RowAt.c6 (hD.get 0 rfl))
      all_goals (go_ret; refine ⟨?_, hD.up⟩; refine KY _ ?_; rw [HRR.out]; clear KY HRR hD HR HA C5 HFt; first | (simp [okF, *]; done) | (simp_all [okF]; done) | (simp_all [okF]; omega))
  · have hR : a.right = false := by
      have : inB a.k 0 11 = false := by
        simp only [inB, Bool.and_eq_false_iff, decide_eq_false_iff_not]; omega
      unfold ActD.right
      rw [this]; simp
    rw [hR]
    clear hR hA
    obtain ⟨k, t, key, val, n, f⟩ := a
    simp only [actV] at *
    have hu := (Up.refl w).alloc (.cells #[.int .i64 k, .int .i64 t, .string key, .string val, .int .i64 n, .slice q f.length c] 28)
    have hk2 : k < 0 ∨ (0 ≤ k ∧ 11 < k) := by omega
    clear hk
    rcases hk2 with h | ⟨h, h2⟩
    all_goals
      go_enter Tryd.func10, Tryd.ntmps10
      go_wp2_with fail
      go_ret
      exact ⟨rfl, hu⟩
end Go.Proofs.YtkkgcmnipdkeeaaDoor
