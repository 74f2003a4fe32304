/- Layer 6: what a log tells of itself. -/
import Derived.Test.YtokpkkjgagbpfaaWlWalk5
import Derived.Sort.Walk0
namespace Go.Proofs.Ytokpkkjgagbpfaa
open Go.RowKit Bw
set_option linter.unusedVariables false
set_option maxRecDepth 100000
theorem str_nonempty {s : ByteArray} (h : ¬ s.size = 0) : s.toList.isEmpty = false := by
  rw [List.isEmpty_eq_false_iff, Lib.toList_data]
  intro h2; apply h; have h3 := congrArg List.length h2; simpa using h3
/-- A log's block of cells. -/
abbrev logRow (gl : Nat) (vD : Value) (L : LogD) (q : Option Addr) (c : Nat) : Res :=
  rowR gl vD [.int .i64 (L.which : Int), .int .i64 L.age, .int .i64 (L.pages : Int), .slice q L.recs.length c, .int .i64 (L.written : Int), .int .i64 (L.sure : Int), .string L.turned]
variable {W w : World} {l : List Res} {g a c gl cl : Nat} {q : Option Nat} {ql : Option Addr} {d : DiskD} {L : LogD} {vD : Value}
theorem wal_need (n : Nat) (hn : n ≤ 1099511627776) (w : World) : Calls Try.prog 44 #[.int .i64 (n : Int)] w fun e w' => e = .returned (.int .i64 (needW n : Int)) ∧ w = w' := by
  have h3 : ((n : Int) + 234 - 1) / 234 = ((needW n : Nat) : Int) := by unfold needW; omega
  go_enter Try.func44, Try.ntmps44
  go_wp2_with fail
  go_ret
  exact ⟨congrArg (fun x => Ending.returned (.int .i64 x)) h3, rfl⟩
theorem wal_Sure (h : Hold W w l) (i : Nat) (hi : l[i]? = some (logRow gl vD L ql cl)) : Calls Try.prog 56 #[.pointer (some ⟨gl, 0, none⟩)] w fun e w' => e = .returned (.int .i64 (L.sure : Int)) ∧ w = w' := by
  obtain ⟨a0, a1, a2, a3, a4, a5, a6, a7, e0, e1, e2, e3, e4, e5, e6, e7⟩ := RowAt.c8 (h.get i hi)
  go_enter Try.func56, Try.ntmps56
  go_wp2_with fail
  go_ret
  exact ⟨rfl, rfl⟩
theorem wal_Pages (h : Hold W w l) (i : Nat) (hi : l[i]? = some (logRow gl vD L ql cl)) : Calls Try.prog 33 #[.pointer (some ⟨gl, 0, none⟩)] w fun e w' => e = .returned (.int .i64 (L.pages : Int)) ∧ w = w' := by
  obtain ⟨a0, a1, a2, a3, a4, a5, a6, a7, e0, e1, e2, e3, e4, e5, e6, e7⟩ := RowAt.c8 (h.get i hi)
  go_enter Try.func33, Try.ntmps33
  go_wp2_with fail
  go_ret
  exact ⟨rfl, rfl⟩
theorem wal_Half (h : Hold W w l) (i : Nat) (hi : l[i]? = some (logRow gl vD L ql cl)) : Calls Try.prog 31 #[.pointer (some ⟨gl, 0, none⟩)] w fun e w' => e = .returned (.int .i64 (L.which : Int)) ∧ w = w' := by
  obtain ⟨a0, a1, a2, a3, a4, a5, a6, a7, e0, e1, e2, e3, e4, e5, e6, e7⟩ := RowAt.c8 (h.get i hi)
  go_enter Try.func31, Try.ntmps31
  go_wp2_with fail
  go_ret
  exact ⟨rfl, rfl⟩
theorem wal_Age (h : Hold W w l) (i : Nat) (hi : l[i]? = some (logRow gl vD L ql cl)) : Calls Try.prog 32 #[.pointer (some ⟨gl, 0, none⟩)] w fun e w' => e = .returned (.int .i64 L.age) ∧ w = w' := by
  obtain ⟨a0, a1, a2, a3, a4, a5, a6, a7, e0, e1, e2, e3, e4, e5, e6, e7⟩ := RowAt.c8 (h.get i hi)
  go_enter Try.func32, Try.ntmps32
  go_wp2_with fail
  go_ret
  exact ⟨rfl, rfl⟩
theorem wal_size (h : Hold W w l) (i : Nat) (hi : l[i]? = some (logRow gl (.pointer (some ⟨g, 0, none⟩)) L ql cl)) (j : Nat) (hj : l[j]? = some (diskR g a q c d)) (hok : d.Ok) :
    Calls Try.prog 53 #[.pointer (some ⟨gl, 0, none⟩)] w fun e w' => e = .returned (.int .i64 (d.halfN : Int)) ∧ w = w' := by
  obtain ⟨a0, a1, a2, a3, a4, a5, a6, a7, e0, e1, e2, e3, e4, e5, e6, e7⟩ := RowAt.c8 (h.get i hi)
  obtain ⟨D, hDn⟩ : ∃ D : Nat, d.n = D := ⟨_, rfl⟩
  obtain ⟨H, hH⟩ : ∃ H : Nat, d.halfN = H := ⟨_, rfl⟩
  have hQ2 : (D : Int) / 2 = (H : Int) := by unfold DiskD.halfN at hH; omega
  have hn2 := hok.n2
  have hH512 : H ≤ 512 := by unfold DiskD.halfN at hH; omega
  have CL := Lib.hid (hDn ▸ hLen h j hj)
  rw [hH]
  clear hDn hH h hi hj hn2 hok
  go_enter Try.func53, Try.ntmps53
  go_wp2_with ((with_reducible refine CL.out.mono ?_); rintro e wn ⟨rfl, rfl⟩)
  go_ret
  exact ⟨rfl, rfl⟩
theorem wal_Room (h : Hold W w l) (i : Nat) (hi : l[i]? = some (logRow gl (.pointer (some ⟨g, 0, none⟩)) L ql cl)) (j : Nat) (hj : l[j]? = some (diskR g a q c d)) (hok : d.Ok) (hp : L.pages ≤ 1000000) :
    Calls Try.prog 34 #[.pointer (some ⟨gl, 0, none⟩)] w fun e w' => e = .returned (.int .i64 (L.room d)) ∧ Up w w' := by
  obtain ⟨a0, a1, a2, a3, a4, a5, a6, a7, e0, e1, e2, e3, e4, e5, e6, e7⟩ := RowAt.c8 (h.get i hi)
  have hn2 := hok.n2
  have CS := Lib.hid (fun (u : Later w) => wal_size (h.next u.up) i hi j hj hok)
  unfold LogD.room
  obtain ⟨H, hH⟩ : ∃ H : Nat, d.halfN = H := ⟨_, rfl⟩
  have hH512 : H ≤ 512 := by unfold DiskD.halfN at hH; omega
  rw [hH] at CS ⊢
  clear hH h hi hj hn2 hok
  go_enter Try.func34, Try.ntmps34
  go_upto_region 1 with fail
  refine wp_region_later (by kernel_rfl) (by kernel_rfl) ?_
  have l3 := Later.cell_of a3
  have hne := later_ne w
  repeat (go_big_quiet_step ((go_at_call 53; with_reducible exact Calls.later_same (CS.out _))))
  refine wpQuiet_nil ?_
  intro w9 hw9
  obtain ⟨u9, rfl⟩ := hw9
  have hu := u9.up
  clear l3 hne CS a0 a1 a2 a3 a4 a5 a6 a7 e0 e1 e2 e3 e4 e5 e6 e7
  generalize u9.world = w9 at *
  go_wp2_with fail
  go_ret
  exact ⟨rfl, hu⟩
theorem wal_why (h : Hold W w l) (i : Nat) (hi : l[i]? = some (logRow gl vD L ql cl)) (s : ByteArray) (hs : s.size ≤ 1099511627776) :
    Calls Try.prog 42 #[.pointer (some ⟨gl, 0, none⟩), .string s] w fun e w' => e = .returned (.int .i64 (L.why s)) ∧ w = w' := by
  obtain ⟨a0, a1, a2, a3, a4, a5, a6, a7, e0, e1, e2, e3, e4, e5, e6, e7⟩ := RowAt.c8 (h.get i hi)
  obtain ⟨R, hR⟩ : ∃ R, L.why s = R := ⟨_, rfl⟩
  have HR := Lib.hid hR
  rw [hR]
  clear h hi hR
  unfold LogD.why at HR
  generalize L.turned = T at *
  by_cases hz : s.size = 0
  · have hb : s = ⟨#[]⟩ := by
      obtain ⟨x⟩ := s
      have hx : x = #[] := Array.eq_empty_of_size_eq_zero hz
      rw [hx]
    subst hb
    have hr := HR.out
    rw [if_pos (.inl rfl)] at hr
    have HR2 := Lib.hid hr
    clear hr HR
    go_enter Try.func42, Try.ntmps42
    go_wp2_with fail
    go_ret
    exact ⟨congrArg (fun x => Ending.returned (.int .i64 x)) HR2.out, rfl⟩
  · have hne : s.toList.isEmpty = false := str_nonempty hz
    have hne2 : ¬ s.toList = [] := by intro h; rw [h] at hne; cases hne
    by_cases h5 : s.size > 100000
    · have h5' : (s.size : Int) > 100000 := by omega
      have hr := HR.out
      rw [if_pos (.inr h5)] at hr
      have HR2 := Lib.hid hr
      clear hr HR
      go_enter Try.func42, Try.ntmps42
      go_wp2_with fail
      go_ret
      exact ⟨congrArg (fun x => Ending.returned (.int .i64 x)) HR2.out, rfl⟩
    · have h5' : ¬ (s.size : Int) > 100000 := by omega
      have hr := HR.out
      rw [if_neg (by omega)] at hr
      by_cases ht : T.size = 0
      · have hb : T = ⟨#[]⟩ := by
          obtain ⟨x⟩ := T
          have hx : x = #[] := Array.eq_empty_of_size_eq_zero ht
          rw [hx]
        subst hb
        rw [if_neg (by decide)] at hr
        have HR2 := Lib.hid hr
        clear hr HR
        go_enter Try.func42, Try.ntmps42
        go_wp2_with fail
        go_ret
        exact ⟨congrArg (fun x => Ending.returned (.int .i64 x)) HR2.out, rfl⟩
      · have hte : T.toList.isEmpty = false := str_nonempty ht
        have hte2 : ¬ T.toList = [] := by intro h; rw [h] at hte; cases hte
        rw [if_pos ht] at hr
        have HR2 := Lib.hid hr
        clear hr HR
        go_enter Try.func42, Try.ntmps42
        go_wp2_with fail
        go_ret
        exact ⟨congrArg (fun x => Ending.returned (.int .i64 x)) HR2.out, rfl⟩
end Go.Proofs.Ytokpkkjgagbpfaa
namespace Bw
open Go Go.RowKit
set_option linter.unusedVariables false
/-- A slice of records that is only read. -/
def RecsAt (w : World) (q : Option Addr) (rs : List ByteArray) : Prop :=
  rs ≠ [] → ∃ b o, q = some ⟨b, o, none⟩ ∧ ∀ i, (h : i < rs.length) → w.cell? ⟨b, o + i, none⟩ = some (.string rs[i])
theorem RecsAt.up {w w' : World} {q : Option Addr} {rs : List ByteArray} (h : RecsAt w q rs) (hu : Up w w') : RecsAt w' q rs := fun hne => by
  obtain ⟨b, o, hq, hc⟩ := h hne
  exact ⟨b, o, hq, fun i hi => (Below.cell (p := ⟨b, o + i, none⟩) hu (World.block_lt_of_cell? w ⟨b, o + i, none⟩ (hc i hi))).trans (hc i hi)⟩
theorem frameW_nil : frameW [] = ByteArray.empty := rfl
theorem frameL_append (a b : List ByteArray) : frameL (a ++ b) = frameL a ++ frameL b := by simp [frameL]
theorem frameW_snoc (a : List ByteArray) (x : ByteArray) : frameW (a ++ [x]) = frameW a ++ (str (toLE x.size 3) ++ x) := by
  unfold frameW
  rw [frameL_append, ← str_append]
  congr 1
  show str (toLE x.size 3 ++ lst x ++ []) = _
  rw [List.append_nil, ← str_append, str_lst]
theorem ups3 (n : Nat) : str (ups (lst (str (zeros 3))) 0 (toLE n 3)) = str (toLE n 3) := by
  rw [lst_str]
  have := ups_mid (a := []) (b := zeros 3) (c := []) (t := toLE n 3) (i := 0) rfl (by rw [zeros_len, toLE_length])
  simpa using congrArg str this
theorem frameW_size (rs : List ByteArray) (hs : ∀ x ∈ rs, x.size ≤ 100000) : (frameW rs).size ≤ 100003 * rs.length := by
  induction rs with
  | nil => exact Nat.le_refl _
  | cons x r ih =>
    have h1 := ih fun y hy => hs y (List.mem_cons_of_mem _ hy)
    have h2 := hs x List.mem_cons_self
    unfold frameW at *
    rw [size_str] at *
    show (toLE x.size 3 ++ lst x ++ frameL r).length ≤ _
    rw [List.length_append, List.length_append, toLE_length, lst_length, List.length_cons]
    omega
end Bw
namespace Go.Proofs.Ytokpkkjgagbpfaa
open Go.RowKit Bw
set_option linter.unusedVariables false
set_option maxRecDepth 100000
set_option maxHeartbeats 1000000 in
theorem wal_framed {w : World} {q : Option Addr} {c : Nat} (rs : List ByteArray) (h : RecsAt w q rs) (hs : ∀ x ∈ rs, x.size ≤ 100000) (hn : rs.length ≤ 100000) :
    Calls Try.prog 45 #[.slice q rs.length c] w fun e w' => e = .returned (.string (frameW rs)) ∧ Up w w' := by
  obtain ⟨n, hnn⟩ : ∃ n, rs.length = n := ⟨_, rfl⟩
  have HN := Lib.hid hnn
  have HS := Lib.hid hs
  have H := Lib.hid h
  obtain ⟨FIN, hF⟩ : ∃ F, frameW rs = F := ⟨_, rfl⟩
  have HF := Lib.hid hF
  rw [hnn, hF]
  rw [hnn] at hn
  clear hnn hs h hF
  go_enter Try.func45, Try.ntmps45
  go_wp2_with fail
  go_loopw [3, 10] (fun v3 v10 wr => ∃ k : Nat, v3 = .string (frameW (rs.take k)) ∧ v10 = .int .i64 (k : Int) ∧ k ≤ n ∧ Up w wr) (fun _ v _ => n - (intOf v).toNat)
  case atStart => exact ⟨0, rfl, rfl, Nat.zero_le _, Up.refl w⟩
  case round =>
  obtain ⟨k, rfl, rfl, hk, hu⟩ := hrel
  by_cases hkn : k < n
  · have hkn' : (k : Int) < (n : Int) := by omega
    have hlt : k < rs.length := by rw [HN.out]; exact hkn
    obtain ⟨b, o, rfl, hc⟩ := (H.out.up hu) (fun h => by rw [h] at hlt; exact absurd hlt (by simp))
    have hck := hc k hlt
    have hxs := HS.out _ (List.getElem_mem hlt)
    have hsn : frameW (rs.take (k + 1)) = frameW (rs.take k) ++ (str (toLE rs[k].size 3) ++ rs[k]) := by rw [List.take_succ_eq_append_getElem hlt, frameW_snoc]
    have HSN := Lib.hid hsn
    generalize rs[k] = x at *
    have hx3 : x.size < 256 ^ 3 := Nat.lt_of_le_of_lt hxs (by decide)
    have C := Lib.hid (fun w => ups3 x.size ▸ put_fits (str (zeros 3)) 0 3 x.size 0 3 rfl rfl (by rw [size_str, zeros_len]; decide) (by decide) (by decide) (by rw [size_str, zeros_len]; decide) hx3 w)
    have hz1 : (frameW (rs.take k)).size ≤ 100003 * k := Nat.le_trans (frameW_size _ fun y hy => HS.out y (List.mem_of_mem_take hy)) (by rw [List.length_take]; omega)
    have HZ := Lib.hid hz1
    clear hz1 hsn hc H hlt hx3
    have n3 : (3 : Nat) ≤ 281474976710656 := by decide
    go_upto_region 5 with fail
    go_upto_region 6 with (first
      | ((with_reducible refine wpList_makeBytes rfl _ _ 54 5 rfl Try.underlying54 u8info _ _ _ _ 3 rfl rfl rfl rfl n3 _ _ (Below.refl _ _) (Nat.le_refl _) ?_); intro g9 w9 hb9 hw9 hw9' hg9 hg9'; have hb1 : BytesAt w9 g9 0 (zeros 3) := hb9; replace hu := Up.trans hu hw9'; clear hw9 hw9' hg9 hb9)
      | (with_reducible refine wpList_toString rfl _ 54 9 5 rfl Try.underlying54 Try.underlying9 Try.underlying5 (zeros 3) g9 0 3 3 rfl (zeros_len 3).symm hb1 ?_)
      | ((with_reducible refine (C.out _).mono ?_); rintro e w3 ⟨rfl, hb⟩; replace hu := Up.trans hu hb; clear hb))
    have hz1 := HZ.out
    have h3 : (str (toLE x.size 3)).size = 3 := by rw [size_str, toLE_length]
    go_wp2_with fail
    exact ⟨⟨k + 1, congrArg Value.string HSN.out.symm, rfl, by omega, hu⟩, by simp [intOf]; omega⟩
  · have hk3 : k = n := by omega
    have hkn' : ¬ (k : Int) < (n : Int) := by omega
    have hr : frameW (rs.take k) = FIN := by rw [hk3, ← HN.out, List.take_length]; exact HF.out
    rw [hr]
    clear H
    go_wp2_with fail
    go_ret
    exact ⟨rfl, hu⟩
end Go.Proofs.Ytokpkkjgagbpfaa
namespace Bw
open Go Go.RowKit
set_option linter.unusedVariables false
theorem layN_n (d : DiskD) (age : Int) (which start : Nat) (s : ByteArray) : ∀ k, (layN d age which start s k).n = d.n
  | 0 => rfl
  | k + 1 => by
    show ((layN d age which start s k).writeD _ _).n = d.n
    unfold DiskD.writeD
    split <;> exact layN_n d age which start s k
theorem layN_ok {d : DiskD} (h : d.Ok) (age : Int) (which start : Nat) (s : ByteArray) : ∀ k, (layN d age which start s k).Ok
  | 0 => h
  | k + 1 => writeD_ok (layN_ok h age which start s k) _ _
theorem ba_empty {t : ByteArray} (h : t.size = 0) : t = ByteArray.empty := by
  obtain ⟨x⟩ := t
  have hx : x = #[] := Array.eq_empty_of_size_eq_zero h
  rw [hx]; rfl
theorem set_same {α : Type _} {l : List α} {j : Nat} {x : α} (h : l[j]? = some x) : l.set j x = l := by
  apply List.ext_getElem?
  intro i
  by_cases hi : j = i
  · subst hi; rw [List.getElem?_set_self (List.getElem?_eq_some_iff.1 h).1, h]
  · rw [List.getElem?_set_ne hi]
theorem extract_min (s : ByteArray) (k : Nat) : (s.extract (234 * k) s.size).extract 0 (min 234 (s.size - 234 * k)) = s.extract (234 * k) (min s.size (234 * k + 234)) := by
  rw [ByteArray.extract_extract]
  congr 1 <;> omega
theorem extract_next (s : ByteArray) (k : Nat) : (s.extract (234 * k) s.size).extract (min 234 (s.size - 234 * k)) (s.size - 234 * k) = s.extract (234 * (k + 1)) s.size := by
  rw [ByteArray.extract_extract]
  by_cases h : 234 * k + 234 ≤ s.size
  · congr 1 <;> omega
  · rw [Nat.min_eq_right (by omega)]
    have e : ∀ x y, y ≤ x → s.extract x y = ByteArray.empty := fun x y hxy => by
      apply ba_empty
      rw [ByteArray.size_extract]; omega
    rw [e _ _ (by omega), e _ _ (by omega)]
theorem hold_last4 {W w : World} {A : List Res} {g : Nat} {a b c d : Value} (h : Hold W w (A ++ [rowR g a [b, c, d]])) (v0 v1 v2 v3 : Value) :
    Hold W ((((w.setCell ⟨g, 0, none⟩ v0).setCell ⟨g, 1, none⟩ v1).setCell ⟨g, 2, none⟩ v2).setCell ⟨g, 3, none⟩ v3) (A ++ [rowR g v0 [v1, v2, v3]]) := by
  have e : ∀ R : Res, (A ++ [R])[A.length]? = some R := by simp
  have s : ∀ R R' : Res, (A ++ [R]).set A.length R' = A ++ [R'] := by simp
  have h0 := h.putRow A.length (e _) 0 v0 v0 [b, c, d] (by simp) rfl
  rw [s] at h0
  have h1 := h0.putRow A.length (e _) 1 v1 v0 [v1, c, d] (by simp) rfl
  rw [s] at h1
  have h2 := h1.putRow A.length (e _) 2 v2 v0 [v1, v2, d] (by simp) rfl
  rw [s] at h2
  have h3 := h2.putRow A.length (e _) 3 v3 v0 [v1, v2, v3] (by simp) rfl
  rw [s] at h3
  exact h3
end Bw
namespace Go.Proofs.Ytokpkkjgagbpfaa
open Go.RowKit Bw
set_option linter.unusedVariables false
set_option maxRecDepth 100000
variable {W w : World} {l : List Res} {g a c gl cl : Nat} {q : Option Nat} {ql : Option Addr} {d : DiskD} {L : LogD}
set_option maxHeartbeats 2000000 in
theorem wal_lay (h : Hold W w l) (i : Nat) (hi : l[i]? = some (logRow gl (.pointer (some ⟨g, 0, none⟩)) L ql cl)) (j : Nat) (hj : l[j]? = some (diskR g a q c d)) (hij : i ≠ j) (hc : c + 100000000 ≤ 1099511627776) (hok : d.Ok)
    (hA : 0 ≤ L.age ∧ L.age < 281474976710656) (which start : Nat) (hw : which ≤ 1) (hst : start ≤ 1000) (s : ByteArray) (hs : s.size ≤ 100000000) (hfit : start + needW s.size ≤ 60000) :
    Calls Try.prog 49 #[.pointer (some ⟨gl, 0, none⟩), .string s, .int .i64 (which : Int), .int .i64 (start : Int)] w fun e w' => e = .returned (.int .i64 (needW s.size : Int)) ∧ ∃ q', Hold W w' (l.set j (diskR g a q' (c + needW s.size) (layD d L.age which start s))) := by
  obtain ⟨N, hN⟩ : ∃ N, needW s.size = N := ⟨_, rfl⟩
  have HD0 := Lib.hid h
  have HI := Lib.hid hi
  have HJ := Lib.hid hj
  have HN := Lib.hid hN
  have CN := Lib.hid (hN ▸ wal_need s.size (by omega) w)
  unfold layD
  rw [hN]
  rw [hN] at hfit
  clear h hi hj hN
  go_enter Try.func49, Try.ntmps49
  go_wp2_with ((with_reducible refine CN.out.mono ?_); rintro e wn ⟨rfl, rfl⟩)
  go_loopw [1, 17] (fun v1 v17 wr => ∃ (k : Nat) (q' : Option Nat), v1 = .string (s.extract (234 * k) s.size) ∧ v17 = .int .i64 (k : Int) ∧ k ≤ N ∧ Hold W wr (l.set j (diskR g a q' (c + k) (layN d L.age which start s k)))) (fun _ v _ => N - (intOf v).toNat)
  case atStart => exact ⟨0, q, by rw [Nat.mul_zero, ByteArray.extract_zero_size], rfl, Nat.zero_le _, by
    have : l.set j (diskR g a q (c + 0) (layN d L.age which start s 0)) = l := set_same HJ.out
    rw [this]; exact HD0.out⟩
  case round =>
  obtain ⟨k, q', rfl, rfl, hk, hD⟩ := hrel
  have hjl : j < l.length := by rcases Nat.lt_or_ge j l.length with h | h; exact h; have := HJ.out; rw [List.getElem?_eq_none h] at this; cases this
  have hi2 : (l.set j (diskR g a q' (c + k) (layN d L.age which start s k)))[i]? = some (logRow gl (.pointer (some ⟨g, 0, none⟩)) L ql cl) := by rw [List.getElem?_set_ne (Ne.symm hij)]; exact HI.out
  have hj2 : (l.set j (diskR g a q' (c + k) (layN d L.age which start s k)))[j]? = some (diskR g a q' (c + k) (layN d L.age which start s k)) := List.getElem?_set_self hjl
  by_cases hkn : k < N
  · have hkn' : (k : Int) < (N : Int) := by omega
    have hlt : 234 * k < s.size := by have := HN.out; unfold needW at this; omega
    have hT : (s.extract (234 * k) s.size).size = s.size - 234 * k := by rw [ByteArray.size_extract]; omega
    have hx1 := extract_min s k
    have hx2 := extract_next s k
    obtain ⟨M, hM⟩ : ∃ M, min 234 (s.size - 234 * k) = M := ⟨_, rfl⟩
    rw [hM] at hx1 hx2
    rw [← hT] at hx2
    have HX1 := Lib.hid hx1
    have HX2 := Lib.hid hx2
    have hMT : M = min 234 (s.extract (234 * k) s.size).size := by rw [hT, hM]
    clear hx1 hx2 hT hM
    generalize s.extract (234 * k) s.size = T at *
    have hMI : min (234 : Int) (T.size : Int) = (M : Int) := by omega
    have HMI := Lib.hid hMI
    clear hMI
    go_upto_region 6 with fail
    rw [HMI.out]
    obtain ⟨a0, a1, a2, a3, a4, a5, a6, a7, e0, e1, e2, e3, e4, e5, e6, e7⟩ := RowAt.c8 (hD.get i hi2)
    have m1 : (M : Int) ≤ (T.size : Int) := by omega
    have HMT := Lib.hid hMT
    clear hMT
    refine wp_region_tail 15 (by kernel_rfl) (by kernel_rfl) (by kernel_rfl) (by kernel_rfl) ?_
    refine wpHeadS_quiet 0 14 1 57 (by rfl) (by kernel_rfl) (fun _ _ _ _ _ h => h) (by kernel_rfl) (by kernel_rfl) ?_
    apply Exists.intro
    refine ⟨fun w1 hw1 => ?_, ?_⟩
    · have l2 := Later.of_base a2 hw1
      have hne := later_ne w1
      simp only [List.drop_zero, List.take_succ_cons, List.take_zero]
      repeat (go_big_quiet_step (fail))
      exact wpQuiet_nil rfl
    rw [HX1.out]
    clear a0 a1 a2 a3 a4 a5 a6 a7 e0 e1 e2 e3 e4 e5 e6 e7
    have HLay := Lib.hid (show layN d L.age which start s (k + 1) = (layN d L.age which start s k).writeD ((which * d.halfN + start + k : Nat) : Int) (leafS L.age.toNat (start + k) (decide (k = 0)) (s.extract (234 * k) (min s.size (234 * k + 234)))) from rfl)
    generalize s.extract (234 * k) (min s.size (234 * k + 234)) = XB at *
    refine wpHeadS_one 14 0 (by rfl) (by kernel_rfl) (by kernel_rfl) ?_
    intro w1 hw1
    simp only [List.drop_succ_cons, List.drop_zero, List.take_succ_cons, List.take_zero]
    go_wp2_with fail
    refine ⟨(Up.refl w1).alloc _, ?_⟩
    replace hD := (hD.next hw1).madeRow (.int .i64 0) [.int .i64 0, .bool false, .string ⟨#[]⟩] 100
    generalize w1.heap.size = gx at *
    generalize w1.alloc _ = w2 at *
    refine wpHeadS_tail (by rfl) (by kernel_rfl) ?_
    intro w3 hw3
    replace hD := hD.next hw3
    have hx4 : (l.set j (diskR g a q' (c + k) (layN d L.age which start s k)) ++ [rowR gx (.int .i64 0) [.int .i64 0, .bool false, .string ⟨#[]⟩]])[l.length]? = some (rowR gx (.int .i64 0) [.int .i64 0, .bool false, .string ⟨#[]⟩]) := by
      rw [List.getElem?_append_right (by rw [List.length_set]; exact Nat.le_refl _), List.length_set, Nat.sub_self]; rfl
    obtain ⟨⟨x0, x1, x2, x3⟩, x4, x5, x6, x7⟩ := RowAt.c4 (hD.get l.length hx4)
    simp only [List.drop_succ_cons, List.drop_zero]
    go_upto_region 7 with fail
    replace hD := hold_last4 hD (.int .i64 L.age) (.int .i64 ((start : Int) + (k : Int))) (.bool ((k : Int) == 0)) (.string XB)
    clear x0 x1 x2 x3 x4 x5 x6 x7 hx4
    generalize World.setCell _ _ _ = w4 at *
    have hll : (l.set j (diskR g a q' (c + k) (layN d L.age which start s k))).length = l.length := List.length_set
    have hil : i < l.length := by rcases Nat.lt_or_ge i l.length with h | h; exact h; have := HI.out; rw [List.getElem?_eq_none h] at this; cases this
    have hi4 : (l.set j (diskR g a q' (c + k) (layN d L.age which start s k)) ++ [rowR gx (.int .i64 L.age) [.int .i64 ((start : Int) + (k : Int)), .bool ((k : Int) == 0), .string XB]])[i]? = some (logRow gl (.pointer (some ⟨g, 0, none⟩)) L ql cl) := by rw [List.getElem?_append_left (by rw [hll]; exact hil)]; exact hi2
    have hj4 : (l.set j (diskR g a q' (c + k) (layN d L.age which start s k)) ++ [rowR gx (.int .i64 L.age) [.int .i64 ((start : Int) + (k : Int)), .bool ((k : Int) == 0), .string XB]])[j]? = some (diskR g a q' (c + k) (layN d L.age which start s k)) := by rw [List.getElem?_append_left (by rw [hll]; exact hjl)]; exact hj2
    have hx4 : (l.set j (diskR g a q' (c + k) (layN d L.age which start s k)) ++ [rowR gx (.int .i64 L.age) [.int .i64 ((start : Int) + (k : Int)), .bool ((k : Int) == 0), .string XB]])[l.length]? = some (rowR gx (.int .i64 L.age) [.int .i64 ((start : Int) + (k : Int)), .bool ((k : Int) == 0), .string XB]) := by
      rw [List.getElem?_append_right (by rw [hll]; exact Nat.le_refl _), hll, Nat.sub_self]; rfl
    obtain ⟨a0, a1, a2, a3, a4, a5, a6, a7, e0, e1, e2, e3, e4, e5, e6, e7⟩ := RowAt.c8 (hD.get i hi4)
    obtain ⟨⟨x0, x1, x2, x3⟩, x4, x5, x6, x7⟩ := RowAt.c4 (hD.get l.length hx4)
    have CS := Lib.hid (fun (u : Later w4) => wal_size (hD.next u.up) i hi4 j hj4 (layN_ok hok _ _ _ _ k))
    have hHN : (layN d L.age which start s k).halfN = d.halfN := by unfold DiskD.halfN; rw [layN_n]
    rw [hHN] at CS
    obtain ⟨Hf, hHf⟩ : ∃ Hf : Nat, d.halfN = Hf := ⟨_, rfl⟩
    have hHf2 : Hf ≤ 512 := by have := hok.n2; unfold DiskD.halfN at hHf; omega
    obtain ⟨P, hP⟩ : ∃ P : Nat, which * Hf = P := ⟨_, rfl⟩
    have hP2 : P ≤ 512 := by
      rcases Nat.le_one_iff_eq_zero_or_eq_one.1 hw with h | h <;> subst h <;> omega
    have hmul : (which : Int) * (Hf : Int) = (P : Int) := by rw [← hP, Int.natCast_mul]
    have hkb : ((k : Int) == 0) = decide (k = 0) := by rw [Bool.eq_iff_iff]; simp
    have hXB : XB.size ≤ 234 := by
      have h1 := HX1.out
      have h2 := HMT.out
      rw [← h1, ByteArray.size_extract]
      clear hmul
      omega
    have LT := Lib.hid (fun w => show Calls Try.prog 73 #[.agg #[.int .i64 L.age, .int .i64 ((start : Int) + (k : Int)), .bool ((k : Int) == 0), .string XB]] w fun e w' => e = .returned (.string (leafS L.age.toNat (start + k) (decide (k = 0)) XB)) ∧ Below w.heap.size w w' from by
      have := leaf_text L.age.toNat (start + k) (decide (k = 0)) XB (by omega) (by omega) hXB w
      rw [Int.toNat_of_nonneg hA.1, ← hkb] at this
      rw [hkb] at this ⊢
      exact this)
    rw [hHf] at CS
    have HB0 := Lib.hid hkb
    have HHf := Lib.hid hHf
    have HP := Lib.hid hP
    clear hkb hHf hP
    have hLF : (leafS L.age.toNat (start + k) (decide (k = 0)) XB).size ≤ 1099511627776 := by
      show (str (leafL _ _ _ (lst XB))).size ≤ _
      rw [size_str, leafL_len _ _ _ _ (by rw [lst_length]; exact hXB)]; decide
    generalize leafS L.age.toNat (start + k) (decide (k = 0)) XB = LF at *
    refine wp_region_later_tail 14 (by kernel_rfl) (by kernel_rfl) ?_
    have l0 := Later.cell_of a0
    have l1 := Later.cell_of x0
    have l2 := Later.cell_of x1
    have l3 := Later.cell_of x2
    have l4 := Later.cell_of x3
    have hne := later_ne w4
    simp only [List.take_succ_cons, List.take_zero]
    repeat (go_big_quiet_step (first | (go_at_call 53; with_reducible exact Calls.later_same (CS.out _)) | (go_at_call 73; with_reducible exact Calls.later (LT.out _))))
    refine wpQuiet_nil ?_
    intro w9 hw9
    obtain ⟨u9, rfl⟩ := hw9
    replace hD := hD.next u9.up
    clear l0 l1 l2 l3 l4 hne CS LT a0 a1 a2 a3 a4 a5 a6 a7 e0 e1 e2 e3 e4 e5 e6 e7 x0 x1 x2 x3 x4 x5 x6 x7
    generalize u9.world = w9 at *
    have HWr := Lib.hid (hWrite hD j hj4 (by omega) ((P : Int) + (start : Int) + (k : Int)) LF hLF)
    simp only [List.drop_succ_cons, List.drop_zero]
    clear hmul
    go_upto_region 8 with ((with_reducible refine HWr.out.mono ?_); rintro e w10 ⟨rfl, q2, hE⟩)
    rw [List.set_append_left _ _ (by rw [hll]; exact hjl), List.set_set] at hE
    replace hE := hE.sub (List.sublist_append_left _ [_])
    have hpos : ((which * d.halfN + start + k : Nat) : Int) = (P : Int) + (start : Int) + (k : Int) := by rw [HHf.out, HP.out]; omega
    have hl := HLay.out
    rw [hpos] at hl
    rw [← hl] at hE
    clear hl hpos HWr hD
    go_wp2_with fail
    exact ⟨⟨k + 1, q2, congrArg Value.string HX2.out, rfl, by omega, hE⟩, by simp [intOf]; omega⟩
  · have hk3 : k = N := by omega
    have hkn' : ¬ (k : Int) < (N : Int) := by omega
    subst hk3
    have hE := Lib.hid hD
    clear hD hi2 hj2
    go_wp2_with fail
    go_ret
    exact ⟨rfl, q', hE.out⟩
end Go.Proofs.Ytokpkkjgagbpfaa
