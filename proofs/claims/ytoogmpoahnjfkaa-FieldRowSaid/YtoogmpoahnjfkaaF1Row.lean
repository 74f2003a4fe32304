import Derived.Test.YtoogmpoahnjfkaaField1Fixed
import Derived.Test.YtoogmpoahnjfkaaF1RowPure
import Derived.OpenShut
import Derived.Test.YtoogmpoahnjfkaaRegionLaw
namespace Go.Proofs.Ytoogmpoahnjfkaa
open Go.RowKit Bw
set_option linter.unusedVariables false

/-- A slice of strings, as the walk is told of it. -/
structure StrsAt (w : World) (g off : Nat) (ss : List ByteArray) : Prop where
  cell : ∀ j (h : j < ss.length), w.cell? ⟨g, off + j, none⟩ = some (.string ss[j])
  size : ∀ s ∈ ss, s.size ≤ maxLen

theorem StrsAt.up {W w : World} {g off : Nat} {ss : List ByteArray} (h : StrsAt W g off ss) (hu : Up W w) (hg : g < W.heap.size) : StrsAt w g off ss :=
  ⟨fun j hj => (Below.cell hu (p := ⟨g, off + j, none⟩) hg).trans (h.cell j hj), h.size⟩

theorem row_take (ss : List ByteArray) (k : Nat) (hk : k < ss.length) (h20 : k < 20) : ((ss.map cut40).take 20).take (k + 1) = ((ss.map cut40).take 20).take k ++ [cut40 ss[k]] := by
  rw [List.take_succ_eq_append_getElem (by simp; omega)]
  simp

set_option maxHeartbeats 2000000 in
set_option maxRecDepth 100000 in
theorem row_walk (a : Option Addr) (g off n cap : Nat) (ss : List ByteArray) (w : World) (ha : 0 < n → a = some ⟨g, off, none⟩) (hS : StrsAt w g off ss) (hn : n = ss.length) (hcap : n ≤ cap) (hcap2 : cap ≤ maxLen) (hg : 0 < n → g < w.heap.size) :
    Calls Try.prog 9 #[.slice a n cap] w fun e w' => e = .returned (.bool true) ∧ Below w.heap.size w w' := by
  unfold maxLen at hcap2
  have hu := Up.refl w
  have HA := Lib.hid ha; have HG := Lib.hid hg; clear ha hg
  have Hn := Lib.hid hn; clear hn
  have C5 := Lib.hid law1_fixed
  have c0 : ∀ w, Calls Try.prog 21 #[.string ⟨#[]⟩, .int .i64 1000] w fun e w' => e = .returned (.tuple #[.string (rowS []), .int .i64 0]) ∧ Below w.heap.size w w' := fun w => by
    have := field_Pad ByteArray.empty (1000 : Nat) w (by decide +kernel)
    rw [padS_of (by decide +kernel) (by decide +kernel), padE_of (by decide +kernel) (by decide +kernel)] at this
    exact this
  have C0 := Lib.hid c0; clear c0
  have hz0 : (rowS []).size = 1000 := rowS_size [] (by simp [frames])
  have hT : ∀ t ∈ (ss.map cut40).take 20, t.size ≤ 40 := fun t ht => by
    have := List.mem_of_mem_take ht
    obtain ⟨x, _, rfl⟩ := List.mem_map.1 this
    exact cut40_size x
  have HT := Lib.hid hT; clear hT
  have hfr : ∀ k, (frames (((ss.map cut40).take 20).take k)).length ≤ 820 := fun k => by
    have h1 := frames_le (((ss.map cut40).take 20).take k) (fun t ht => HT.out t (List.mem_of_mem_take ht))
    have h2 : (((ss.map cut40).take 20).take k).length ≤ 20 := by simp; omega
    omega
  have HF := Lib.hid hfr; clear hfr
  have hTl : ((ss.map cut40).take 20).length = min 20 ss.length := by simp
  have HL := Lib.hid hTl; clear hTl
  go_enter Try.func9, Try.ntmps9
  go_wp2_with (first
    | (with_reducible refine (C0.out _).mono ?_; rintro e w1 ⟨rfl, hw1⟩; replace hu := hu.next hw1; clear hw1))
  clear hz0
  go_loopw [3, 5, 6] (fun s a c wr => ∃ k x : Nat, k ≤ n ∧ k ≤ 20 ∧ c = .int .i64 k ∧ s = .string (rowS (((ss.map cut40).take 20).take k)) ∧ a = .int .i64 x ∧ Hid (x = (frames (((ss.map cut40).take 20).take k)).length) ∧ Up w wr) (fun _ _ c _ => n - (intOf c).toNat)
  case atStart => exact ⟨0, 0, by omega, by omega, rfl, rfl, rfl, by show _ = _; simp [frames], hu⟩
  case round =>
    obtain ⟨k, x, hkn, hk20, rfl, rfl, rfl, HX, hur⟩ := hrel
    clear hu
    have hx8 : x ≤ 820 := by have := HF.out k; have := HX.out; omega
    by_cases hk : k < n ∧ k < 20
    · obtain ⟨hk1, hk2⟩ := hk
      have ha' := HA.out (by omega)
      subst ha'
      clear HA
      have hSr := hS.up hur (HG.out (by omega))
      have hlt : k < ss.length := by rw [← Hn.out]; exact hk1
      have hcell := hSr.cell k hlt
      have hsz := hSr.size _ (List.getElem_mem hlt)
      have htk := row_take ss k hlt hk2
      have hc40 := cut40_size ss[k]
      have hput := row_put (((ss.map cut40).take 20).take k) (cut40 ss[k]) hc40 (by have := HF.out k; omega)
      rw [← htk, ← HX.out] at hput
      have hr1 := rowS_size (((ss.map cut40).take 20).take k) (by have := HF.out k; omega)
      have hr2 := rowS_size (((ss.map cut40).take 20).take (k + 1)) (by have := HF.out (k + 1); omega)
      have c1 := fun w => field_PutText (rowS (((ss.map cut40).take 20).take k)) x (cut40 ss[k]) w (by omega) (by omega)
      rw [hput.1, hput.2.1, hput.2.2] at c1
      clear hput hr1 htk
      have C1 := Lib.hid c1; clear c1
      generalize hY : (frames (((ss.map cut40).take 20).take (k + 1))).length = y at *
      have HY := Lib.hid hY; clear hY
      have hcut : (ss[k].size ≤ 40 ∧ cut40 ss[k] = ss[k]) ∨ (40 < ss[k].size ∧ cut40 ss[k] = ss[k].extract 0 40) := by
        by_cases h : ss[k].size ≤ 40
        · exact .inl ⟨h, by simp [cut40, h]⟩
        · exact .inr ⟨by omega, by simp [cut40, h]⟩
      unfold maxLen at hsz
      have hl := Later.cell_of hcell
      clear hSr hc40 hcell
      generalize rowS (((ss.map cut40).take 20).take k) = X at *
      generalize hYY : rowS (((ss.map cut40).take 20).take (k + 1)) = Y at *
      have HYY := Lib.hid hYY; clear hYY
      generalize cut40 ss[k] = t at *
      generalize ss[k] = z at *
      have hb1 : (0 : Int) ≤ (k : Int) := by omega
      have hb2 : (k : Int) < (n : Int) := by omega
      rcases hcut with ⟨hz, rfl⟩ | ⟨hz, rfl⟩
      · go_wp2_with fail
        have hne := later_ne wr
        refine wp_region_later (by kernel_rfl) (by kernel_rfl) ?_
        repeat (go_big_quiet_step ((go_at_call 17; exact Calls.later (C1.out _))))
        refine wpQuiet_nil ?_
        intro w9 hw9
        obtain ⟨u9, rfl⟩ := hw9
        clear hne hl hb1 hb2
        have hu9 := hur.trans u9.up
        generalize u9.world = w9 at *
        go_wp2_with fail
        go_roundw
        case rel => exact ⟨k + 1, y, by omega, by omega, by go_num, by rw [HYY.out], rfl, HY.out.symm, hu9⟩
        case measure => simp [intOf]; omega
      · go_wp2_with fail
        have hne := later_ne wr
        refine wp_region_later (by kernel_rfl) (by kernel_rfl) ?_
        repeat (go_big_quiet_step ((go_at_call 17; exact Calls.later (C1.out _))))
        refine wpQuiet_nil ?_
        intro w9 hw9
        obtain ⟨u9, rfl⟩ := hw9
        clear hne hl hb1 hb2
        have hu9 := hur.trans u9.up
        generalize u9.world = w9 at *
        go_wp2_with fail
        go_roundw
        case rel => exact ⟨k + 1, y, by omega, by omega, by go_num, by rw [HYY.out], rfl, HY.out.symm, hu9⟩
        case measure => simp [intOf]; omega
    · have hk' : k = n ∨ k = 20 := by omega
      have hTk : ((ss.map cut40).take 20).take k = (ss.map cut40).take 20 := List.take_of_length_le (by rw [HL.out]; have := Hn.out; omega)
      have hkm : k ≤ ss.length := by have := Hn.out; omega
      have HK := Lib.hid (show k = ((ss.map cut40).take 20).length by rw [HL.out]; have := Hn.out; omega)
      rw [hTk]
      have hr1 := rowS_size ((ss.map cut40).take 20) (by have := HF.out k; rw [hTk] at this; omega)
      clear HX hx8 hTk
      generalize hX : rowS ((ss.map cut40).take 20) = X at *
      have HXX := Lib.hid hX; clear hX
      by_cases hkn' : k = n
      case' pos =>
        have hlt : ¬ k < n := by omega
        go_wp2_with fail
      case' neg =>
        have hge : 20 ≤ k := by omega
        have hlt : k < n := by omega
        go_wp2_with fail
      all_goals
        clear hk hk' hkn'
        go_loopw [5, 10] (fun a c wq => ∃ j x : Nat, j ≤ k ∧ c = .int .i64 j ∧ a = .int .i64 x ∧ Hid (x = (frames (((ss.map cut40).take 20).take j)).length) ∧ Up w wq) (fun _ c _ => k - (intOf c).toNat)
        case atStart => exact ⟨0, 0, by omega, rfl, rfl, by show _ = _; simp [frames], hur⟩
        case round =>
          obtain ⟨j, x, hjk, rfl, rfl, HX, huq⟩ := hrel
          by_cases hj : j < k
          · have hjn : j < n := by omega
            have hj20 : j < 20 := by omega
            have hlt2 : j < ss.length := by omega
            have ha' := HA.out (by omega)
            subst ha'
            clear HA
            have hSq := hS.up huq (HG.out (by omega))
            have hcell := hSq.cell j hlt2
            have hsz := hSq.size _ (List.getElem_mem hlt2)
            have htx := row_text ((ss.map cut40).take 20) HT.out j (by have := HK.out; omega)
            have hgt : ((ss.map cut40).take 20)[j]'(by have := HK.out; omega) = cut40 ss[j] := by simp
            rw [hgt, HXX.out, ← HX.out] at htx
            obtain ⟨t1, t2, t3, t4⟩ := htx
            have c2 := fun w => field_Text X x w (by omega)
            rw [t1, t2, t3, t4] at c2
            have hx8 : x ≤ 820 := by have := HF.out j; have := HX.out; omega
            have hc40 := cut40_size ss[j]
            rw [show ((x + (cut40 ss[j]).size + 1 : Nat) : Int) = (x : Int) + 1 + ((cut40 ss[j]).size : Int) by omega] at c2
            have HY := Lib.hid t4
            clear t1 t2 t3 t4 hgt
            have C2 := Lib.hid c2; clear c2
            have hcut : (ss[j].size ≤ 40 ∧ cut40 ss[j] = ss[j]) ∨ (40 < ss[j].size ∧ cut40 ss[j] = ss[j].extract 0 40) := by
              by_cases h : ss[j].size ≤ 40
              · exact .inl ⟨h, by simp [cut40, h]⟩
              · exact .inr ⟨by omega, by simp [cut40, h]⟩
            unfold maxLen at hsz
            have hl := Later.cell_of hcell
            clear hSq hcell hur
            generalize cut40 ss[j] = t at *
            generalize ss[j] = z at *
            have hb1 : (0 : Int) ≤ (j : Int) := by omega
            have hb2 : (j : Int) < (n : Int) := by omega
            have d5 : IntKind.i64.wrap ((x : Int) + 1) = (x : Int) + 1 := IntWalk.i64_in _ ⟨by omega, by omega⟩
            have d6 : IntKind.i64.wrap ((x : Int) + 1 + (t.size : Int)) = (x : Int) + 1 + (t.size : Int) := IntWalk.i64_in _ ⟨by omega, by omega⟩
            have E5 := Lib.hid d5
            have E6 := Lib.hid d6
            clear d5 d6
            have hcs : t.size ≤ 1000 := by omega
            rcases hcut with ⟨hz, hzz⟩ | ⟨hz, hzz⟩
            · subst hzz
              go_wp2_with (first
                | (with_reducible refine (C2.out _).mono ?_; rintro e w1 ⟨rfl, rfl⟩))
              have d5 := E5.out
              have d6 := E6.out
              have hne := later_ne wr
              refine wp_region_later (by kernel_rfl) (by kernel_rfl) ?_
              repeat (go_big_quiet_step (fail))
              refine wpQuiet_nil ?_
              intro w9 hw9
              obtain ⟨u9, rfl⟩ := hw9
              clear hne hl hb1 hb2 d5 d6
              have hu9 := huq.trans u9.up
              generalize u9.world = w9 at *
              go_wp2_with fail
              go_roundw
              case rel =>
                have h := HY.out
                exact ⟨j + 1, x + 1 + t.size, by omega, by go_num, by go_num, (by rw [h]; show x + 1 + t.size = _; omega), hu9⟩
              case measure => simp [intOf]; omega
            · subst hzz
              go_wp2_with (first
                | (with_reducible refine (C2.out _).mono ?_; rintro e w1 ⟨rfl, rfl⟩))
              have d5 := E5.out
              have d6 := E6.out
              have hne := later_ne wr
              refine wp_region_later (by kernel_rfl) (by kernel_rfl) ?_
              repeat (go_big_quiet_step (fail))
              refine wpQuiet_nil ?_
              intro w9 hw9
              obtain ⟨u9, rfl⟩ := hw9
              clear hne hl hb1 hb2 d5 d6
              have hu9 := huq.trans u9.up
              generalize u9.world = w9 at *
              go_wp2_with fail
              go_roundw
              case rel =>
                have h := HY.out
                have e : (z.extract 0 40).size = min 40 z.size := by simp
                exact ⟨j + 1, x + 1 + min 40 z.size, by omega, by go_num, by go_num, (by rw [h, e]; show x + 1 + min 40 z.size = _; omega), hu9⟩
              case measure => simp [intOf]; omega
          · have hjk' : j = k := by omega
            subst hjk'
            go_wp2_with (first
              | (with_reducible refine (C5.out _).mono ?_; rintro e w1 ⟨rfl, hw1⟩; replace huq := huq.next hw1; clear hw1))
            go_ret
            exact ⟨rfl, huq⟩

theorem add_strs {w : World} {a : Addr} {ss : List ByteArray} (h : ∀ i, i < ss.length → w.cell? (a.add i) = some (.string (ss.getD i ByteArray.empty))) (hs : ∀ s ∈ ss, s.size ≤ maxLen) (hl : 0 < ss.length) :
    a.spot = none ∧ StrsAt w a.block a.off ss := by
  obtain ⟨b, o, sp⟩ := a
  have h0 := h 0 hl
  have hsp : sp = none := by simpa [Addr.add] using World.cell?_spot h0
  subst hsp
  refine ⟨rfl, fun j hj => ?_, hs⟩
  have := h j hj
  rw [Bw.add_none] at this
  rw [this, List.getD_eq_getElem?_getD, List.getElem?_eq_getElem hj]; rfl

theorem row_law (a : Option Addr) (n cap : Nat) (ss : List ByteArray) (w : World)
    (h : (a = none ∧ n = 0 ∧ cap = 0) ∨ ∃ x, a = some x ∧ n ≤ cap ∧ cap ≤ maxLen ∧ n ≤ ss.length ∧ (∀ i, i < ss.length → w.cell? (x.add i) = some (.string (ss.getD i ByteArray.empty))) ∧ ∀ s ∈ ss, s.size ≤ maxLen) :
    Calls Try.prog 9 #[.slice a n cap] w fun e w' => e = .returned (.bool true) ∧ Below w.heap.size w w' := by
  rcases h with ⟨rfl, rfl, rfl⟩ | ⟨x, rfl, h1, h2, h3, h4, h5⟩
  · exact row_walk none 0 0 0 0 [] w (by omega) ⟨fun j hj => by simp at hj, fun s hs => by simp at hs⟩ rfl (Nat.le_refl _) (by unfold maxLen; omega) (by omega)
  · by_cases h0 : n = 0
    · subst h0
      exact row_walk (some x) 0 0 0 cap [] w (by omega) ⟨fun j hj => by simp at hj, fun s hs => by simp at hs⟩ rfl (Nat.zero_le _) h2 (by omega)
    · obtain ⟨hsp, hS⟩ := add_strs h4 h5 (by omega)
      obtain ⟨b, o, sp⟩ := x
      simp only at hsp hS
      subst hsp
      exact row_walk _ b o n cap (ss.take n) w (fun _ => rfl) ⟨fun j hj => by
        have hj' : j < n ∧ j < ss.length := by rw [List.length_take] at hj; omega
        rw [List.getElem_take]; exact hS.cell j hj'.2, fun s hs => h5 s (List.mem_of_mem_take hs)⟩ (by simp; omega) h1 h2
        (fun _ => World.block_lt_of_cell? w ⟨b, o + 0, none⟩ (hS.cell 0 (by omega)))
end Go.Proofs.Ytoogmpoahnjfkaa
