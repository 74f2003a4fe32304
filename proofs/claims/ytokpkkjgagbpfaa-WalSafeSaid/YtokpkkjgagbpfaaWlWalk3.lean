/- Layer 6: whole records. -/
import Derived.Test.YtokpkkjgagbpfaaWlWalk2
import Derived.Test.YtokpkkjgagbpfaaWlPlainA
namespace Bw
open Go Go.RowKit
def strC (l : List ByteArray) : List Value := l.map Value.string
theorem strC_append (a b : List ByteArray) : strC (a ++ b) = strC a ++ strC b := by simp [strC]
theorem strC_length (a : List ByteArray) : (strC a).length = a.length := by simp [strC]
theorem strC_one (l : List ByteArray) : ∀ u ∈ strC l, u.oneCell' = true := by
  intro u hu
  obtain ⟨x, -, rfl⟩ := List.mem_map.1 hu
  rfl
def strLen (v : Value) : Nat := match v with | .string s => s.size | _ => 0
end Bw
namespace Go.Proofs.Ytokpkkjgagbpfaa
open Go.RowKit Bw
set_option linter.unusedVariables false
set_option maxRecDepth 100000
theorem infoStr : ∃ i, Try.prog.info? 9 = some i ∧ i.zero = some (.string ⟨#[]⟩) ∧ i.size = 1 ∧ i.bytes = 16 := by
  refine ⟨_, rfl, ?_, ?_, ?_⟩ <;> kernel_rfl
/-- What a half has, while it is gone through: its row, and its records. -/
abbrev hsR (g : Nat) (A : Int) (q : Option Addr) (c : Nat) (P : Nat) (recs : List ByteArray) (T : List Res) : List Res :=
  rowR g (.int .i64 A) [.slice q recs.length c, .int .i64 (P : Int)] :: ownZ 9 1 (.slice q recs.length c) recs.length (strC recs) :: T
variable {W w : World} {g c P : Nat} {q : Option Addr} {A : Int} {recs : List ByteArray} {T : List Res}
set_option maxHeartbeats 1000000 in
theorem wal_take (h : Hold W w (hsR g A q c P recs T)) (hn : recs.length ≤ 10000000) (x : ByteArray) :
    Calls Try.prog 65 #[.string x, .pointer (some ⟨g, 0, none⟩)] w fun e w' => e = .returned (.tuple #[]) ∧ ∃ q' c', Hold W w' (hsR g A q' c' P (recs ++ [x]) T) := by
  obtain ⟨inf, hi0', hz0, hz1, hz2⟩ := infoStr
  have HC := Lib.hid (show strC recs ++ [.string x] = strC (recs ++ [x]) by simp [strC])
  obtain ⟨n, hnn⟩ : ∃ n, recs.length = n := ⟨_, rfl⟩
  have HL := Lib.hid (show n + 1 = (recs ++ [x]).length by simp [hnn])
  have hh : Hold W w (rowR g (.int .i64 A) [.slice q n c, .int .i64 (P : Int)] :: ownZ 9 1 (.slice q n c) n (strC recs) :: T) := by rw [← hnn]; exact h
  have hn' : n ≤ 10000000 := by omega
  have HD := Lib.hid hh
  obtain ⟨p0, p1, p2, y0, y1, y2⟩ := RowAt.c3 (hh.get 0 rfl)
  clear h hh hnn hn
  go_enter Try.func65, Try.ntmps65
  go_wp2_with ((with_reducible refine wpList_at 7 ?_); have hF := HD.out.madeRow (.string x) [] 9; have r7 : RowAt _ w.heap.size [.string x] := hF.get (R := rowR w.heap.size (.string x) []) (T.length + 2) (by simp); refine wpList_appendZ rfl _ _ 49 rfl 9 inf (.string ⟨#[]⟩) 1 16 (by kernel_rfl) hi0' hz0 hz1 hz2 rfl (by decide) hF 1 _ (strC recs) n rfl rfl ⟨w.heap.size, 0, none⟩ 1 [.string x] rfl rfl r7.addsAt (strC_one [x]) (by unfold maxLen; omega) (by omega) ?_; intro b9 c9 w6 hw; have hG := hw; clear hw hF r7 p0 p1 p2 y0 y1 y2; obtain ⟨p0, p1, p2, y0, y1, y2⟩ := RowAt.c3 (hG.get 0 rfl))
  replace hG := hG.putRow 0 (g := g) rfl 1 (.slice (some ⟨b9, 0, none⟩) (n + 1) c9) (.int .i64 A) [.slice (some ⟨b9, 0, none⟩) (n + 1) c9, .int .i64 (P : Int)] (by simp) rfl
  replace hG : Hold W _ (rowR g (.int .i64 A) [.slice (some ⟨b9, 0, none⟩) (n + 1) c9, .int .i64 (P : Int)] :: ownZ 9 1 (.slice (some ⟨b9, 0, none⟩) (n + 1) c9) (n + 1) (strC recs ++ [.string x]) :: (T ++ [rowR w.heap.size (.string x) []])) := hG
  replace hG := hG.sub (l' := rowR g (.int .i64 A) [.slice (some ⟨b9, 0, none⟩) (n + 1) c9, .int .i64 (P : Int)] :: ownZ 9 1 (.slice (some ⟨b9, 0, none⟩) (n + 1) c9) (n + 1) (strC recs ++ [.string x]) :: T) (.cons_cons _ (.cons_cons _ (List.sublist_append_left T [_])))
  generalize w6.setCell _ _ = w9 at *
  rw [HC.out, HL.out] at hG
  go_end0
  exact ⟨rfl, _, _, hG⟩
set_option maxHeartbeats 1000000 in
theorem wal_whole (h : Hold W w (hsR g A q c P recs T)) (s : ByteArray) (hs : s.size ≤ 1000000) (hn : recs.length + s.size ≤ 10000000) :
    Calls Try.prog 64 #[.string s, .func (.func 65) #[] #[.pointer (some ⟨g, 0, none⟩)]] w fun e w' => e = .returned (.string (wholeW s).2) ∧ ∃ q' c', Hold W w' (hsR g A q' c' P (recs ++ (wholeW s).1) T) := by
  have HS := Lib.hid h
  clear h
  go_enter Try.func64, Try.ntmps64
  go_wp2_with fail
  go_loopw [0] (fun v0 wr => ∃ (t : ByteArray) (rs : List ByteArray) (q : Option Addr) (c : Nat), v0 = .string t ∧ Hold W wr (hsR g A q c P (recs ++ rs) T) ∧ wholeW s = (rs ++ (wholeW t).1, (wholeW t).2) ∧ t.size + rs.length ≤ s.size) (fun v _ => strLen v)
  case atStart => exact ⟨s, [], q, c, rfl, by rw [List.append_nil]; exact HS.out, by simp, by simp⟩
  case round =>
  obtain ⟨t, rs, q, c, rfl, hD, hw, hz⟩ := hrel
  have HW := Lib.hid hw
  clear hw
  have ht0 : t.size ≤ 1000000 := by omega
  by_cases h3 : 3 ≤ t.size
  · have h3' : (t.size : Int) ≥ 3 := by omega
    have CN := Lib.hid (fun w => wal_num t (by omega) 0 3 (by decide) w)
    obtain ⟨n0, n1⟩ := getV_range t 0 3 (by decide)
    obtain ⟨N, hN⟩ : ∃ N : Nat, getV t 0 3 = (N : Int) := ⟨(getV t 0 3).toNat, by omega⟩
    have hrn : recN t = N := by unfold recN; omega
    rw [hN] at CN n1
    clear hN n0
    by_cases he : 3 + N ≤ t.size
    · have hm := whole_more h3 (by rw [hrn]; exact he)
      rw [hrn] at hm
      have CT := Lib.hid (fun w1 (hh : Hold W w1 (hsR g A q c P (recs ++ rs) T)) => wal_take hh (by rw [List.length_append]; omega) (t.extract 3 (3 + N)))
      have hx : (t.extract (3 + N) t.size).size = t.size - (3 + N) := by rw [ByteArray.size_extract]; omega
      have HM := Lib.hid hm
      have HX := Lib.hid hx
      have HD := Lib.hid hD
      have HZ := Lib.hid hz
      have e1 : ¬ (t.size : Int) < 3 + (N : Int) := by omega
      have HE := Lib.hid he
      have H3 := Lib.hid h3
      clear hm hx hrn hD hz hs hn
      go_upto_region 3 with ((with_reducible refine (CN.out _).mono ?_); rintro e wn ⟨rfl, rfl⟩)
      clear h3 h3' he ht0 n1
      go_upto_region 4 with fail
      have hD := HD.out
      clear HD
      have f1 : (0 : Int) ≤ (N : Int) := by omega
      have f2 : ((3 : Int) + (N : Int)).toNat = 3 + N := by omega
      go_upto_region 5 with ((with_reducible refine (CT.out _ hD).mono ?_); rintro e wn ⟨rfl, q1, c1, hD1⟩)
      clear hD CT
      go_wp2_with fail
      have hx := HX.out
      have hm := HM.out
      have hz := HZ.out
      have h3 := H3.out
      refine ⟨⟨t.extract (3 + N) t.size, rs ++ [t.extract 3 (3 + N)], q1, c1, rfl, ?_, ?_, ?_⟩, ?_⟩
      · rw [← List.append_assoc]; exact hD1
      · rw [HW.out, hm, List.append_assoc]; rfl
      · rw [hx, List.length_append, List.length_singleton]; omega
      · simp only [strLen]; omega
    · have hm := whole_stop (s := t) (by rw [hrn]; omega)
      have e1 : (t.size : Int) < 3 + (N : Int) := by omega
      have HM := Lib.hid hm
      have HD := Lib.hid hD
      clear hm hrn hD hz hs hn
      go_upto_region 3 with ((with_reducible refine (CN.out _).mono ?_); rintro e wn ⟨rfl, rfl⟩)
      clear h3 h3' he ht0 n1
      go_wp2_with fail
      go_ret
      have hw := HW.out
      rw [HM.out] at hw
      rw [hw]
      exact ⟨rfl, q, c, by rw [List.append_nil]; exact HD.out⟩
  · have hm := whole_stop (s := t) (by omega)
    have h3' : ¬ (t.size : Int) ≥ 3 := by omega
    have HM := Lib.hid hm
    have HD := Lib.hid hD
    clear hm hD hz hs hn
    go_wp2_with fail
    go_ret
    have hw := HW.out
    rw [HM.out] at hw
    rw [hw]
    exact ⟨rfl, q, c, by rw [List.append_nil]; exact HD.out⟩
end Go.Proofs.Ytokpkkjgagbpfaa
