import Derived.Test.YtibeeomeafakgaaEnFixed
import Derived.Test.YtibeeomeafakgaaOpenLaw4
namespace Go.Proofs.Ytibeeomeafakgaa
open Go.RowKit Bw
set_option linter.unusedVariables false

theorem rec_type : RecType Try.prog 24 :=
  ⟨⟨_, _, _, _, _, _, _, _, _, _, _, _, _, rfl, Try.underlying24, by kernel_rfl, by kernel_rfl, Try.underlying3, Try.underlying3, Try.underlying9, Try.underlying9, Try.underlying3, Try.underlying3, Try.underlying3,
    Try.underlying22, Try.underlying47, by kernel_rfl, by kernel_rfl, rfl, rfl, Try.underlying9⟩⟩

theorem cut_call (F : RecD) (p : Option Addr) (c : Nat) (w : World) (hA : RecIn w F p) : Calls Try.prog 10 #[.agg #[.int .i64 (F).k, .int .i64 (F).t, .string (F).key, .string (F).val, .int .i64 (F).p, .int .i64 (F).u, .int .i64 (F).n, .slice p F.l.length c]] w
    fun e w' => ∃ q d, e = .returned (.agg #[.int .i64 (cutR F).k, .int .i64 (cutR F).t, .string (cutR F).key, .string (cutR F).val, .int .i64 (cutR F).p, .int .i64 (cutR F).u, .int .i64 (cutR F).n, .slice q (cutR F).l.length d]) ∧ PairsAt w' q (cutR F).l ∧ InB w.heap.size w'.heap.size q ∧ Below w.heap.size w w' :=
  law5_Cut F p c w hA.1.2.2 hA.1.1 ⟨hA.2.1, hA.2.2.1, hA.1.2.1⟩
theorem recIn_up {w w' : World} {F : RecD} {p : Option Addr} (h : RecIn w F p) (hu : Up w w') : RecIn w' F p :=
  ⟨⟨h.1.1, h.1.2.1, PairsAt.up h.1.2.2 hu⟩, h.2⟩
theorem cutR_l (r : RecD) : (cutR r).l.length ≤ 40 := by simp [cutR]; omega

/-- A record laid into block g. -/
def set8 (w : World) (g : Nat) (x : RecD) (v : Value) : World :=
  (((((((w.setCell ⟨g, 0, none⟩ (.int .i64 x.k)).setCell ⟨g, 1, none⟩ (.int .i64 x.t)).setCell ⟨g, 2, none⟩ (.string x.key)).setCell ⟨g, 3, none⟩ (.string x.val)).setCell ⟨g, 4, none⟩ (.int .i64 x.p)).setCell ⟨g, 5, none⟩ (.int .i64 x.u)).setCell ⟨g, 6, none⟩ (.int .i64 x.n)).setCell ⟨g, 7, none⟩ v
theorem set8_row {w : World} {g : Nat} {a0 a1 a2 a3 a4 a5 a6 a7 : Value} (h : RowAt w g [a0, a1, a2, a3, a4, a5, a6, a7]) (x : RecD) (v : Value) : RowAt (set8 w g x v) g [.int .i64 (x).k, .int .i64 (x).t, .string (x).key, .string (x).val, .int .i64 (x).p, .int .i64 (x).u, .int .i64 (x).n, v] := by
  unfold set8
  exact (((((((h.set 0 (.int .i64 x.k) (by simp)).set 1 (.int .i64 x.t) (by simp)).set 2 (.string x.key) (by simp)).set 3 (.string x.val) (by simp)).set 4 (.int .i64 x.p) (by simp)).set 5 (.int .i64 x.u) (by simp)).set 6 (.int .i64 x.n) (by simp)).set 7 v (by simp)
theorem set8_other {w : World} {g b : Nat} {l : List Value} (h : RowAt w b l) (x : RecD) (v : Value) (hne : g ≠ b) : RowAt (set8 w g x v) b l := by
  unfold set8
  exact (((((((h.other g 0 _ hne).other g 1 _ hne).other g 2 _ hne).other g 3 _ hne).other g 4 _ hne).other g 5 _ hne).other g 6 _ hne).other g 7 _ hne
theorem set8_up {W w : World} {g : Nat} (h : Up W w) (x : RecD) (v : Value) (hg : W.heap.size ≤ g) : Up W (set8 w g x v) := by
  unfold set8
  exact (((((((h.setCell g 0 _ hg).setCell g 1 _ hg).setCell g 2 _ hg).setCell g 3 _ hg).setCell g 4 _ hg).setCell g 5 _ hg).setCell g 6 _ hg).setCell g 7 _ hg
theorem set8_pairs {w : World} {g lo hi : Nat} {q : Option Addr} {l : List PairD} (h : PairsAt w q l) (hB : InB lo hi q) (x : RecD) (v : Value) (hg : g < lo) : PairsAt (set8 w g x v) q l := by
  unfold set8
  exact pairsAt_set (pairsAt_set (pairsAt_set (pairsAt_set (pairsAt_set (pairsAt_set (pairsAt_set (pairsAt_set h hB g 0 _ hg) hB g 1 _ hg) hB g 2 _ hg) hB g 3 _ hg) hB g 4 _ hg) hB g 5 _ hg) hB g 6 _ hg) hB g 7 _ hg
theorem set8_size (w : World) (g : Nat) (x : RecD) (v : Value) : (set8 w g x v).heap.size = w.heap.size := by unfold set8; simp only [World.size_setCell]

/-! The contracts over a record's letters. -/
theorem cEnc (F : RecD) (q : Option Addr) (d : Nat) (w : World) (hP : PairsAt w q F.l) (hl : F.l.length ≤ 65535) : Calls Try.prog 14 #[.agg #[.int .i64 (F).k, .int .i64 (F).t, .string (F).key, .string (F).val, .int .i64 (F).p, .int .i64 (F).u, .int .i64 (F).n, .slice q F.l.length d]] w fun e w' => e = .returned (.string F.enc) ∧ Below w.heap.size w w' :=
  rec_Encode F q d w hP (by omega)
theorem cRight (F : RecD) (q : Option Addr) (d : Nat) (w : World) (hP : PairsAt w q F.l) (hl : F.l.length ≤ 65535) : Calls Try.prog 11 #[.agg #[.int .i64 (F).k, .int .i64 (F).t, .string (F).key, .string (F).val, .int .i64 (F).p, .int .i64 (F).u, .int .i64 (F).n, .slice q F.l.length d]] w fun e w' => e = .returned (.bool F.rightR) ∧ Below w.heap.size w w' :=
  rec_Right F q d w hP (by omega)
theorem cSame (F G : RecD) (q q' : Option Addr) (d d' : Nat) (w : World) (hP : PairsAt w q F.l) (hP' : PairsAt w q' G.l) (hl : F.l.length ≤ 65535) (hl' : G.l.length ≤ 65535) :
    Calls Try.prog 16 #[.agg #[.int .i64 (F).k, .int .i64 (F).t, .string (F).key, .string (F).val, .int .i64 (F).p, .int .i64 (F).u, .int .i64 (F).n, .slice q F.l.length d], .agg #[.int .i64 (G).k, .int .i64 (G).t, .string (G).key, .string (G).val, .int .i64 (G).p, .int .i64 (G).u, .int .i64 (G).n, .slice q' G.l.length d']] w fun e w' => e = .returned (.bool (F.same G)) ∧ Below w.heap.size w w' :=
  rec_Same F G q q' d d' w hP hP' (by omega) (by omega)
theorem decO_len {s : ByteArray} {x : RecD} (h : decO s = some x) : x.l.length ≤ 65535 := by
  unfold decO at h
  obtain ⟨y, hy, h⟩ := Option.bind_eq_some_iff.1 h
  split at h
  · injection h with h
    subst h
    exact rRec_len (x := y.1) (t := y.2) hy
  · cases h
theorem decD_len (s : ByteArray) : (decD s).l.length ≤ 65535 := by
  unfold decD
  cases h : decO s
  · simp [noneR]
  · exact decO_len h
theorem cDec (s : ByteArray) (hs : s.size ≤ 1099511627776) (w : World) : Calls Try.prog 23 #[.string s] w
    fun e w' => ∃ q c, e = .returned (.tuple #[.agg #[.int .i64 (decD s).k, .int .i64 (decD s).t, .string (decD s).key, .string (decD s).val, .int .i64 (decD s).p, .int .i64 (decD s).u, .int .i64 (decD s).n, .slice q (decD s).l.length c], .int .i64 (decE s)]) ∧ PairsAt w' q (decD s).l ∧ Below w.heap.size w w' :=
  (rec_Decode s hs w).mono fun e w' ⟨q, c, h1, h2, _, h4⟩ => ⟨q, c, h1, h2, h4⟩
theorem enc_size {F : RecD} (h : F.l.length ≤ 40) : F.enc.size ≤ 10000 := by
  cases hR : F.rightR
  · rw [RecD.enc, hR]; simp
  · have o := RecD.ok hR
    have hp := rowFrom_sizes F.l _ o.row
    have h1 := pairsL_size F.l hp
    rw [RecD.enc, if_pos hR, size_str, RecD.encL]
    have hk : ∀ (b : Bool) (s : ByteArray) (m : Nat), (b = true → s.size ≤ m) → (if b = true then textL s else []).length ≤ m + 1 := fun b s m hb => by
      cases b
      · simp
      · have := hb rfl; simp [textL, lst_length]; omega
    have hn : ∀ (b : Bool) (v : Int), (if b = true then numL v 6 else []).length ≤ 6 := fun b v => by cases b <;> simp [numL, toLE_length]
    have hm : (if pairsB F.k = true then numL F.l.length 2 ++ pairsL F.l else []).length ≤ 2 + 50 * F.l.length := by
      cases pairsB F.k
      · simp
      · simp only [if_true, List.length_append, numL, toLE_length]; omega
    have a1 := hn (txnB F.k) F.t; have a2 := hn (passB F.k) F.p; have a3 := hn (passB F.k) F.u; have a4 := hn (passB F.k) F.n
    have a5 := hk (hkeyB F.k) F.key 16 (fun e => (o.key1 e).2); have a6 := hk (hvalB F.k) F.val 32 (fun _ => o.val1)
    have a7 : (numL F.k 1).length = 1 := toLE_length _ _
    simp only [List.length_append, a7]
    omega
end Go.Proofs.Ytibeeomeafakgaa
