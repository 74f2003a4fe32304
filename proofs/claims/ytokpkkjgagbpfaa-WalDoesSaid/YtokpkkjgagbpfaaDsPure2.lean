/- Disks, in plain Lean: what is written last is read; what a crash leaves of a page. No program in sight. -/
import Derived.Test.YtokpkkjgagbpfaaDsPure
namespace Bw
set_option linter.unusedVariables false
theorem wholeS_full {s : ByteArray} (h : s.size = 252) : wholeS s = s := by
  rw [wholeS, h, Nat.sub_self, List.replicate_zero, List.append_nil, str_lst]
theorem sealE_ok {s : ByteArray} (h : s.size ≤ 252) : sealE s = 0 := by rw [sealE, if_neg (by omega)]
theorem lastW_append (W V : List WriteD) (p : Int) (s : ByteArray) : lastW (W ++ V) p s = lastW V p (lastW W p s) := by simp [lastW]
theorem syncK_last : ∀ (W : List WriteD) (K : Int → ByteArray) (p : Int), syncK W K p = lastW W p (K p)
  | [], K, p => rfl
  | w :: W, K, p => by
    rw [show syncK (w :: W) K = syncK W (setK K w.1 w.2) from rfl, syncK_last W, show lastW (w :: W) p (K p) = lastW W p (if w.1 = p then w.2 else K p) from rfl]
    unfold setK
    by_cases e : w.1 = p
    · subst e; simp
    · rw [if_neg e, if_neg (fun h => e h.symm)]
theorem sync_raw (d : DiskD) (p : Int) : d.syncD.rawD p = d.rawD p := by
  unfold DiskD.rawD
  rw [show d.syncD.hasB p = d.hasB p from rfl]
  split
  · exact syncK_last d.W d.K p
  · rfl
theorem sync_read (d : DiskD) (p : Int) : d.syncD.readS p = d.readS p ∧ d.syncD.readE p = d.readE p := by
  unfold DiskD.readS DiskD.readE
  rw [sync_raw, show d.syncD.hasB p = d.hasB p from rfl]
  exact ⟨rfl, rfl⟩
theorem write_ok {d : DiskD} {p : Int} {s : ByteArray} (hp : d.hasB p = true) (hs : s.size ≤ 252) : d.writeE p s = 0 ∧ d.writeD p s = { d with W := d.W ++ [(p, sealS s)] } := by
  have e : d.writeE p s = 0 := by rw [DiskD.writeE, if_pos hp, sealE_ok hs]
  exact ⟨e, by rw [DiskD.writeD, if_pos e]⟩
theorem write_raw {d : DiskD} {p : Int} {s : ByteArray} (hp : d.hasB p = true) (hs : s.size ≤ 252) (j : Int) : (d.writeD p s).rawD j = if j = p then sealS s else d.rawD j := by
  rw [(write_ok hp hs).2]
  unfold DiskD.rawD
  rw [show (DiskD.hasB { d with W := d.W ++ [(p, sealS s)] } j) = d.hasB j from rfl]
  by_cases e : j = p
  · subst e
    rw [if_pos hp, if_pos rfl, lastW_append]
    simp [lastW]
  · rw [if_neg e]
    split
    · rw [lastW_append]
      have e' : ¬ p = j := fun h => e h.symm
      simp [lastW, e']
    · rfl
/-- What the first eight pages have. -/
def Reads8 (d : DiskD) (h : Nat → ByteArray) : Prop := d.n = 8 ∧ ∀ p : Nat, p < 8 → d.readS p = h p ∧ d.readE p = 0
theorem has8 {d : DiskD} (h : d.n = 8) {p : Nat} (hp : p < 8) : d.hasB p = true := hasB_iff.2 ⟨by omega, by omega⟩
theorem reads8_init : Reads8 (initD 8) (fun _ => wholeS ByteArray.empty) := by
  refine ⟨rfl, fun p hp => ?_⟩
  have hb : (initD 8).hasB p = true := has8 rfl hp
  have hr : (initD 8).rawD p = page0 := by simp [DiskD.rawD, hb]; rfl
  obtain ⟨o1, o2⟩ := open_seal (s := ByteArray.empty) (by simp)
  simp only [DiskD.readE, DiskD.readS, hb, if_true, hr]
  exact ⟨o2, o1⟩
theorem reads8_sync {d : DiskD} {h : Nat → ByteArray} (hr : Reads8 d h) : Reads8 d.syncD h := ⟨hr.1, fun p hp => by
  obtain ⟨e1, e2⟩ := sync_read d p
  rw [e1, e2]; exact hr.2 p hp⟩
theorem reads8_write {d : DiskD} {h : Nat → ByteArray} (hr : Reads8 d h) {m : Nat} (hm : m < 8) {s : ByteArray} (hs : s.size ≤ 252) :
    d.writeE m (wholeS s) = 0 ∧ Reads8 (d.writeD m (wholeS s)) (fun j => if j = m then wholeS s else h j) := by
  have hz := wholeS_size hs
  have hb := has8 hr.1 hm
  obtain ⟨e1, e2⟩ := write_ok (d := d) (p := m) (s := wholeS s) hb (by omega)
  refine ⟨e1, by rw [e2]; exact hr.1, fun p hp => ?_⟩
  have hn : (d.writeD m (wholeS s)).hasB p = true := has8 (by rw [e2]; exact hr.1) hp
  have hn' := has8 hr.1 hp
  have hraw := write_raw (d := d) (p := m) (s := wholeS s) hb (by omega) p
  obtain ⟨h1, h2⟩ := hr.2 p hp
  simp only [DiskD.readS, DiskD.readE, hn, hn', if_true] at h1 h2 ⊢
  rw [hraw]
  obtain ⟨o1, o2⟩ := open_seal (s := wholeS s) (by omega)
  by_cases e : p = m
  · subst e
    rw [if_pos rfl, if_pos rfl, o1, o2, wholeS_full hz]
    exact ⟨rfl, rfl⟩
  · rw [if_neg e, if_neg (by omega)]
    exact ⟨h1, h2⟩
end Bw
namespace Bw
set_option linter.unusedVariables false
theorem reads8_write' {d : DiskD} {h : Nat → ByteArray} (hr : Reads8 d h) {m : Nat} (hm : m < 8) {s : ByteArray} (hs : s.size ≤ 252) :
    d.writeE m s = 0 ∧ Reads8 (d.writeD m s) (fun j => if j = m then wholeS s else h j) := by
  have hb := has8 hr.1 hm
  obtain ⟨e1, e2⟩ := write_ok (d := d) (p := m) (s := s) hb hs
  refine ⟨e1, by rw [e2]; exact hr.1, fun p hp => ?_⟩
  have hn : (d.writeD m s).hasB p = true := has8 (by rw [e2]; exact hr.1) hp
  have hn' := has8 hr.1 hp
  have hraw := write_raw (d := d) (p := m) (s := s) hb hs p
  obtain ⟨h1, h2⟩ := hr.2 p hp
  simp only [DiskD.readS, DiskD.readE, hn, hn', if_true] at h1 h2 ⊢
  rw [hraw]
  obtain ⟨o1, o2⟩ := open_seal hs
  by_cases e : p = m
  · subst e
    rw [if_pos rfl, if_pos rfl, o1, o2]
    exact ⟨rfl, rfl⟩
  · rw [if_neg e, if_neg (by omega)]
    exact ⟨h1, h2⟩

/-- Both halves of a page's bytes are halves of some of L. -/
def HalvesP (x : ByteArray) (L : List ByteArray) : Prop := (∃ t ∈ L, x.extract 0 128 = t.extract 0 128) ∧ ∃ t ∈ L, x.extract 128 252 = t.extract 128 252
def anyFst (s : ByteArray) (L : List ByteArray) : Bool := L.any fun t => decide (s.extract 0 128 = t.extract 0 128)
def anySnd (s : ByteArray) (L : List ByteArray) : Bool := L.any fun t => decide (s.extract 128 s.size = t.extract 128 t.size)
def halvesB (s : ByteArray) (L : List ByteArray) : Bool := anyFst s L && anySnd s L

theorem ext_ext (x : ByteArray) (b : Nat) (hb : b ≤ 252) : (x.extract 0 252).extract 0 b = x.extract 0 b := by
  apply lst_inj
  rw [extract_lst, extract_lst, extract_lst]
  simp only [List.drop_zero, Nat.sub_zero, List.take_take]
  congr 1
  omega
theorem ext_ext2 (x : ByteArray) : (x.extract 0 252).extract 128 252 = x.extract 128 252 := by
  apply lst_inj
  rw [extract_lst, extract_lst, extract_lst]
  simp only [List.drop_zero, Nat.sub_zero]
  rw [List.take_drop, List.take_drop, List.take_take]
  congr 1
theorem torn_fst {a b : ByteArray} (ha : a.size = 256) (hb : b.size = 256) : (tornS a b).extract 0 128 = a.extract 0 128 := by
  apply lst_inj
  rw [tornS, ha, hb, extract_lst, extract_lst, lst_append, extract_lst]
  have hl : (lst a).length = 256 := by rw [lst_length, ha]
  simp only [List.drop_zero]
  rw [List.take_append_of_le_length (by simp [hl]), List.take_take]
  congr 1
theorem torn_snd {a b : ByteArray} (ha : a.size = 256) (hb : b.size = 256) : (tornS a b).extract 128 252 = b.extract 128 252 := by
  apply lst_inj
  rw [tornS, ha, hb, extract_lst, extract_lst, lst_append, extract_lst, extract_lst]
  have hl : (lst a).length = 256 := by rw [lst_length, ha]
  have hl2 : (lst b).length = 256 := by rw [lst_length, hb]
  simp only [List.drop_zero]
  rw [List.drop_append_of_le_length (by simp [hl])]
  rw [List.drop_of_length_le (by simp [hl])]
  simp only [List.nil_append]
  rw [List.take_take]
  congr 1
theorem crash_good {p : Int} {L : List ByteArray} : ∀ (W : List WriteD) (F : List Int) (K : Int → ByteArray), (∀ k, (K k).size = 256) → HalvesP (K p) L → (∀ w ∈ W, w.2.size = 256 ∧ (w.1 = p → HalvesP w.2 L)) → HalvesP (crashK W F K p) L
  | [], F, K, _, h, _ => by unfold crashK; exact h
  | w :: W, [], K, _, h, _ => by unfold crashK; exact h
  | w :: W, f :: F, K, hK, h, hW => by
    obtain ⟨h1, h2⟩ := hW w List.mem_cons_self
    refine crash_good W F (meetK K w f) (meetK_size hK h1 f) ?_ fun v hv => hW v (List.mem_cons_of_mem _ hv)
    unfold meetK
    split
    · by_cases e : p = w.1
      · subst e
        rw [setK_same]
        obtain ⟨⟨t, ht, e1⟩, -⟩ := h2 rfl
        obtain ⟨-, u, hu, e2⟩ := h
        exact ⟨⟨t, ht, by rw [torn_fst h1 (hK _), e1]⟩, u, hu, by rw [torn_snd h1 (hK _), e2]⟩
      · rw [setK_other _ _ _ e]; exact h
    · split
      · by_cases e : p = w.1
        · subst e
          rw [setK_same]
          exact h2 rfl
        · rw [setK_other _ _ _ e]; exact h
      · exact h
theorem crash_same {p : Int} : ∀ (W : List WriteD) (F : List Int) (K : Int → ByteArray), (∀ w ∈ W, w.1 ≠ p) → crashK W F K p = K p
  | [], F, K, _ => by unfold crashK; rfl
  | w :: W, [], K, _ => by unfold crashK; rfl
  | w :: W, f :: F, K, hW => by
    have h1 := hW w List.mem_cons_self
    rw [show crashK (w :: W) (f :: F) K = crashK W F (meetK K w f) from rfl, crash_same W F _ fun v hv => hW v (List.mem_cons_of_mem _ hv)]
    unfold meetK
    split
    · rw [setK_other _ _ _ (fun e => h1 e.symm)]
    · split
      · rw [setK_other _ _ _ (fun e => h1 e.symm)]
      · rfl

/-- What is known of a disk that was written on since it was synced: K as it was; M: the texts of each page. -/
structure Since (d0 d : DiskD) (M : Nat → List ByteArray) : Prop where
  n : d.n = 8
  K : d.K = d0.K
  W : ∀ w ∈ d.W, ∃ (m : Nat) (t : ByteArray), w.1 = (m : Int) ∧ w.2 = sealS t ∧ t.size = 252 ∧ t ∈ M m
  M : ∀ j, ∀ t ∈ M j, t.size = 252
theorem since_start {d : DiskD} (hn : d.n = 8) (hW : d.W = []) : Since d d (fun _ => []) := ⟨hn, rfl, (fun w hw => by rw [hW] at hw; cases hw), (fun j t ht => by cases ht)⟩
theorem since_write {d0 d : DiskD} {M : Nat → List ByteArray} (h : Since d0 d M) {m : Nat} (hm : m < 8) {t : ByteArray} (ht : t.size = 252) :
    d.writeE m t = 0 ∧ Since d0 (d.writeD m t) (fun j => if j = m then M m ++ [t] else M j) := by
  obtain ⟨e1, e2⟩ := write_ok (d := d) (p := m) (s := t) (has8 h.n hm) (by omega)
  refine ⟨e1, ?_⟩
  rw [e2]
  refine ⟨h.n, h.K, fun w hw => ?_, fun j u hu => ?_⟩
  · rcases List.mem_append.1 hw with hw | hw
    · obtain ⟨m', t', h1, h2, h3, h4⟩ := h.W w hw
      refine ⟨m', t', h1, h2, h3, ?_⟩
      by_cases e : m' = m
      · subst e; simp [h4]
      · simp [e, h4]
    · obtain rfl := List.mem_singleton.1 hw
      exact ⟨m, t, rfl, rfl, ht, by simp⟩
  · by_cases e : j = m
    · subst e
      simp at hu
      rcases hu with hu | rfl
      · exact h.M _ _ hu
      · exact ht
    · simp [e] at hu; exact h.M _ _ hu

theorem seal_halves {t : ByteArray} (ht : t.size = 252) {L : List ByteArray} (hL : t ∈ L) : HalvesP (sealS t) L := by
  have e : (sealS t).extract 0 252 = t := by rw [sealS_head (by omega), wholeS_full ht]
  exact ⟨⟨t, hL, by rw [← ext_ext _ 128 (by omega), e]⟩, t, hL, by rw [← ext_ext2, e]⟩
theorem halvesB_of {x : ByteArray} {L : List ByteArray} (h : HalvesP x L) (hL : ∀ t ∈ L, t.size = 252) (hx : x.size = 252) : halvesB x L = true := by
  obtain ⟨⟨t, ht, e1⟩, u, hu, e2⟩ := h
  rw [halvesB, Bool.and_eq_true, anyFst, anySnd, List.any_eq_true, List.any_eq_true]
  exact ⟨⟨t, ht, decide_eq_true e1⟩, u, hu, decide_eq_true (by rw [hx, hL u hu]; exact e2)⟩

theorem stays_page {d0 d : DiskD} {h0 : Nat → ByteArray} {M : Nat → List ByteArray} (hr : Reads8 d0 h0) (hW : d0.W = []) (hok : d0.Ok) (hd : d.Ok) (hs : Since d0 d M) (F : List Int) {p : Nat} (hp : p < 8) :
    (M p = [] → (d.crashD F).readS p = h0 p ∧ (d.crashD F).readE p = 0) ∧ ((d.crashD F).readE p = 0 ∨ (d.crashD F).readE p = 5) ∧
    ((d.crashD F).readE p = 0 → ((d.crashD F).readS p).size = 252 ∧ halvesB ((d.crashD F).readS p) (M p ++ [h0 p]) = true) ∧ (h0 p).size = 252 := by
  obtain ⟨r1, r2⟩ := hr.2 p hp
  have hb := has8 hr.1 hp
  have hb2 : (d.crashD F).hasB p = true := has8 (show (d.crashD F).n = 8 from hs.n) hp
  have raw0 : d0.rawD p = d0.K p := by rw [DiskD.rawD, if_pos hb, hW]; rfl
  have raw : (d.crashD F).rawD p = crashK d.W F d0.K p := by rw [DiskD.rawD, if_pos hb2, ← hs.K]; rfl
  have hsz0 := hok.K1 p
  rw [DiskD.readS, if_pos hb, raw0] at r1
  rw [DiskD.readE, if_pos hb, raw0] at r2
  have hx0 : h0 p = (d0.K p).extract 0 252 := by rw [← r1, openS, if_pos r2]
  have hz0 : (h0 p).size = 252 := by rw [hx0, ByteArray.size_extract, hsz0]; rfl
  have hwz : ∀ w ∈ d.W, w.2.size = 256 := fun w hw => (hd.W1 w hw).2.2
  have hz : (crashK d.W F d0.K p).size = 256 := crashK_size d.W F d0.K hwz hok.K1 p
  rw [DiskD.readS, DiskD.readE, if_pos hb2, if_pos hb2, raw]
  refine ⟨fun hM => ?_, ?_, fun h0' => ?_, hz0⟩
  · rw [crash_same d.W F d0.K fun w hw e => ?_]
    · exact ⟨r1, r2⟩
    · obtain ⟨m, t, e1, -, -, e4⟩ := hs.W w hw
      have : m = p := by omega
      subst this
      rw [hM] at e4; cases e4
  · rw [openE, if_pos hz]
    split
    · exact .inl rfl
    · exact .inr rfl
  · have hg : HalvesP (crashK d.W F d0.K p) (M p ++ [h0 p]) := by
      refine crash_good d.W F d0.K hok.K1 ?_ fun w hw => ⟨hwz w hw, fun e => ?_⟩
      · exact ⟨⟨h0 p, by simp, by rw [hx0, ext_ext _ 128 (by omega)]⟩, h0 p, by simp, by rw [hx0, ext_ext2]⟩
      · obtain ⟨m, t, e1, e2, e3, e4⟩ := hs.W w hw
        have : m = p := by omega
        subst this
        rw [e2]
        exact seal_halves e3 (by simp [e4])
    rw [openS, if_pos h0']
    have hz2 : ((crashK d.W F d0.K p).extract 0 252).size = 252 := by rw [ByteArray.size_extract, hz]; rfl
    refine ⟨hz2, halvesB_of ?_ ?_ hz2⟩
    · obtain ⟨⟨t, ht, e1⟩, u, hu, e2⟩ := hg
      exact ⟨⟨t, ht, by rw [ext_ext _ 128 (by omega), e1]⟩, u, hu, by rw [ext_ext2, e2]⟩
    · intro t ht
      rcases List.mem_append.1 ht with ht | ht
      · exact hs.M p t ht
      · obtain rfl := List.mem_singleton.1 ht
        exact hz0
end Bw
