/- Disks, in plain Lean: what is written last is read. No program in sight. -/
import Derived.Test.YtiekjjejoekdeaaDsPure
namespace Bw
set_option linter.unusedVariables false
theorem wholeS_full {s : ByteArray} (h : s.size = 252) : wholeS s = s := by
  rw [wholeS, h, Nat.sub_self, List.replicate_zero, List.append_nil, str_lst]
theorem sealE_ok {s : ByteArray} (h : s.size ≤ 252) : sealE s = 0 := by rw [sealE, if_neg (by omega)]
theorem lastW_append (W V : List WriteD) (p : Int) (s : ByteArray) : lastW (W ++ V) p s = lastW V p (lastW W p s) := by simp [lastW]
theorem syncK_last : ∀ (W : List WriteD) (K : Int → ByteArray) (p : Int), syncK W K p = lastW W p (K p)
  | [], K, p => rfl
  | w :: W, K, p => by
    rw [show syncK (w :: W) K = syncK W (setK K w.1 w.2) from rfl, syncK_last W, show lastW (w :: W) p (K p) = lastW W p (if w.1 = p then w.2 else K p) from rfl]
    unfold setK
    by_cases e : w.1 = p
    · subst e; simp
    · rw [if_neg e, if_neg (fun h => e h.symm)]
theorem sync_raw (d : DiskD) (p : Int) : d.syncD.rawD p = d.rawD p := by
  unfold DiskD.rawD
  rw [show d.syncD.hasB p = d.hasB p from rfl]
  split
  · exact syncK_last d.W d.K p
  · rfl
theorem sync_read (d : DiskD) (p : Int) : d.syncD.readS p = d.readS p ∧ d.syncD.readE p = d.readE p := by
  unfold DiskD.readS DiskD.readE
  rw [sync_raw, show d.syncD.hasB p = d.hasB p from rfl]
  exact ⟨rfl, rfl⟩
theorem write_ok {d : DiskD} {p : Int} {s : ByteArray} (hp : d.hasB p = true) (hs : s.size ≤ 252) : d.writeE p s = 0 ∧ d.writeD p s = { d with W := d.W ++ [(p, sealS s)] } := by
  have e : d.writeE p s = 0 := by rw [DiskD.writeE, if_pos hp, sealE_ok hs]
  exact ⟨e, by rw [DiskD.writeD, if_pos e]⟩
theorem write_raw {d : DiskD} {p : Int} {s : ByteArray} (hp : d.hasB p = true) (hs : s.size ≤ 252) (j : Int) : (d.writeD p s).rawD j = if j = p then sealS s else d.rawD j := by
  rw [(write_ok hp hs).2]
  unfold DiskD.rawD
  rw [show (DiskD.hasB { d with W := d.W ++ [(p, sealS s)] } j) = d.hasB j from rfl]
  by_cases e : j = p
  · subst e
    rw [if_pos hp, if_pos rfl, lastW_append]
    simp [lastW]
  · rw [if_neg e]
    split
    · rw [lastW_append]
      have e' : ¬ p = j := fun h => e h.symm
      simp [lastW, e']
    · rfl
/-- What the first eight pages have. -/
def Reads8 (d : DiskD) (h : Nat → ByteArray) : Prop := d.n = 8 ∧ ∀ p : Nat, p < 8 → d.readS p = h p ∧ d.readE p = 0
theorem has8 {d : DiskD} (h : d.n = 8) {p : Nat} (hp : p < 8) : d.hasB p = true := hasB_iff.2 ⟨by omega, by omega⟩
theorem reads8_init : Reads8 (initD 8) (fun _ => wholeS ByteArray.empty) := by
  refine ⟨rfl, fun p hp => ?_⟩
  have hb : (initD 8).hasB p = true := has8 rfl hp
  have hr : (initD 8).rawD p = page0 := by simp [DiskD.rawD, hb]; rfl
  obtain ⟨o1, o2⟩ := open_seal (s := ByteArray.empty) (by simp)
  simp only [DiskD.readE, DiskD.readS, hb, if_true, hr]
  exact ⟨o2, o1⟩
theorem reads8_sync {d : DiskD} {h : Nat → ByteArray} (hr : Reads8 d h) : Reads8 d.syncD h := ⟨hr.1, fun p hp => by
  obtain ⟨e1, e2⟩ := sync_read d p
  rw [e1, e2]; exact hr.2 p hp⟩
theorem reads8_write {d : DiskD} {h : Nat → ByteArray} (hr : Reads8 d h) {m : Nat} (hm : m < 8) {s : ByteArray} (hs : s.size ≤ 252) :
    d.writeE m (wholeS s) = 0 ∧ Reads8 (d.writeD m (wholeS s)) (fun j => if j = m then wholeS s else h j) := by
  have hz := wholeS_size hs
  have hb := has8 hr.1 hm
  obtain ⟨e1, e2⟩ := write_ok (d := d) (p := m) (s := wholeS s) hb (by omega)
  refine ⟨e1, by rw [e2]; exact hr.1, fun p hp => ?_⟩
  have hn : (d.writeD m (wholeS s)).hasB p = true := has8 (by rw [e2]; exact hr.1) hp
  have hn' := has8 hr.1 hp
  have hraw := write_raw (d := d) (p := m) (s := wholeS s) hb (by omega) p
  obtain ⟨h1, h2⟩ := hr.2 p hp
  simp only [DiskD.readS, DiskD.readE, hn, hn', if_true] at h1 h2 ⊢
  rw [hraw]
  obtain ⟨o1, o2⟩ := open_seal (s := wholeS s) (by omega)
  by_cases e : p = m
  · subst e
    rw [if_pos rfl, if_pos rfl, o1, o2, wholeS_full hz]
    exact ⟨rfl, rfl⟩
  · rw [if_neg e, if_neg (by omega)]
    exact ⟨h1, h2⟩
end Bw
