/- Disks, in plain Lean: what each call does to one, and what it answers. No program in sight. -/
import Derived.Test.YtokpkkjgagbpfaaSumPure
namespace Bw
set_option linter.unusedVariables false

abbrev WriteD := Int × ByteArray
structure DiskD where
  n : Nat
  K : Int → ByteArray
  W : List WriteD

/-- A page of no bytes. -/
def page0 : ByteArray := sealS ByteArray.empty
def setK (K : Int → ByteArray) (p : Int) (s : ByteArray) : Int → ByteArray := fun j => if j = p then s else K j
structure DiskD.Ok (d : DiskD) : Prop where
  n1 : 1 ≤ d.n
  n2 : d.n ≤ 1024
  K1 : ∀ k, (d.K k).size = 256
  W1 : ∀ w ∈ d.W, 0 ≤ w.1 ∧ w.1 < d.n ∧ w.2.size = 256

def initD (n : Nat) : DiskD := ⟨n, fun _ => page0, []⟩
def DiskD.hasB (d : DiskD) (p : Int) : Bool := decide (0 ≤ p) && decide (p < d.n)
def lastW (W : List WriteD) (p : Int) (s : ByteArray) : ByteArray := W.foldl (fun s w => if w.1 = p then w.2 else s) s
def DiskD.rawD (d : DiskD) (p : Int) : ByteArray := if d.hasB p = true then lastW d.W p (d.K p) else ByteArray.empty
def DiskD.readS (d : DiskD) (p : Int) : ByteArray := if d.hasB p = true then openS (d.rawD p) else ByteArray.empty
def DiskD.readE (d : DiskD) (p : Int) : Int := if d.hasB p = true then openE (d.rawD p) else 1
def DiskD.writeE (d : DiskD) (p : Int) (s : ByteArray) : Int := if d.hasB p = true then sealE s else 1
def DiskD.writeD (d : DiskD) (p : Int) (s : ByteArray) : DiskD := if d.writeE p s = 0 then { d with W := d.W ++ [(p, sealS s)] } else d
def syncK (W : List WriteD) (K : Int → ByteArray) : Int → ByteArray := W.foldl (fun K w => setK K w.1 w.2) K
def DiskD.syncD (d : DiskD) : DiskD := { d with K := syncK d.W d.K, W := [] }
def meetK (K : Int → ByteArray) (w : WriteD) (f : Int) : Int → ByteArray :=
  if f = 2 then setK K w.1 (tornS w.2 (K w.1)) else if f = 1 then setK K w.1 w.2 else K
def crashK : List WriteD → List Int → (Int → ByteArray) → Int → ByteArray
  | w :: W, f :: F, K => crashK W F (meetK K w f)
  | _, _, K => K
def DiskD.crashD (d : DiskD) (F : List Int) : DiskD := { d with K := crashK d.W F d.K, W := [] }
def DiskD.dirtyD (d : DiskD) : List Int := d.W.map (·.1)

theorem page0_size : page0.size = 256 := sealS_size (by simp)
theorem setK_same (K : Int → ByteArray) (p : Int) (s : ByteArray) : setK K p s p = s := by simp [setK]
theorem setK_other (K : Int → ByteArray) (p : Int) (s : ByteArray) {j : Int} (h : j ≠ p) : setK K p s j = K j := by simp [setK, h]
theorem setK_size {K : Int → ByteArray} (h : ∀ k, (K k).size = 256) (p : Int) {s : ByteArray} (hs : s.size = 256) : ∀ k, (setK K p s k).size = 256 := fun k => by
  unfold setK; split
  · exact hs
  · exact h k
theorem tornS_size {a b : ByteArray} (ha : a.size = 256) (hb : b.size = 256) : (tornS a b).size = 256 := by
  unfold tornS; rw [ByteArray.size_append, ByteArray.size_extract, ByteArray.size_extract]; omega
theorem meetK_size {K : Int → ByteArray} (h : ∀ k, (K k).size = 256) {w : WriteD} (hw : w.2.size = 256) (f : Int) : ∀ k, (meetK K w f k).size = 256 := fun k => by
  unfold meetK
  split
  · exact setK_size h _ (tornS_size hw (h _)) k
  · split
    · exact setK_size h _ hw k
    · exact h k
theorem syncK_size : ∀ (W : List WriteD) (K : Int → ByteArray), (∀ w ∈ W, w.2.size = 256) → (∀ k, (K k).size = 256) → ∀ k, (syncK W K k).size = 256
  | [], K, _, h => h
  | w :: W, K, hW, h => syncK_size W _ (fun x hx => hW x (List.mem_cons_of_mem _ hx)) (setK_size h _ (hW w List.mem_cons_self))
theorem crashK_size : ∀ (W : List WriteD) (F : List Int) (K : Int → ByteArray), (∀ w ∈ W, w.2.size = 256) → (∀ k, (K k).size = 256) → ∀ k, (crashK W F K k).size = 256
  | [], F, K, _, h => by unfold crashK; exact h
  | w :: W, [], K, _, h => by unfold crashK; exact h
  | w :: W, f :: F, K, hW, h => crashK_size W F _ (fun x hx => hW x (List.mem_cons_of_mem _ hx)) (meetK_size h (hW w List.mem_cons_self) f)
theorem lastW_size : ∀ (W : List WriteD) (p : Int) (s : ByteArray), (∀ w ∈ W, w.2.size = 256) → s.size = 256 → (lastW W p s).size = 256
  | [], p, s, _, h => h
  | w :: W, p, s, hW, h => lastW_size W p _ (fun x hx => hW x (List.mem_cons_of_mem _ hx)) (by show (if w.1 = p then w.2 else s).size = 256; split; exact hW w List.mem_cons_self; exact h)
theorem initD_ok {n : Nat} (h1 : 1 ≤ n) (h2 : n ≤ 1024) : (initD n).Ok := ⟨h1, h2, fun _ => page0_size, fun w hw => by cases hw⟩
theorem hasB_iff {d : DiskD} {p : Int} : d.hasB p = true ↔ 0 ≤ p ∧ p < d.n := by simp [DiskD.hasB]
theorem writeD_ok {d : DiskD} (h : d.Ok) (p : Int) (s : ByteArray) : (d.writeD p s).Ok := by
  unfold DiskD.writeD
  split
  · rename_i he
    refine ⟨h.n1, h.n2, h.K1, fun w hw => ?_⟩
    simp only [List.mem_append, List.mem_singleton] at hw
    rcases hw with hw | rfl
    · exact h.W1 w hw
    · unfold DiskD.writeE at he
      split at he
      · rename_i hp
        obtain ⟨h1, h2⟩ := hasB_iff.1 hp
        refine ⟨h1, h2, sealS_size ?_⟩
        unfold sealE at he
        split at he
        · cases he
        · omega
      · cases he
  · exact h
theorem syncD_ok {d : DiskD} (h : d.Ok) : d.syncD.Ok := ⟨h.n1, h.n2, syncK_size _ _ (fun w hw => (h.W1 w hw).2.2) h.K1, fun w hw => by cases hw⟩
theorem crashD_ok {d : DiskD} (h : d.Ok) (F : List Int) : (d.crashD F).Ok := ⟨h.n1, h.n2, crashK_size _ _ _ (fun w hw => (h.W1 w hw).2.2) h.K1, fun w hw => by cases hw⟩
theorem rawD_size {d : DiskD} (h : d.Ok) (p : Int) : (d.rawD p).size ≤ 256 := by
  unfold DiskD.rawD
  split
  · have := lastW_size d.W p (d.K p) (fun w hw => (h.W1 w hw).2.2) (h.K1 p); omega
  · simp
end Bw
