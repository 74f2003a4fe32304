import Derived.Test.YtiekjjejoekdeaaDsPure2
namespace Bw
theorem crash_kept : ∀ (W : List WriteD) (K : Int → ByteArray), crashK W (List.replicate W.length 1) K = syncK W K
  | [], K => rfl
  | w :: W, K => crash_kept W (setK K w.1 w.2)
theorem crash_odd : ∀ (W : List WriteD) (F : List Int) (K : Int → ByteArray), (∀ f ∈ F, f ≠ 1 ∧ f ≠ 2) → crashK W F K = K
  | [], F, K, _ => by unfold crashK; rfl
  | w :: W, [], K, _ => by unfold crashK; rfl
  | w :: W, f :: F, K, h => by
    obtain ⟨h1, h2⟩ := h f List.mem_cons_self
    rw [show crashK (w :: W) (f :: F) K = crashK W F (meetK K w f) from rfl, show meetK K w f = K by simp [meetK, h1, h2]]
    exact crash_odd W F K fun g hg => h g (List.mem_cons_of_mem _ hg)
theorem fate_kept (d : DiskD) (p : Int) : (d.crashD (List.replicate d.dirtyD.length 1)).rawD p = d.rawD p := by
  have e : d.dirtyD.length = d.W.length := List.length_map _
  rw [e, DiskD.crashD, crash_kept, ← sync_raw d p]
  rfl
theorem fate_odd (d : DiskD) (n : Nat) (p : Int) : (d.crashD ((List.range n).map (fun j : Nat => 3 + (j : Int)))).rawD p = (d.crashD []).rawD p := by
  rw [DiskD.crashD, DiskD.crashD, crash_odd, show crashK d.W [] d.K = d.K from crash_odd d.W [] d.K (fun f hf => by cases hf)]
  intro f hf
  obtain ⟨j, -, rfl⟩ := List.mem_map.1 hf
  omega
end Bw
