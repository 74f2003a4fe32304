/- Layer 24: what a kind has, what an act has not. -/
import Derived.Test.YtkkgcmnipdkeeaaDoorRecWalk1
import Derived.Test.YtkkgcmnipdkeeaaDoorScShow
import Derived.Test.YtkkgcmnipdkeeaaDoorUpA
import Derived.Test.YtkkgcmnipdkeeaaDoorAllR
namespace Go.Proofs.YtkkgcmnipdkeeaaDoor
open Go.RowKit Bw
set_option linter.unusedVariables false
def nameS (k : Int) : ByteArray := str (nameL k.toNat)
/-- What a kind has. -/
def hasC (k : Int) : List Value := [.string (nameS k), .bool (bT k), .bool (bK k), .bool (bV k), .bool (bN k), .bool (bF k)]
def kinds24 : Array Value := ((List.range 12).flatMap fun k => hasC ((k : Nat) : Int)).toArray
set_option maxHeartbeats 4000000 in
set_option maxRecDepth 100000 in
theorem script_kinds (w : World) : Calls Tryd.prog 22 #[] w fun e w' => e = .returned (.agg kinds24) ∧ Below w.heap.size w w' := by
  go_enter Tryd.func22, Tryd.ntmps22
  have hu := Up.refl w
  go_wp2_with (with_reducible refine wpList_store_mid rfl 50 _ _ rfl w.heap.size 0 kinds24 rfl rfl ?_ ?_ ?_ ?_)
  · exact there_alloc_new w _ _ _ (by kernel_rfl)
  · kernel_rfl
  · kernel_rfl
  · have hth := fun C h => there_alloc_new w C 50 72 h
    have hr := World.rangeAt_setCells_same (w.alloc (.cells Tryd.zeroCells50 50)) w.heap.size 0 kinds24.toList (hth _ (by kernel_rfl))
    refine bodyPost_ret (v := .agg kinds24) (results_cell_mid Tryd.results22 _ _ w.heap.size 0 kinds24.toList (.array 12 49) rfl hr Tryd.underlying50 rfl (by kernel_rfl)) rfl ⟨rfl, ?_⟩
    exact below_setCells _ _ _ (Nat.le_refl _) ((Below.refl _ w).alloc (Nat.le_refl _) _)
theorem kind_at (k : Int) (h0 : 0 ≤ k) (h1 : k ≤ 11) : ∀ w, (Instr.index 50 (.agg kinds24) (.int .i64 k)).run Tryd.prog w = .ok (.agg (hasC k).toArray) w := by
  have hk : k = 0 ∨ k = 1 ∨ k = 2 ∨ k = 3 ∨ k = 4 ∨ k = 5 ∨ k = 6 ∨ k = 7 ∨ k = 8 ∨ k = 9 ∨ k = 10 ∨ k = 11 := by omega
  clear h0 h1
  intro w
  rcases hk with rfl | rfl | rfl | rfl | rfl | rfl | rfl | rfl | rfl | rfl | rfl | rfl
  all_goals kernel_rfl
/-- The sets of things that a kind can have. -/
def Flags (T K V N F : Bool) : Prop := (T = true ∧ K = false ∧ V = false ∧ N = false ∧ F = false) ∨ (T = true ∧ K = true ∧ V = false ∧ N = false ∧ F = false) ∨ (T = true ∧ K = true ∧ V = true ∧ N = false ∧ F = false) ∨
  (T = true ∧ K = true ∧ V = false ∧ N = true ∧ F = false) ∨ (T = false ∧ K = false ∧ V = false ∧ N = false ∧ F = false) ∨ (T = false ∧ K = false ∧ V = false ∧ N = false ∧ F = true)
theorem flags_of (k : Int) (h0 : 0 ≤ k) (h1 : k ≤ 11) : Flags (bT k) (bK k) (bV k) (bN k) (bF k) := by
  have hk : k = 0 ∨ k = 1 ∨ k = 2 ∨ k = 3 ∨ k = 4 ∨ k = 5 ∨ k = 6 ∨ k = 7 ∨ k = 8 ∨ k = 9 ∨ k = 10 ∨ k = 11 := by omega
  clear h0 h1
  rcases hk with rfl | rfl | rfl | rfl | rfl | rfl | rfl | rfl | rfl | rfl | rfl | rfl <;> simp [Flags, bT, bK, bV, bN, bF]
theorem script_within (n a b : Int) (w : World) : Calls Tryd.prog 21 #[.int .i64 n, .int .i64 a, .int .i64 b] w fun e w' => e = .returned (.bool (inB n a b)) ∧ w = w' := by
  have HF := Lib.hid (show inB n a b = (decide (a ≤ n) && decide (n ≤ b)) from rfl)
  generalize inB n a b = K at *
  go_enter Tryd.func21, Tryd.ntmps21
  go_wp2_with fail
  all_goals go_ret
  all_goals
    rename_i h
    refine ⟨?_, rfl⟩
    rw [HF.out]
    first
      | (have h2 : ¬ a ≤ n := by omega
         simp [h2]; done)
      | (have h2 : a ≤ n := by omega
         simp [h2]; done)
theorem right_odd (n : Int) (w : World) : Calls Tryd.prog 23 #[.int .i64 n] w fun e w' => e = .returned (.bool (!inB n 0 2)) ∧ w = w' := by
  have C := Lib.hid (script_within n 0 2)
  generalize inB n 0 2 = K at *
  go_enter Tryd.func23, Tryd.ntmps23
  go_wp2_with ((with_reducible refine (C.out _).mono ?_); rintro e wn ⟨rfl, rfl⟩)
  go_ret
  exact ⟨rfl, rfl⟩
theorem ref5_Key (s : ByteArray) (w : World) : Calls Tryd.prog 29 #[.string s] w fun e w' => e = .returned (.bool (keyB s)) ∧ w = w' := by
  have HF := Lib.hid (show keyB s = (decide (1 ≤ (s.size : Int)) && decide ((s.size : Int) ≤ 16)) from rfl)
  generalize keyB s = K at *
  go_enter Tryd.func29, Tryd.ntmps29
  go_wp2_with fail
  all_goals go_ret
  all_goals
    rename_i h
    refine ⟨?_, rfl⟩
    rw [HF.out]
    first
      | (have h2 : ¬ 1 ≤ (s.size : Int) := by omega
         simp [h2]; done)
      | (have h2 : 1 ≤ (s.size : Int) := by omega
         simp [h2]; done)
theorem ref5_Value (s : ByteArray) (w : World) : Calls Tryd.prog 30 #[.string s] w fun e w' => e = .returned (.bool (valB s)) ∧ w = w' := by
  unfold valB
  go_enter Tryd.func30, Tryd.ntmps30
  go_wp2_with fail
  all_goals go_ret
  all_goals exact ⟨rfl, rfl⟩
/-- An act as a value. -/
def actV (a : ActD) (q : Option Addr) (c : Nat) : Value := .agg #[.int .i64 a.k, .int .i64 a.t, .string a.key, .string a.val, .int .i64 a.n, .slice q a.f.length c]
/-- What an act has not is zero. -/
def lackB (T K V N F : Bool) (a : ActD) : Bool := (T || a.t == 0) && (K || a.key.toList == ByteArray.toList ⟨#[]⟩) && (V || a.val.toList == ByteArray.toList ⟨#[]⟩) && (N || a.n == 0) && (F || (a.f.length : Int) == 0)
set_option maxHeartbeats 1000000 in
theorem has_lack (nm : ByteArray) (T K V N F : Bool) (hfl : Flags T K V N F) (a : ActD) (q : Option Addr) (c : Nat) (w : World) :
    Calls Tryd.prog 24 #[.agg #[.string nm, .bool T, .bool K, .bool V, .bool N, .bool F], actV a q c] w fun e w' => e = .returned (.bool (lackB T K V N F a)) ∧ Below w.heap.size w w' := by
  obtain ⟨k, t, key, val, n, f⟩ := a
  simp only [actV, lackB]
  rcases hfl with ⟨rfl, rfl, rfl, rfl, rfl⟩ | ⟨rfl, rfl, rfl, rfl, rfl⟩ | ⟨rfl, rfl, rfl, rfl, rfl⟩ | ⟨rfl, rfl, rfl, rfl, rfl⟩ | ⟨rfl, rfl, rfl, rfl, rfl⟩ | ⟨rfl, rfl, rfl, rfl, rfl⟩
  all_goals
    go_enter Tryd.func24, Tryd.ntmps24
    go_wp2_with fail
  all_goals
    go_ret
    exact ⟨by simp [*], Up.alloc (Up.alloc (Up.refl w) _) _⟩
end Go.Proofs.YtkkgcmnipdkeeaaDoor
