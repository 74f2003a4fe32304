import Derived.Test.YtkkgcmnipdkeeaaDoorRows
import Derived.Test.YtkkgcmnipdkeeaaDoorUpA
import Derived.Test.YtkkgcmnipdkeeaaDoorRecPure
import Derived.Deep.RegionHeld3
import Derived.Deep.MidRow
import Derived.Sort.Walk0
namespace Go.Proofs.YtkkgcmnipdkeeaaDoor
open Go.RowKit Bw
set_option linter.unusedVariables false

theorem str_eqB (a b : ByteArray) : (a.toList == b.toList) = decide (a = b) := by
  rw [Bool.eq_iff_iff]
  simp only [beq_iff_eq, decide_eq_true_eq, Lib.toList_data]
  constructor
  · intro h; exact lst_inj h
  · rintro rfl; rfl
theorem str_ltB (a b : ByteArray) : Op.bytesLess a.toList b.toList = ltS a b := by
  rw [Go.Proofs.bytesLess_eq, Lib.toList_data, Lib.toList_data]; rfl

theorem str_empty {s : ByteArray} (h : s.size = 0) : s.toList.isEmpty = true := by
  rw [List.isEmpty_iff, Lib.toList_data]
  exact List.eq_nil_of_length_eq_zero (by simpa using h)
theorem str_nonempty {s : ByteArray} (h : ¬ s.size = 0) : s.toList.isEmpty = false := by
  rw [List.isEmpty_eq_false_iff, Lib.toList_data]
  intro h2; apply h; have h3 := congrArg List.length h2; simpa using h3

theorem rec_Key (s : ByteArray) (w : World) : Calls Tryd.prog 25 #[.string s] w fun e w' => e = .returned (.bool (keyB s)) ∧ w = w' := by
  have HF := Lib.hid (show keyB s = (decide (1 ≤ (s.size : Int)) && decide ((s.size : Int) ≤ 16)) from rfl)
  generalize keyB s = K at *
  by_cases h : s.size = 0
  · have h1 := str_empty h
    have h2 : ¬ 1 ≤ (s.size : Int) := by omega
    go_enter Tryd.func25, Tryd.ntmps25
    go_wp2_with fail
    all_goals go_ret
    all_goals exact ⟨by rw [HF.out]; simp [*], rfl⟩
  · have h1 := str_nonempty h
    have h2 : 1 ≤ (s.size : Int) := by omega
    go_enter Tryd.func25, Tryd.ntmps25
    go_wp2_with fail
    all_goals go_ret
    all_goals exact ⟨by rw [HF.out]; simp [h2], rfl⟩

theorem rec_Value (s : ByteArray) (w : World) : Calls Tryd.prog 26 #[.string s] w fun e w' => e = .returned (.bool (valB s)) ∧ w = w' := by
  unfold valB
  go_enter Tryd.func26, Tryd.ntmps26
  go_wp2_with fail
  all_goals go_ret
  all_goals exact ⟨rfl, rfl⟩

def kindRows : List (List Bool) := [[false,false,false,false,false],[true,false,false,false,false],[true,true,true,false,false],[true,true,false,false,false],[true,false,false,false,false],[true,false,false,false,false],[false,false,false,true,false],[false,false,false,true,true]]
def kindsA : Array Value := (kindRows.flatten.map Value.bool).toArray

theorem results_cell_mid {P : Program} {fn : Func} {p : Tmp} {ty : TypeId} (h : fn.results = #[.cell p ty]) (tmps : Array Value) (w : World) (b o : Nat) (cs : List Value) (d : TypeDesc)
    (hp : tmps.getD p undef = .pointer (some ⟨b, o, none⟩)) (hc : w.rangeAt b o cs)
    (hu : P.underlying ty = some d) (hd : d.isRow = true) (hi : (P.info? ty).map (·.size) = some cs.length) :
    (results fn tmps).run P w = .ok (.agg cs.toArray) w := by
  have hp' : tmps[p]?.getD undef = .pointer (some ⟨b, o, none⟩) := by simpa using hp
  simp [results, h, hp', asAddr, run_loadVar_mid w b o ty cs d hc hu hd hi]

theorem there_alloc_new (w : World) (C : Array Value) (e : TypeId) (n : Nat) (h : C.size = n) : (w.alloc (.cells C e)).there w.heap.size 0 n := fun j hj => by
  subst h
  rw [Nat.zero_add]
  exact ⟨by rw [World.cell?_alloc_mark w C e (0, 0) j]; simp [hj], (World.frozen?_alloc_mark w C e 0 0 j).trans (by simp)⟩

end Go.Proofs.YtkkgcmnipdkeeaaDoor
