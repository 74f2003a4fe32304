/- Layer 24: the reader among things held. -/
import Derived.Test.YtkkgcmnipdkeeaaDoorScWalk6
namespace Go.Proofs.YtkkgcmnipdkeeaaDoor
open Go.RowKit Bw
set_option linter.unusedVariables false
/-- A reader in memory. -/
abbrev rdR (g : Nat) (s : ByteArray) (st : RSt) : Res := rowR g (.string s) [.int .i64 (st.i : Int), .bool st.ok]
theorem hold_one {W w : World} {l : List Res} (h : Hold W w l) (j : Nat) {g : Nat} {s : ByteArray} {st : RSt} (hj : l[j]? = some (rdR g s st)) (hs : s.size ≤ 1099511627776) (hi : st.i ≤ 1099511627776) :
    Calls Tryd.prog 44 #[.pointer (some ⟨g, 0, none⟩)] w fun e w' => e = .returned (.int .i64 (oneR s st).1) ∧ Hold W w' (l.set j (rdR g s (oneR s st).2)) ∧ AllS (OneS g) w w' := by
  have hr : RowAt w g [.string s, .int .i64 (st.i : Int), .bool st.ok] := h.get j hj
  refine (reader_one24 s hs st.i hi st.ok hr).mono fun e w' ⟨he, hr', ha⟩ => ⟨he, h.step j hj (rdR g s (oneR s st).2) ?_ (fun k hk => .inl hk) ha, ha⟩
  exact hr'
theorem hold_text {W w : World} {l : List Res} (h : Hold W w l) (j : Nat) {g : Nat} {s : ByteArray} {st : RSt} (hj : l[j]? = some (rdR g s st)) (hs : s.size ≤ 1099511627776) (hi : st.i ≤ 1099511627776) :
    Calls Tryd.prog 45 #[.pointer (some ⟨g, 0, none⟩)] w fun e w' => e = .returned (.string (textR s st).1) ∧ Hold W w' (l.set j (rdR g s (textR s st).2)) ∧ AllS (OneS g) w w' := by
  have hr : RowAt w g [.string s, .int .i64 (st.i : Int), .bool st.ok] := h.get j hj
  refine (reader_text24 s hs st.i hi st.ok hr).mono fun e w' ⟨he, hr', ha⟩ => ⟨he, h.step j hj (rdR g s (textR s st).2) ?_ (fun k hk => .inl hk) ha, ha⟩
  exact hr'
end Go.Proofs.YtkkgcmnipdkeeaaDoor
