import Derived.Test.YtiekjjejoekdeaaFieldWalk2
import Derived.Test.YtiekjjejoekdeaaBytesLaw
namespace Go.Proofs.Ytiekjjejoekdeaa
open Go.RowKit Bw
set_option linter.unusedVariables false

theorem u8info : (Try.prog.info? 5).map (fun i => (i.zero, i.size, i.bytes)) = some (some (.int .u8 0), 1, 1) := by kernel_rfl
theorem u8size : (Try.prog.info? 5).map (·.size) = some 1 := by kernel_rfl

set_option maxHeartbeats 400000 in
theorem field_over (s : ByteArray) (i : Nat) (g off n cap : Nat) (t : List UInt8) (w : World) (hs : s.size ≤ 1099511627776) (ht : BytesAt w g off t) (hn : n = t.length) (h1 : 1 ≤ n) (hf : i + n ≤ s.size) :
    Calls Try.prog 56 #[.string s, .int .i64 i, .slice (some ⟨g, off, none⟩) n cap] w fun e w' =>
      e = .returned (.string (str ((lst s).take i ++ t ++ (lst s).drop (i + t.length)))) ∧ Below w.heap.size w w' := by
  have hg : g < w.heap.size := ht.lt (by omega)
  have Hn := Lib.hid hn; clear hn
  have hm : s.size ≤ maxLen := by unfold maxLen; omega
  go_enter Try.func56, Try.ntmps56
  go_wp2_with (first
    | (with_reducible refine wpList_toBytes rfl _ 9 72 5 rfl Try.underlying9 Try.underlying72 Try.underlying5 s rfl w.heap.size w (Below.refl _ _) (Nat.le_refl _) ?_ hm; intro g1 cap1 w1 hb1 hw1 hw1' hg1 hg1' hc1 hc2; unfold maxLen at hc2)
    | (with_reducible refine wpList_copyBytes rfl _ _ 72 72 rfl 5 Try.underlying72 u8size g1 i (s.size - i) (cap1 - i) g off n cap ?c1 ?c2 (lst s) t hb1 (ht.below hw1 hg) Hn.out ?c3 ?c4 w.heap.size w hw1 hg1 ?_))
  case c1 => rfl
  case c2 => rfl
  case c3 => rw [lst_length]; omega
  case c4 => have := Hn.out; omega
  intro w2 hb2 hw2 hz2
  clear hz2
  go_wp2_with (first
    | (with_reducible refine wpList_toString rfl _ 72 9 5 rfl Try.underlying72 Try.underlying9 Try.underlying5 ((lst s).take i ++ t ++ (lst s).drop (i + t.length)) g1 0 s.size cap1 ?d1 ?d2 ?d3 ?_))
  case d1 => rfl
  case d2 => have := Hn.out; simp [lst_length]; omega
  case d3 => simpa using hb2
  go_wp2_with fail
  go_ret
  exact ⟨by simp, hw2⟩
end Go.Proofs.Ytiekjjejoekdeaa
