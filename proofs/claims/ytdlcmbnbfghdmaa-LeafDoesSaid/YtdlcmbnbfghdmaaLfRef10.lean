/- Layer 10, the document's answer: Decode, whole. -/
import Derived.Test.YtdlcmbnbfghdmaaLfRef9
import Derived.Test.YtdlcmbnbfghdmaaLfPure5
namespace Go.Proofs.Ytdlcmbnbfghdmaa
open Go.RowKit Bw
set_option linter.unusedVariables false
set_option maxHeartbeats 2000000 in
theorem ref10_Decode (s : ByteArray) (hs : s.size ≤ 1099511627776) (w : World) : Calls Try.prog 12 #[.string s] w (LfPost w (decLD s) (decLE s)) := by
  by_cases h5 : 5 ≤ s.size
  · by_cases h252 : s.size ≤ 252
    · have h := ref10_Decode_walk s h5 h252 _ rfl _ rfl w
      rw [rfO_eq h5 h252] at h
      exact h
    · have e1 : decLO s = none := by rw [decLO, if_pos (by omega)]
      have HP := Lib.hid (post_none (w := w) (show decLD s = noneL by simp [decLD, e1]) (show decLE s = 4 by simp [decLE, e1]))
      generalize LfPost w (decLD s) (decLE s) = PP at *
      have b1 : ¬ (s.size : Int) < 5 := by omega
      have b2 : (252 : Int) < (s.size : Int) := by omega
      clear e1 h5 h252
      have hD := (Hold.start w).madeRow (.slice none 0 0) [.string ⟨#[]⟩, .int .i64 0] 29
      rw [List.nil_append] at hD
      go_enter Try.func12, Try.ntmps12
      go_upto_region 1 with fail
      generalize w.alloc _ = w0 at *
      obtain ⟨t0, t1, t2, f0, f1, f2⟩ := RowAt.c3 (hD.get 0 rfl)
      go_wp2_with fail
      exact bodyPost_ret (v := .tuple #[.agg #[.slice none 0 0, .string ⟨#[]⟩, .int .i64 0], .int .i64 4]) (by simp [results, Try.results12, go_sem, *]) rfl (HP.out _ (by (repeat (refine Up.setCell ?_ _ _ _ (by omega))); exact hD.up))
  · have hn : rLf (lst s) = none := rLf_bad (.inr (.inr (.inl (by
      unfold textE
      split
      · omega
      · rw [if_pos (.inl (by omega))]; omega))))
    have e1 : decLO s = none := by
      unfold decLO
      split
      · rfl
      · rw [hn]; rfl
    have HP := Lib.hid (post_none (w := w) (show decLD s = noneL by simp [decLD, e1]) (show decLE s = 4 by simp [decLE, e1]))
    generalize LfPost w (decLD s) (decLE s) = PP at *
    have b1 : (s.size : Int) < 5 := by omega
    clear e1 h5 hn
    have hD := (Hold.start w).madeRow (.slice none 0 0) [.string ⟨#[]⟩, .int .i64 0] 29
    rw [List.nil_append] at hD
    go_enter Try.func12, Try.ntmps12
    go_upto_region 1 with fail
    generalize w.alloc _ = w0 at *
    obtain ⟨t0, t1, t2, f0, f1, f2⟩ := RowAt.c3 (hD.get 0 rfl)
    go_wp2_with fail
    exact bodyPost_ret (v := .tuple #[.agg #[.slice none 0 0, .string ⟨#[]⟩, .int .i64 0], .int .i64 4]) (by simp [results, Try.results12, go_sem, *]) rfl (HP.out _ (by (repeat (refine Up.setCell ?_ _ _ _ (by omega))); exact hD.up))
end Go.Proofs.Ytdlcmbnbfghdmaa
