import Derived.Test.YtibeeomeafakgaaRecWalk3
namespace Go.Proofs.Ytibeeomeafakgaa
open Go.RowKit Bw
set_option linter.unusedVariables false

theorem same_form (a b : RecD) : a.same b = (a.k == b.k && a.t == b.t && (a.key.toList == b.key.toList) && (a.val.toList == b.val.toList) && a.p == b.p && a.u == b.u && a.n == b.n && decide (a.l = b.l)) := by
  rw [RecD.same, str_eqB, str_eqB]


set_option maxHeartbeats 2000000 in
theorem rec_Same (a b : RecD) (pa pb : Option Addr) (ca cb : Nat) (w : World) (hA : PairsAt w pa a.l) (hB : PairsAt w pb b.l) (la : a.l.length ≤ 1099511627776) (lb : b.l.length ≤ 1099511627776) :
    Calls Try.prog 16 #[recV a (.slice pa a.l.length ca), recV b (.slice pb b.l.length cb)] w fun e w' => e = .returned (.bool (a.same b)) ∧ Below w.heap.size w w' := by
  have C1 := Lib.hid (fun w1 (h : Up w w1) => slices_Equal a.l b.l pa pb ca cb w1 (hA.up h) (hB.up h) la lb)
  have HF := Lib.hid (same_form a b)
  generalize a.same b = L at *
  clear hA hB la lb
  unfold recV
  obtain ⟨k, t, key, val, p, u, n, l⟩ := a
  obtain ⟨k', t', key', val', p', u', n', l'⟩ := b
  have hu := Up.refl w
  simp only at C1 HF ⊢
  generalize decide (l = l') = D at *
  cases h0 : (k == k')
  · go_enter Try.func16, Try.ntmps16
    replace hu := ((hu.alloc (.cells #[.int .i64 k, .int .i64 t, .string key, .string val, .int .i64 p, .int .i64 u, .int .i64 n, .slice pa l.length ca] 24)).alloc (.cells #[.int .i64 k', .int .i64 t', .string key', .string val', .int .i64 p', .int .i64 u', .int .i64 n', .slice pb l'.length cb] 24))
    go_wp2_with ((with_reducible refine (C1.out _ ?_).mono ?_); (· exact hu); rintro e w1 ⟨rfl, hw1⟩; replace hu := hu.next hw1; clear hw1)
    go_ret
    refine ⟨?_, hu⟩
    rw [HF.out]
    simp [*]
  cases h1 : (t == t')
  · go_enter Try.func16, Try.ntmps16
    replace hu := ((hu.alloc (.cells #[.int .i64 k, .int .i64 t, .string key, .string val, .int .i64 p, .int .i64 u, .int .i64 n, .slice pa l.length ca] 24)).alloc (.cells #[.int .i64 k', .int .i64 t', .string key', .string val', .int .i64 p', .int .i64 u', .int .i64 n', .slice pb l'.length cb] 24))
    go_wp2_with ((with_reducible refine (C1.out _ ?_).mono ?_); (· exact hu); rintro e w1 ⟨rfl, hw1⟩; replace hu := hu.next hw1; clear hw1)
    go_ret
    refine ⟨?_, hu⟩
    rw [HF.out]
    simp [*]
  cases h2 : (key.toList == key'.toList)
  · go_enter Try.func16, Try.ntmps16
    replace hu := ((hu.alloc (.cells #[.int .i64 k, .int .i64 t, .string key, .string val, .int .i64 p, .int .i64 u, .int .i64 n, .slice pa l.length ca] 24)).alloc (.cells #[.int .i64 k', .int .i64 t', .string key', .string val', .int .i64 p', .int .i64 u', .int .i64 n', .slice pb l'.length cb] 24))
    go_wp2_with ((with_reducible refine (C1.out _ ?_).mono ?_); (· exact hu); rintro e w1 ⟨rfl, hw1⟩; replace hu := hu.next hw1; clear hw1)
    go_ret
    refine ⟨?_, hu⟩
    rw [HF.out]
    simp [*]
  cases h3 : (val.toList == val'.toList)
  · go_enter Try.func16, Try.ntmps16
    replace hu := ((hu.alloc (.cells #[.int .i64 k, .int .i64 t, .string key, .string val, .int .i64 p, .int .i64 u, .int .i64 n, .slice pa l.length ca] 24)).alloc (.cells #[.int .i64 k', .int .i64 t', .string key', .string val', .int .i64 p', .int .i64 u', .int .i64 n', .slice pb l'.length cb] 24))
    go_wp2_with ((with_reducible refine (C1.out _ ?_).mono ?_); (· exact hu); rintro e w1 ⟨rfl, hw1⟩; replace hu := hu.next hw1; clear hw1)
    go_ret
    refine ⟨?_, hu⟩
    rw [HF.out]
    simp [*]
  cases h4 : (p == p')
  · go_enter Try.func16, Try.ntmps16
    replace hu := ((hu.alloc (.cells #[.int .i64 k, .int .i64 t, .string key, .string val, .int .i64 p, .int .i64 u, .int .i64 n, .slice pa l.length ca] 24)).alloc (.cells #[.int .i64 k', .int .i64 t', .string key', .string val', .int .i64 p', .int .i64 u', .int .i64 n', .slice pb l'.length cb] 24))
    go_wp2_with ((with_reducible refine (C1.out _ ?_).mono ?_); (· exact hu); rintro e w1 ⟨rfl, hw1⟩; replace hu := hu.next hw1; clear hw1)
    go_ret
    refine ⟨?_, hu⟩
    rw [HF.out]
    simp [*]
  cases h5 : (u == u')
  · go_enter Try.func16, Try.ntmps16
    replace hu := ((hu.alloc (.cells #[.int .i64 k, .int .i64 t, .string key, .string val, .int .i64 p, .int .i64 u, .int .i64 n, .slice pa l.length ca] 24)).alloc (.cells #[.int .i64 k', .int .i64 t', .string key', .string val', .int .i64 p', .int .i64 u', .int .i64 n', .slice pb l'.length cb] 24))
    go_wp2_with ((with_reducible refine (C1.out _ ?_).mono ?_); (· exact hu); rintro e w1 ⟨rfl, hw1⟩; replace hu := hu.next hw1; clear hw1)
    go_ret
    refine ⟨?_, hu⟩
    rw [HF.out]
    simp [*]
  cases h6 : (n == n')
  · go_enter Try.func16, Try.ntmps16
    replace hu := ((hu.alloc (.cells #[.int .i64 k, .int .i64 t, .string key, .string val, .int .i64 p, .int .i64 u, .int .i64 n, .slice pa l.length ca] 24)).alloc (.cells #[.int .i64 k', .int .i64 t', .string key', .string val', .int .i64 p', .int .i64 u', .int .i64 n', .slice pb l'.length cb] 24))
    go_wp2_with ((with_reducible refine (C1.out _ ?_).mono ?_); (· exact hu); rintro e w1 ⟨rfl, hw1⟩; replace hu := hu.next hw1; clear hw1)
    go_ret
    refine ⟨?_, hu⟩
    rw [HF.out]
    simp [*]
  go_enter Try.func16, Try.ntmps16
  replace hu := ((hu.alloc (.cells #[.int .i64 k, .int .i64 t, .string key, .string val, .int .i64 p, .int .i64 u, .int .i64 n, .slice pa l.length ca] 24)).alloc (.cells #[.int .i64 k', .int .i64 t', .string key', .string val', .int .i64 p', .int .i64 u', .int .i64 n', .slice pb l'.length cb] 24))
  go_wp2_with ((with_reducible refine (C1.out _ ?_).mono ?_); (· exact hu); rintro e w1 ⟨rfl, hw1⟩; replace hu := hu.next hw1; clear hw1)
  go_ret
  refine ⟨?_, hu⟩
  rw [HF.out]
  simp [*]
end Go.Proofs.Ytibeeomeafakgaa
