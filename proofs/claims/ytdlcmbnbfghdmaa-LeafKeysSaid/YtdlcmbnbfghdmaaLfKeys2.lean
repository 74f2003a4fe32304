/- Layer 10: all of the law, where all is as it should be. -/
import Derived.Test.YtdlcmbnbfghdmaaLfKeys1
import Derived.Test.YtdlcmbnbfghdmaaLfFixed
import Derived.Test.YtdlcmbnbfghdmaaLfRef3
namespace Go.Proofs.Ytdlcmbnbfghdmaa
open Go.RowKit Bw
set_option linter.unusedVariables false
set_option maxHeartbeats 4000000 in
set_option maxRecDepth 100000 in
theorem law10_all (x : LfD) (has : List PairD) (hH : Has x has) (q q2 : Option Addr) (c c2 : Nat) (w : World) (hS : PairsAt w q x.l) (h2 : PairsAt w q2 has) :
    Calls Try.prog 37 #[lfV x q c, .slice q2 has.length c2] w fun e w' => e = .returned (.bool true) ∧ Below w.heap.size w w' := by
  have sa : x.Sm := LfD.sm hH.right
  have CGet := Lib.hid (fun k w h => leaf_Get x sa q c k w h)
  have CR := Lib.hid (fun w h => ref10_Right x sa q c w h)
  rw [hH.right] at CR
  have CF := Lib.hid (fun (L : List PairD) H N q c w => law10_ref ⟨L, H, N⟩ q c w)
  have HG := Lib.hid (fun p (hp : p ∈ has) => hH.get hp)
  have E3 := Lib.hid (show x.l.length = has.length from hH.len)
  have hsm := hH.small
  have HS := Lib.hid hS
  have HP := Lib.hid h2
  clear hH sa hS h2
  generalize getS x = GS at *
  generalize getE x = GE at *
  obtain ⟨L, H, N⟩ := x
  simp only [lfV] at *
  go_enter Try.func37, Try.ntmps37
  go_upto_region 1 with fail
  have hD := (Hold.start w).madeRow (.slice q L.length c) [.string H, .int .i64 N] 24
  simp only [List.nil_append] at hD
  generalize (w.alloc _) = w0 at *
  replace hD : Hold w w0 [rowR w.heap.size (.slice q L.length c) [.string H, .int .i64 N]] := hD
  go_wp2_with fail
  go_loopw [5] (fun v5 wr => ∃ (n : Nat), n ≤ has.length ∧ v5 = .int .i64 n ∧ Hold w wr [rowR w.heap.size (.slice q L.length c) [.string H, .int .i64 N]]) (fun v _ => has.length - (intOf v).toNat)
  case atStart => exact ⟨0, by omega, rfl, hD⟩
  case round =>
  clear hD
  obtain ⟨n, hnl, rfl, hD⟩ := hrel
  have i0 : (0 : Int) ≤ (n : Int) := by omega
  have i2 : (has.length : Int) ≤ 1000 := by omega
  obtain ⟨t0, t1, t2, -⟩ := RowAt.c3 (hD.get 0 rfl)
  by_cases hgo : n < has.length
  · have b1 : (n : Int) < (has.length : Int) := by omega
    obtain ⟨ga, oa, hq, a1, a2⟩ := (HP.out.up hD.up) n hgo
    have HG2 := HG.out has[n] (List.getElem_mem hgo)
    generalize has[n] = p at *
    obtain ⟨pk, pv⟩ := p
    simp only at a1 a2 HG2
    subst hq
    have CG := Lib.hid (fun w h => CGet.out pk w h)
    rw [HG2.1, HG2.2] at CG
    clear HG2 CGet CR CF
    go_upto_region 4 with fail
    have l0 := Later.cell_of t0; have l1 := Later.cell_of t1; have l2 := Later.cell_of t2; have l3 := Later.cell_of a1; have l4 := Later.cell_of a2
    have hne := later_ne wr
    have HSr := Lib.hid (HS.out.up hD.up)
    clear t0 t1 t2 a1 a2
    refine wp_region_later (by kernel_rfl) (by kernel_rfl) ?_
    repeat (go_big_quiet_step ((go_at_call 23; rename_i ul; with_reducible exact Calls.later (CG.out _ (HSr.out.up ul.up)))))
    refine wpQuiet_nil ?_
    intro w9 hw9
    obtain ⟨u9, rfl⟩ := hw9
    replace hD := hD.next u9.up
    have a2 := l4 u9
    clear l0 l1 l2 l3 l4 hne HSr
    generalize u9.world = w9 at *
    go_wp2_with fail
    go_roundw
    case rel => exact ⟨n + 1, by omega, by go_num, hD⟩
    case measure => simp [intOf]; omega
  · clear CGet
    have e1 : ((L.length : Int) == (has.length : Int)) = true := by have := E3.out; simp; omega
    go_wp2_with (first
      | ((with_reducible refine (CF.out _ _ _ _ _ _).mono ?_); rintro e wn ⟨rfl, hb⟩; replace hD := hD.next hb; clear hb t0 t1 t2; obtain ⟨t0, t1, t2, -⟩ := RowAt.c3 (hD.get 0 rfl))
      | ((with_reducible refine (CR.out _ (HS.out.up hD.up)).mono ?_); rintro e wn ⟨rfl, hb⟩; replace hD := hD.next hb; clear hb t0 t1 t2; obtain ⟨t0, t1, t2, -⟩ := RowAt.c3 (hD.get 0 rfl)))
    go_ret
    exact ⟨rfl, hD.up⟩
end Go.Proofs.Ytdlcmbnbfghdmaa
