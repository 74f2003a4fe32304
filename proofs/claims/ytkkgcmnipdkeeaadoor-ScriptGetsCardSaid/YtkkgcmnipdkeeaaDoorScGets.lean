import Derived.Test.YtkkgcmnipdkeeaaDoorScFixed
import Derived.Test.YtkkgcmnipdkeeaaDoorScRef9
namespace Bw
open Go Go.RowKit
/-- Where acts that the law holds may be read. -/
def ItemsAt (w : World) (q : Option Addr) (I : List ActI) : Prop := ∀ i (h : i < I.length), (∃ g, q = some ⟨g, 0, none⟩ ∧ ∀ j v, (actC I[i].1 I[i].2.1 I[i].2.2)[j]? = some v → w.cell? ⟨g, i * 6 + j, none⟩ = some v) ∧ IntsAt w I[i].2.1 I[i].1.f
theorem ItemsAt.up {w w' : World} {q : Option Addr} {I : List ActI} (h : ItemsAt w q I) (hu : Up w w') : ItemsAt w' q I := fun i hi => by
  obtain ⟨⟨g, hq, hc⟩, h2⟩ := h i hi
  exact ⟨⟨g, hq, fun j v hj => (AllS.of_up (S := fun _ => False) hu).cell (hc j v hj) id⟩, h2.up hu⟩
theorem items_of {w : World} {e : TypeId} {q : Option Addr} {c : Nat} {I : List ActI} (h1 : (ownZ e 6 (.slice q I.length c) I.length (actsC I)).holds w) (h2 : (fatesM I).holds w) : ItemsAt w q I := fun i hi => by
  obtain ⟨q', cap, e1, -, hb⟩ := ownZ_form h1
  obtain ⟨b, rfl, -, hb2⟩ := hb (by omega)
  injection e1 with e2 e3 e4
  subst e2
  refine ⟨⟨b, rfl, fun j v hj => ?_⟩, (h2 I[i] (List.getElem_mem hi)).1⟩
  have hj6 : j < 6 := by have := (List.getElem?_eq_some_iff.1 hj).1; simpa [actC] using this
  rw [hb2 (i * 6 + j) (by omega), actsC_at I i hi j hj6]
  exact hj
theorem map_fst_get {I J : List ActI} (h : I.map (·.1) = J.map (·.1)) (i : Nat) (hi : i < I.length) (hj : i < J.length) : I[i].1 = J[i].1 := by
  have h2 := congrArg (fun l => l[i]?) h
  simp only [List.getElem?_map, List.getElem?_eq_getElem hi, List.getElem?_eq_getElem hj, Option.map_some, Option.some.injEq] at h2
  exact h2
theorem actsD_right (s : ByteArray) : ∀ a ∈ actsD s, a.right = true := by
  intro a ha
  rcases actsE_or s with ⟨-, as', h1, -, h3⟩ | ⟨-, h2, -⟩
  · rw [h3] at ha; exact (actsO_iff.1 h1).2 a ha
  · rw [h2] at ha; cases ha
theorem actsD_len (s : ByteArray) : (actsD s).length ≤ 400 := by
  rcases actsE_or s with ⟨-, as', -, h2, h3⟩ | ⟨-, h2, -⟩
  · rw [h3]; exact h2
  · rw [h2]; simp
theorem items_len {s : ByteArray} {I : List ActI} (h : I.map (·.1) = actsD s) (i : Nat) (hi : i < I.length) : I[i].1.right = true ∧ I[i].1.f.length ≤ 60 := by
  have hm : I[i].1 ∈ actsD s := by rw [← h]; exact List.mem_map.2 ⟨I[i], List.getElem_mem hi, rfl⟩
  have hr := actsD_right s _ hm
  exact ⟨hr, (ActD.ok hr).f2⟩
end Bw
namespace Go.Proofs.YtkkgcmnipdkeeaaDoor
open Go.RowKit Bw
set_option linter.unusedVariables false
set_option maxHeartbeats 4000000 in
set_option maxRecDepth 100000 in
theorem gets_law (s : ByteArray) (hs : s.size ≤ maxLen) (w : World) (ht : Tab w) :
    Calls Tryd.prog 4 #[.string s] w fun e w' => e = .returned (.bool true) ∧ Below w.heap.size w w' := by
  have HT := Lib.hid ht
  clear ht
  unfold maxLen at hs
  obtain ⟨S, hS⟩ : ∃ S, s.extract 0 (min (s.size : Int) 1500).toNat = S := ⟨_, rfl⟩
  have hS1 : S.size ≤ 1500 := by rw [← hS, ByteArray.size_extract]; omega
  have HS := Lib.hid hS
  clear hS
  have CD := Lib.hid (fun w => script_Decode S (by omega) w)
  have CR := Lib.hid (fun w => ref24_Decode S (by omega) w)
  go_enter Tryd.func4, Tryd.ntmps4
  go_upto_region 2 with fail
  rw [HS.out]
  go_upto_region 3 with ((with_reducible refine (CD.out _).mono ?_); rintro e w1 ⟨q, c, I, hI, rfl, hD⟩)
  go_upto_region 4 with ((with_reducible refine (CR.out _).mono ?_); rintro e w2 ⟨q', c', J, hJ, rfl, hE⟩)
  have hU : Up w w2 := hD.up.trans hE.up
  have hIA := (items_of (hD.get 0 rfl) (hD.get 1 rfl)).up hE.up
  have hJA := items_of (hE.get 0 rfl) (hE.get 1 rfl)
  have hIJ : I.map (·.1) = J.map (·.1) := hI.trans hJ.symm
  have hlen : I.length = J.length := by have := congrArg List.length hIJ; simpa using this
  have hl2 : I.length ≤ 400 := by
    have h1 := actsD_len S
    have h2 := congrArg List.length hI
    rw [List.length_map] at h2
    omega
  have HRI := Lib.hid (fun i hi => items_len hI i hi)
  have HIA := Lib.hid hIA
  have HJA := Lib.hid hJA
  have HIJ := Lib.hid hIJ
  have HUW := Lib.hid hU
  clear hIA hJA hIJ hU hI hJ hD hE
  have i0 : (I.length : Int) ≤ 400 := by omega
  generalize actsE S = E at *
  generalize hJl : J.length = m at *
  rw [hlen] at i0 hl2 ⊢
  have HL := Lib.hid (And.intro hlen hJl)
  clear hlen hJl HS hs CD CR
  go_wp2_with fail
  go_loopw [7] (fun v7 wr => ∃ n : Nat, n ≤ m ∧ v7 = .int .i64 n ∧ Up w2 wr) (fun v _ => m - (intOf v).toNat)
  case atStart => exact ⟨0, by omega, rfl, Up.refl w2⟩
  case round =>
  obtain ⟨n, hn, rfl, hu⟩ := hrel
  have n0 : (0 : Int) ≤ (n : Int) := by omega
  by_cases hlt : n < m
  · have b1 : (n : Int) < (m : Int) := by omega
    obtain ⟨h1, h2⟩ := HL.out
    obtain ⟨⟨g, rfl, hc⟩, hi1⟩ := (HIA.out.up hu) n (by omega)
    obtain ⟨⟨g', rfl, hc'⟩, hi2⟩ := (HJA.out.up hu) n (by omega)
    have he := map_fst_get HIJ.out n (by omega) (by omega)
    have hrr := (HRI.out n (by omega)).2
    generalize I[n] = x at *
    generalize J[n] = y at *
    obtain ⟨⟨xk, xt, xkey, xval, xn, xf⟩, xq, xc⟩ := x
    obtain ⟨yy, yq, yc⟩ := y
    simp only at he hrr
    subst he
    simp only [actC] at hc hc' hi1 hi2
    have a0 : wr.cell? ⟨g, n * 6, none⟩ = _ := hc 0 _ rfl; have a1 := hc 1 _ rfl; have a2 := hc 2 _ rfl; have a3 := hc 3 _ rfl; have a4 := hc 4 _ rfl; have a5 := hc 5 _ rfl
    have b0 : wr.cell? ⟨g', n * 6, none⟩ = _ := hc' 0 _ rfl; have b1' := hc' 1 _ rfl; have b2 := hc' 2 _ rfl; have b3 := hc' 3 _ rfl; have b4 := hc' 4 _ rfl; have b5 := hc' 5 _ rfl
    clear hc hc' h1 h2
    have lx : xf.length ≤ 1099511627776 := by omega
    have R1 := Lib.hid (fun u : Later wr => law24_Ref ⟨xk, xt, xkey, xval, xn, xf⟩ xq xc u.world)
    have K8 := fun u : Later wr => ref24_Same ⟨xk, xt, xkey, xval, xn, xf⟩ ⟨xk, xt, xkey, xval, xn, xf⟩ xq yq xc yc u.world (hi1.up u.up) (hi2.up u.up) lx lx
    simp only [actV] at K8 R1
    simp only [decide_true] at K8
    replace K8 := Lib.hid K8
    go_upto_region 9 with fail
    have l0 := Later.cell_of a0; have l1 := Later.cell_of a1; have l2 := Later.cell_of a2; have l3 := Later.cell_of a3; have l4 := Later.cell_of a4; have l5 := Later.cell_of a5
    have m0 := Later.cell_of b0; have m1 := Later.cell_of b1'; have m2 := Later.cell_of b2; have m3 := Later.cell_of b3; have m4 := Later.cell_of b4; have m5 := Later.cell_of b5
    have hne := later_ne wr
    clear a0 a1 a2 a3 a4 a5 b0 b1' b2 b3 b4 b5 lx hi1 hi2
    refine wp_region_later (by kernel_rfl) (by kernel_rfl) ?_
    repeat (go_big_quiet_step (first
      | (go_at_call 11; with_reducible exact Calls.later (R1.out _))
      | (go_at_call 17; with_reducible exact Calls.later (K8.out _))))
    refine wpQuiet_nil ?_
    intro w9 hw9
    obtain ⟨u9, rfl⟩ := hw9
    have hu9 := hu.trans u9.up
    clear l0 l1 l2 l3 l4 l5 m0 m1 m2 m3 m4 m5 hne hu
    generalize u9.world = w9 at *
    go_wp2_with fail
    refine ⟨⟨n + 1, by omega, by go_num, hu9⟩, by simp [intOf]; omega⟩
  · have hnm : n = m := by omega
    subst hnm
    have CF := Lib.hid (fun w h => law24_fixed w h)
    go_wp2_with ((with_reducible refine (CF.out _ (HT.out.up (HUW.out.trans hu))).mono ?_); rintro e wn ⟨rfl, hb⟩; replace hu := hu.next hb; clear hb)
    go_ret
    exact ⟨rfl, HUW.out.trans hu⟩
end Go.Proofs.YtkkgcmnipdkeeaaDoor
