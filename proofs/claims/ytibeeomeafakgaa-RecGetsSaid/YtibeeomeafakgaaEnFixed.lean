import Derived.Test.YtibeeomeafakgaaEnWalk3
import Derived.Test.YtibeeomeafakgaaEnWalk7
namespace Go.Proofs.Ytibeeomeafakgaa
open Go.RowKit Bw
set_option linter.unusedVariables false

def fd : RecD := ⟨3, 5, ⟨#[97, 98]⟩, ⟨#[]⟩, 0, 0, 0, []⟩
def fo : RecD := ⟨3, 5, ⟨#[97, 98]⟩, ⟨#[120]⟩, 0, 0, 0, []⟩
def fc : RecD := ⟨7, 0, ⟨#[]⟩, ⟨#[]⟩, 1, 2, 3, [(⟨#[97]⟩, ⟨#[]⟩), (⟨#[98]⟩, ⟨#[120]⟩)]⟩
theorem fd_enc : fd.enc = ⟨#[3, 5, 0, 0, 0, 0, 0, 2, 97, 98]⟩ := by decide +kernel
theorem fo_enc : fo.enc = ⟨#[]⟩ := by decide +kernel
theorem fc_enc : fc.enc = ⟨#[7, 1, 0, 0, 0, 0, 0, 2, 0, 0, 0, 0, 0, 3, 0, 0, 0, 0, 0, 2, 0, 1, 97, 0, 1, 98, 1, 120]⟩ := by decide +kernel
theorem fd_right : fd.rightR = true := by decide +kernel
theorem fc_right : fc.rightR = true := by decide +kernel
theorem fo_right : fo.rightR = false := by decide +kernel
theorem fd_dec : decD ⟨#[3, 5, 0, 0, 0, 0, 0, 2, 97, 98]⟩ = fd ∧ decE ⟨#[3, 5, 0, 0, 0, 0, 0, 2, 97, 98]⟩ = 0 := by
  have h := decO_enc fd_right
  rw [fd_enc] at h
  exact ⟨by rw [decD, h]; rfl, by rw [decE, h]; rfl⟩
theorem fc_dec : decD ⟨#[7, 1, 0, 0, 0, 0, 0, 2, 0, 0, 0, 0, 0, 3, 0, 0, 0, 0, 0, 2, 0, 1, 97, 0, 1, 98, 1, 120]⟩ = fc ∧ decE ⟨#[7, 1, 0, 0, 0, 0, 0, 2, 0, 0, 0, 0, 0, 3, 0, 0, 0, 0, 0, 2, 0, 1, 97, 0, 1, 98, 1, 120]⟩ = 0 := by
  have h := decO_enc fc_right
  rw [fc_enc] at h
  exact ⟨by rw [decD, h]; rfl, by rw [decE, h]; rfl⟩
theorem no_dec {s : ByteArray} (h : (decO s).isNone = true) : decD s = noneR ∧ decE s = 4 := by
  rw [Option.isNone_iff_eq_none] at h
  exact ⟨by rw [decD, h]; rfl, by rw [decE, h]; rfl⟩
theorem dx_dec : decD ⟨#[3, 5, 0, 0, 0, 0, 0, 2, 97, 98, 120]⟩ = noneR ∧ decE ⟨#[3, 5, 0, 0, 0, 0, 0, 2, 97, 98, 120]⟩ = 4 := no_dec (by decide +kernel)
theorem d8_dec : decD ⟨#[8]⟩ = noneR ∧ decE ⟨#[8]⟩ = 4 := no_dec (by decide +kernel)
theorem d0_dec : decD ⟨#[]⟩ = noneR ∧ decE ⟨#[]⟩ = 4 := no_dec (by decide +kernel)
theorem fcd_same : fc.same fd = false := by decide +kernel
theorem pairs_two {w : World} {g : Nat} {a b c d : ByteArray} (h : RowAt w g [.string a, .string b, .string c, .string d]) : PairsAt w (some ⟨g, 0, none⟩) [(a, b), (c, d)] := fun i hi => by
  refine ⟨g, 0, rfl, ?_⟩
  have : i = 0 ∨ i = 1 := by simp at hi; omega
  rcases this with rfl | rfl
  · exact ⟨h.cell 0 (by simp), h.cell 1 (by simp)⟩
  · exact ⟨h.cell 2 (by simp), h.cell 3 (by simp)⟩

def z33 : ByteArray := str (List.replicate 33 0)
theorem z33_bad : valB z33 = false := by decide +kernel
theorem mk33 : ∃ O : Obj, (∀ w, (Instr.makeSlice 43 (.int .i64 33) (.int .i64 33)).run Try.prog w = .ok (.slice (some ⟨w.heap.size, 0, none⟩) 33 33) (w.alloc O)) ∧
    (∀ wx : World, (convert 43 9 (.slice (some ⟨wx.heap.size, 0, none⟩) 33 33)).run Try.prog (wx.alloc O) = .ok (.string z33) (wx.alloc O)) := by
  have hi := u8info
  cases hq : Try.prog.info? 5 with
  | none => simp [hq] at hi
  | some i =>
    simp only [hq, Option.map_some, Option.some.injEq, Prod.mk.injEq] at hi
    obtain ⟨hz, hsz, hby⟩ := hi
    refine ⟨.cells (madeCells (Value.cells (.int .u8 0)) ((33 : Int).toNat * i.size)) 5, fun w => ?_, fun wx => ?_⟩
    · exact run_make (P := Try.prog) w 43 5 i _ Try.underlying43 hq hz .i64 .i64 33 33 (by omega) (Int.le_refl _) (by rw [hby]; omega) (by omega)
    · refine run_convert_bytes_back (P := Try.prog) _ 43 9 5 ⟨wx.heap.size, 0, none⟩ 33 (List.replicate 33 0) Try.underlying43 Try.underlying5 Try.underlying9 (fun j hj => ?_)
      rw [add_none]
      refine (bytesAt_alloc (List.replicate 33 0) _ _ (fun j hj => ?_)).cell j hj
      rw [show (List.replicate 33 (0 : UInt8))[j] = 0 from List.getElem_replicate _]
      simp at hj
      rw [hsz]
      simp [madeCells, Value.cells, hj, Nat.mod_one]

set_option maxHeartbeats 4000000 in
set_option maxRecDepth 100000 in
theorem law5_fixed (w : World) : Calls Try.prog 22 #[] w fun e w' => e = .returned (.bool true) ∧ Below w.heap.size w w' := by
  have E1 := Lib.hid (show ∀ w, Calls Try.prog 14 #[.agg #[.int .i64 3, .int .i64 5, .string ⟨#[97, 98]⟩, .string ⟨#[]⟩, .int .i64 0, .int .i64 0, .int .i64 0, .slice none 0 0]] w fun e w' => e = .returned (.string ⟨#[3, 5, 0, 0, 0, 0, 0, 2, 97, 98]⟩) ∧ Below w.heap.size w w' from fun w => by have := rec_Encode fd none 0 w (PairsAt.nil _ _) (by decide); rw [fd_enc] at this; exact this)
  have E2 := Lib.hid (show ∀ w g, RowAt w g [.string ⟨#[97]⟩, .string ⟨#[]⟩, .string ⟨#[98]⟩, .string ⟨#[120]⟩] → Calls Try.prog 14 #[.agg #[.int .i64 7, .int .i64 0, .string ⟨#[]⟩, .string ⟨#[]⟩, .int .i64 1, .int .i64 2, .int .i64 3, .slice (some ⟨g, 0, none⟩) 2 2]] w fun e w' => e = .returned (.string ⟨#[7, 1, 0, 0, 0, 0, 0, 2, 0, 0, 0, 0, 0, 3, 0, 0, 0, 0, 0, 2, 0, 1, 97, 0, 1, 98, 1, 120]⟩) ∧ Below w.heap.size w w' from fun w g h => by have := rec_Encode fc (some ⟨g, 0, none⟩) 2 w (pairs_two h) (by decide); rw [fc_enc] at this; exact this)
  have E3 := Lib.hid (show ∀ w, Calls Try.prog 14 #[.agg #[.int .i64 3, .int .i64 5, .string ⟨#[97, 98]⟩, .string ⟨#[120]⟩, .int .i64 0, .int .i64 0, .int .i64 0, .slice none 0 0]] w fun e w' => e = .returned (.string ⟨#[]⟩) ∧ Below w.heap.size w w' from fun w => by have := rec_Encode fo none 0 w (PairsAt.nil _ _) (by decide); rw [fo_enc] at this; exact this)
  have D1 := Lib.hid (show ∀ w, Calls Try.prog 23 #[.string ⟨#[3, 5, 0, 0, 0, 0, 0, 2, 97, 98]⟩] w fun e w' => ∃ q c, e = .returned (.tuple #[.agg #[.int .i64 3, .int .i64 5, .string ⟨#[97, 98]⟩, .string ⟨#[]⟩, .int .i64 0, .int .i64 0, .int .i64 0, .slice q 0 c], .int .i64 0]) ∧ PairsAt w' q [] ∧ Below w.heap.size w w' from fun w => (rec_Decode ⟨#[3, 5, 0, 0, 0, 0, 0, 2, 97, 98]⟩ (by decide) w).mono fun e w' ⟨q, c, h1, h2, _, h4⟩ => ⟨q, c, by rw [h1, fd_dec.1, fd_dec.2]; rfl, by rw [fd_dec.1] at h2; exact h2, h4⟩)
  have D2 := Lib.hid (show ∀ w, Calls Try.prog 23 #[.string ⟨#[7, 1, 0, 0, 0, 0, 0, 2, 0, 0, 0, 0, 0, 3, 0, 0, 0, 0, 0, 2, 0, 1, 97, 0, 1, 98, 1, 120]⟩] w fun e w' => ∃ q c, e = .returned (.tuple #[.agg #[.int .i64 7, .int .i64 0, .string ⟨#[]⟩, .string ⟨#[]⟩, .int .i64 1, .int .i64 2, .int .i64 3, .slice q 2 c], .int .i64 0]) ∧ PairsAt w' q [(⟨#[97]⟩, ⟨#[]⟩), (⟨#[98]⟩, ⟨#[120]⟩)] ∧ Below w.heap.size w w' from fun w => (rec_Decode ⟨#[7, 1, 0, 0, 0, 0, 0, 2, 0, 0, 0, 0, 0, 3, 0, 0, 0, 0, 0, 2, 0, 1, 97, 0, 1, 98, 1, 120]⟩ (by decide) w).mono fun e w' ⟨q, c, h1, h2, _, h4⟩ => ⟨q, c, by rw [h1, fc_dec.1, fc_dec.2]; rfl, by rw [fc_dec.1] at h2; exact h2, h4⟩)
  have D3 := Lib.hid (show ∀ w, Calls Try.prog 23 #[.string ⟨#[3, 5, 0, 0, 0, 0, 0, 2, 97, 98, 120]⟩] w fun e w' => ∃ q c, e = .returned (.tuple #[.agg #[.int .i64 0, .int .i64 0, .string ⟨#[]⟩, .string ⟨#[]⟩, .int .i64 0, .int .i64 0, .int .i64 0, .slice q 0 c], .int .i64 4]) ∧ PairsAt w' q [] ∧ Below w.heap.size w w' from fun w => (rec_Decode ⟨#[3, 5, 0, 0, 0, 0, 0, 2, 97, 98, 120]⟩ (by decide) w).mono fun e w' ⟨q, c, h1, h2, _, h4⟩ => ⟨q, c, by rw [h1, dx_dec.1, dx_dec.2]; rfl, by rw [dx_dec.1] at h2; exact h2, h4⟩)
  have D4 := Lib.hid (show ∀ w, Calls Try.prog 23 #[.string ⟨#[8]⟩] w fun e w' => ∃ q c, e = .returned (.tuple #[.agg #[.int .i64 0, .int .i64 0, .string ⟨#[]⟩, .string ⟨#[]⟩, .int .i64 0, .int .i64 0, .int .i64 0, .slice q 0 c], .int .i64 4]) ∧ PairsAt w' q [] ∧ Below w.heap.size w w' from fun w => (rec_Decode ⟨#[8]⟩ (by decide) w).mono fun e w' ⟨q, c, h1, h2, _, h4⟩ => ⟨q, c, by rw [h1, d8_dec.1, d8_dec.2]; rfl, by rw [d8_dec.1] at h2; exact h2, h4⟩)
  have D5 := Lib.hid (show ∀ w, Calls Try.prog 23 #[.string ⟨#[]⟩] w fun e w' => ∃ q c, e = .returned (.tuple #[.agg #[.int .i64 0, .int .i64 0, .string ⟨#[]⟩, .string ⟨#[]⟩, .int .i64 0, .int .i64 0, .int .i64 0, .slice q 0 c], .int .i64 4]) ∧ PairsAt w' q [] ∧ Below w.heap.size w w' from fun w => (rec_Decode ⟨#[]⟩ (by decide) w).mono fun e w' ⟨q, c, h1, h2, _, h4⟩ => ⟨q, c, by rw [h1, d0_dec.1, d0_dec.2]; rfl, by rw [d0_dec.1] at h2; exact h2, h4⟩)
  have Q1 := Lib.hid (show ∀ w q c, Calls Try.prog 16 #[.agg #[.int .i64 3, .int .i64 5, .string ⟨#[97, 98]⟩, .string ⟨#[]⟩, .int .i64 0, .int .i64 0, .int .i64 0, .slice q 0 c], .agg #[.int .i64 3, .int .i64 5, .string ⟨#[97, 98]⟩, .string ⟨#[]⟩, .int .i64 0, .int .i64 0, .int .i64 0, .slice none 0 0]] w fun e w' => e = .returned (.bool true) ∧ Below w.heap.size w w' from fun w q c => by have := rec_Same fd fd q none c 0 w (PairsAt.nil _ _) (PairsAt.nil _ _) (by decide) (by decide); rw [RecD.same_refl] at this; exact this)
  have Q2 := Lib.hid (show ∀ w q c g, PairsAt w q [(⟨#[97]⟩, ⟨#[]⟩), (⟨#[98]⟩, ⟨#[120]⟩)] → RowAt w g [.string ⟨#[97]⟩, .string ⟨#[]⟩, .string ⟨#[98]⟩, .string ⟨#[120]⟩] → Calls Try.prog 16 #[.agg #[.int .i64 7, .int .i64 0, .string ⟨#[]⟩, .string ⟨#[]⟩, .int .i64 1, .int .i64 2, .int .i64 3, .slice q 2 c], .agg #[.int .i64 7, .int .i64 0, .string ⟨#[]⟩, .string ⟨#[]⟩, .int .i64 1, .int .i64 2, .int .i64 3, .slice (some ⟨g, 0, none⟩) 2 2]] w fun e w' => e = .returned (.bool true) ∧ Below w.heap.size w w' from fun w q c g h1 h2 => by have := rec_Same fc fc q (some ⟨g, 0, none⟩) c 2 w h1 (pairs_two h2) (by decide) (by decide); rw [RecD.same_refl] at this; exact this)
  have Q3 := Lib.hid (show ∀ w g, RowAt w g [.string ⟨#[97]⟩, .string ⟨#[]⟩, .string ⟨#[98]⟩, .string ⟨#[120]⟩] → Calls Try.prog 16 #[.agg #[.int .i64 7, .int .i64 0, .string ⟨#[]⟩, .string ⟨#[]⟩, .int .i64 1, .int .i64 2, .int .i64 3, .slice (some ⟨g, 0, none⟩) 2 2], .agg #[.int .i64 3, .int .i64 5, .string ⟨#[97, 98]⟩, .string ⟨#[]⟩, .int .i64 0, .int .i64 0, .int .i64 0, .slice none 0 0]] w fun e w' => e = .returned (.bool false) ∧ Below w.heap.size w w' from fun w g h2 => by have := rec_Same fc fd (some ⟨g, 0, none⟩) none 2 0 w (pairs_two h2) (PairsAt.nil _ _) (by decide) (by decide); rw [fcd_same] at this; exact this)
  have T1 := Lib.hid (show ∀ w, Calls Try.prog 11 #[.agg #[.int .i64 3, .int .i64 5, .string ⟨#[97, 98]⟩, .string ⟨#[]⟩, .int .i64 0, .int .i64 0, .int .i64 0, .slice none 0 0]] w fun e w' => e = .returned (.bool true) ∧ Below w.heap.size w w' from fun w => by have := rec_Right fd none 0 w (PairsAt.nil _ _) (by decide); rw [fd_right] at this; exact this)
  have T2 := Lib.hid (show ∀ w, Calls Try.prog 11 #[.agg #[.int .i64 3, .int .i64 5, .string ⟨#[97, 98]⟩, .string ⟨#[120]⟩, .int .i64 0, .int .i64 0, .int .i64 0, .slice none 0 0]] w fun e w' => e = .returned (.bool false) ∧ Below w.heap.size w w' from fun w => by have := rec_Right fo none 0 w (PairsAt.nil _ _) (by decide); rw [fo_right] at this; exact this)
  have K1 := Lib.hid (show ∀ w, Calls Try.prog 18 #[.string ⟨#[97]⟩] w fun e w' => e = .returned (.bool true) ∧ w = w' from fun w => rec_Key ⟨#[97]⟩ w)
  have K2 := Lib.hid (show ∀ w, Calls Try.prog 18 #[.string ⟨#[]⟩] w fun e w' => e = .returned (.bool false) ∧ w = w' from fun w => rec_Key ⟨#[]⟩ w)
  have V1 := Lib.hid (show ∀ w, Calls Try.prog 20 #[.string ⟨#[]⟩] w fun e w' => e = .returned (.bool true) ∧ w = w' from fun w => rec_Value ⟨#[]⟩ w)
  have V2 := Lib.hid (show ∀ w, Calls Try.prog 20 #[.string z33] w fun e w' => e = .returned (.bool false) ∧ w = w' from fun w => by have := rec_Value z33 w; rw [z33_bad] at this; exact this)
  have hu := Up.refl w
  go_enter Try.func22, Try.ntmps22
  go_upto_region 3 with fail
  have r1 := ((RowAt.made w 24 [.int .i64 3, .int .i64 5, .string ⟨#[97, 98]⟩, .string ⟨#[]⟩, .int .i64 0, .int .i64 0, .int .i64 0, .slice none 0 0]).alloc (.cells #[.string ⟨#[97]⟩, .string ⟨#[]⟩, .string ⟨#[98]⟩, .string ⟨#[120]⟩] 47)).alloc (.cells #[.int .i64 7, .int .i64 0, .string ⟨#[]⟩, .string ⟨#[]⟩, .int .i64 1, .int .i64 2, .int .i64 3, .slice (some ⟨w.heap.size + 1, 0, none⟩) 2 2] 24)
  have rP := (RowAt.made (w.alloc (.cells #[.int .i64 3, .int .i64 5, .string ⟨#[97, 98]⟩, .string ⟨#[]⟩, .int .i64 0, .int .i64 0, .int .i64 0, .slice none 0 0] 24)) 47 [.string ⟨#[97]⟩, .string ⟨#[]⟩, .string ⟨#[98]⟩, .string ⟨#[120]⟩]).alloc (.cells #[.int .i64 7, .int .i64 0, .string ⟨#[]⟩, .string ⟨#[]⟩, .int .i64 1, .int .i64 2, .int .i64 3, .slice (some ⟨w.heap.size + 1, 0, none⟩) 2 2] 24)
  have r2 := RowAt.made ((w.alloc (.cells #[.int .i64 3, .int .i64 5, .string ⟨#[97, 98]⟩, .string ⟨#[]⟩, .int .i64 0, .int .i64 0, .int .i64 0, .slice none 0 0] 24)).alloc (.cells #[.string ⟨#[97]⟩, .string ⟨#[]⟩, .string ⟨#[98]⟩, .string ⟨#[120]⟩] 47)) 24 [.int .i64 7, .int .i64 0, .string ⟨#[]⟩, .string ⟨#[]⟩, .int .i64 1, .int .i64 2, .int .i64 3, .slice (some ⟨w.heap.size + 1, 0, none⟩) 2 2]
  simp at r1 rP r2
  replace hu := ((hu.alloc (.cells #[.int .i64 3, .int .i64 5, .string ⟨#[97, 98]⟩, .string ⟨#[]⟩, .int .i64 0, .int .i64 0, .int .i64 0, .slice none 0 0] 24)).alloc (.cells #[.string ⟨#[97]⟩, .string ⟨#[]⟩, .string ⟨#[98]⟩, .string ⟨#[120]⟩] 47)).alloc (.cells #[.int .i64 7, .int .i64 0, .string ⟨#[]⟩, .string ⟨#[]⟩, .int .i64 1, .int .i64 2, .int .i64 3, .slice (some ⟨w.heap.size + 1, 0, none⟩) 2 2] 24)
  generalize ((w.alloc (.cells #[.int .i64 3, .int .i64 5, .string ⟨#[97, 98]⟩, .string ⟨#[]⟩, .int .i64 0, .int .i64 0, .int .i64 0, .slice none 0 0] 24)).alloc (.cells #[.string ⟨#[97]⟩, .string ⟨#[]⟩, .string ⟨#[98]⟩, .string ⟨#[120]⟩] 47)).alloc (.cells #[.int .i64 7, .int .i64 0, .string ⟨#[]⟩, .string ⟨#[]⟩, .int .i64 1, .int .i64 2, .int .i64 3, .slice (some ⟨w.heap.size + 1, 0, none⟩) 2 2] 24) = wa at *
  obtain ⟨r1_0, r1_1, r1_2, r1_3, r1_4, r1_5, r1_6, r1_7, -⟩ := r1.c8
  go_upto_region 4 with ((with_reducible refine (E1.out _).mono ?_); rintro e wn ⟨rfl, hw⟩; replace r1 := r1.up hw; replace rP := rP.up hw; replace r2 := r2.up hw; replace hu := hu.next hw; clear hw)
  clear r1_0 r1_1 r1_2 r1_3 r1_4 r1_5 r1_6 r1_7
  go_upto_region 5 with ((with_reducible refine (D1.out _).mono ?_); rintro e wn ⟨q1, c1, rfl, hq1, hw⟩; replace r1 := r1.up hw; replace rP := rP.up hw; replace r2 := r2.up hw; replace hu := hu.next hw; clear hw)
  have r2lt := r2.lt
  have r4 := RowAt.made wn 24 [.int .i64 3, .int .i64 5, .string ⟨#[97, 98]⟩, .string ⟨#[]⟩, .int .i64 0, .int .i64 0, .int .i64 0, .slice q1 0 c1]
  have s_r4 := hu.alloc (.cells #[.int .i64 3, .int .i64 5, .string ⟨#[97, 98]⟩, .string ⟨#[]⟩, .int .i64 0, .int .i64 0, .int .i64 0, .slice q1 0 c1] 24)
  replace r1 := r1.alloc (.cells #[.int .i64 3, .int .i64 5, .string ⟨#[97, 98]⟩, .string ⟨#[]⟩, .int .i64 0, .int .i64 0, .int .i64 0, .slice q1 0 c1] 24)
  replace rP := rP.alloc (.cells #[.int .i64 3, .int .i64 5, .string ⟨#[97, 98]⟩, .string ⟨#[]⟩, .int .i64 0, .int .i64 0, .int .i64 0, .slice q1 0 c1] 24)
  replace r2 := r2.alloc (.cells #[.int .i64 3, .int .i64 5, .string ⟨#[97, 98]⟩, .string ⟨#[]⟩, .int .i64 0, .int .i64 0, .int .i64 0, .slice q1 0 c1] 24)
  replace hu := hu.alloc (.cells #[.int .i64 3, .int .i64 5, .string ⟨#[97, 98]⟩, .string ⟨#[]⟩, .int .i64 0, .int .i64 0, .int .i64 0, .slice q1 0 c1] 24)
  clear s_r4
  have ne_r4 : w.heap.size + 2 < wn.heap.size := r2lt
  generalize wn.heap.size = gr4 at *
  generalize wn.alloc (.cells #[.int .i64 3, .int .i64 5, .string ⟨#[97, 98]⟩, .string ⟨#[]⟩, .int .i64 0, .int .i64 0, .int .i64 0, .slice q1 0 c1] 24) = wb at *
  obtain ⟨r2_0, r2_1, r2_2, r2_3, r2_4, r2_5, r2_6, r2_7, -⟩ := r2.c8
  go_upto_region 6 with (first | ((with_reducible refine (E2.out _ _ rP).mono ?_); rintro e wn ⟨rfl, hw⟩; replace r1 := r1.up hw; replace rP := rP.up hw; replace r2 := r2.up hw; replace r4 := r4.up hw; replace hu := hu.next hw; clear hw) | ((with_reducible refine (D2.out _).mono ?_); rintro e wn ⟨q2, c2, rfl, hq2, hw⟩; replace r1 := r1.up hw; replace rP := rP.up hw; replace r2 := r2.up hw; replace r4 := r4.up hw; replace hu := hu.next hw; clear hw))
  clear r2_0 r2_1 r2_2 r2_3 r2_4 r2_5 r2_6 r2_7
  have r2lt := r2.lt; have r4lt := r4.lt
  have r6 := RowAt.made wn 24 [.int .i64 7, .int .i64 0, .string ⟨#[]⟩, .string ⟨#[]⟩, .int .i64 1, .int .i64 2, .int .i64 3, .slice q2 2 c2]
  have s_r6 := hu.alloc (.cells #[.int .i64 7, .int .i64 0, .string ⟨#[]⟩, .string ⟨#[]⟩, .int .i64 1, .int .i64 2, .int .i64 3, .slice q2 2 c2] 24)
  replace r1 := r1.alloc (.cells #[.int .i64 7, .int .i64 0, .string ⟨#[]⟩, .string ⟨#[]⟩, .int .i64 1, .int .i64 2, .int .i64 3, .slice q2 2 c2] 24)
  replace rP := rP.alloc (.cells #[.int .i64 7, .int .i64 0, .string ⟨#[]⟩, .string ⟨#[]⟩, .int .i64 1, .int .i64 2, .int .i64 3, .slice q2 2 c2] 24)
  replace r2 := r2.alloc (.cells #[.int .i64 7, .int .i64 0, .string ⟨#[]⟩, .string ⟨#[]⟩, .int .i64 1, .int .i64 2, .int .i64 3, .slice q2 2 c2] 24)
  replace r4 := r4.alloc (.cells #[.int .i64 7, .int .i64 0, .string ⟨#[]⟩, .string ⟨#[]⟩, .int .i64 1, .int .i64 2, .int .i64 3, .slice q2 2 c2] 24)
  replace hq2 := PairsAt.up hq2 ((Up.refl _).alloc (.cells #[.int .i64 7, .int .i64 0, .string ⟨#[]⟩, .string ⟨#[]⟩, .int .i64 1, .int .i64 2, .int .i64 3, .slice q2 2 c2] 24))
  replace hu := hu.alloc (.cells #[.int .i64 7, .int .i64 0, .string ⟨#[]⟩, .string ⟨#[]⟩, .int .i64 1, .int .i64 2, .int .i64 3, .slice q2 2 c2] 24)
  clear s_r6
  have ne_r6 : w.heap.size + 2 < wn.heap.size := r2lt
  have ne_r6_r4 : gr4 < wn.heap.size := r4lt
  generalize wn.heap.size = gr6 at *
  generalize wn.alloc (.cells #[.int .i64 7, .int .i64 0, .string ⟨#[]⟩, .string ⟨#[]⟩, .int .i64 1, .int .i64 2, .int .i64 3, .slice q2 2 c2] 24) = wb at *
  have hcat : (⟨#[3, 5, 0, 0, 0, 0, 0, 2, 97, 98]⟩ : ByteArray) ++ ⟨#[120]⟩ = ⟨#[3, 5, 0, 0, 0, 0, 0, 2, 97, 98, 120]⟩ := by decide +kernel
  go_upto_region 7 with ((with_reducible refine (D3.out _).mono ?_); rintro e wn ⟨q3, c3, rfl, hq3, hw⟩; replace r1 := r1.up hw; replace rP := rP.up hw; replace r2 := r2.up hw; replace r4 := r4.up hw; replace r6 := r6.up hw; replace hq2 := PairsAt.up hq2 hw; replace hu := hu.next hw; clear hw)
  replace r1 := r1.alloc (.cells #[.int .i64 0, .int .i64 0, .string ⟨#[]⟩, .string ⟨#[]⟩, .int .i64 0, .int .i64 0, .int .i64 0, .slice q3 0 c3] 24)
  replace rP := rP.alloc (.cells #[.int .i64 0, .int .i64 0, .string ⟨#[]⟩, .string ⟨#[]⟩, .int .i64 0, .int .i64 0, .int .i64 0, .slice q3 0 c3] 24)
  replace r2 := r2.alloc (.cells #[.int .i64 0, .int .i64 0, .string ⟨#[]⟩, .string ⟨#[]⟩, .int .i64 0, .int .i64 0, .int .i64 0, .slice q3 0 c3] 24)
  replace r4 := r4.alloc (.cells #[.int .i64 0, .int .i64 0, .string ⟨#[]⟩, .string ⟨#[]⟩, .int .i64 0, .int .i64 0, .int .i64 0, .slice q3 0 c3] 24)
  replace r6 := r6.alloc (.cells #[.int .i64 0, .int .i64 0, .string ⟨#[]⟩, .string ⟨#[]⟩, .int .i64 0, .int .i64 0, .int .i64 0, .slice q3 0 c3] 24)
  replace hq2 := PairsAt.up hq2 ((Up.refl _).alloc (.cells #[.int .i64 0, .int .i64 0, .string ⟨#[]⟩, .string ⟨#[]⟩, .int .i64 0, .int .i64 0, .int .i64 0, .slice q3 0 c3] 24))
  replace hu := hu.alloc (.cells #[.int .i64 0, .int .i64 0, .string ⟨#[]⟩, .string ⟨#[]⟩, .int .i64 0, .int .i64 0, .int .i64 0, .slice q3 0 c3] 24)
  generalize wn.alloc (.cells #[.int .i64 0, .int .i64 0, .string ⟨#[]⟩, .string ⟨#[]⟩, .int .i64 0, .int .i64 0, .int .i64 0, .slice q3 0 c3] 24) = wb at *
  go_upto_region 8 with ((with_reducible refine (D4.out _).mono ?_); rintro e wn ⟨q4, c4, rfl, hq4, hw⟩; replace r1 := r1.up hw; replace rP := rP.up hw; replace r2 := r2.up hw; replace r4 := r4.up hw; replace r6 := r6.up hw; replace hq2 := PairsAt.up hq2 hw; replace hu := hu.next hw; clear hw)
  replace r1 := r1.alloc (.cells #[.int .i64 0, .int .i64 0, .string ⟨#[]⟩, .string ⟨#[]⟩, .int .i64 0, .int .i64 0, .int .i64 0, .slice q4 0 c4] 24)
  replace rP := rP.alloc (.cells #[.int .i64 0, .int .i64 0, .string ⟨#[]⟩, .string ⟨#[]⟩, .int .i64 0, .int .i64 0, .int .i64 0, .slice q4 0 c4] 24)
  replace r2 := r2.alloc (.cells #[.int .i64 0, .int .i64 0, .string ⟨#[]⟩, .string ⟨#[]⟩, .int .i64 0, .int .i64 0, .int .i64 0, .slice q4 0 c4] 24)
  replace r4 := r4.alloc (.cells #[.int .i64 0, .int .i64 0, .string ⟨#[]⟩, .string ⟨#[]⟩, .int .i64 0, .int .i64 0, .int .i64 0, .slice q4 0 c4] 24)
  replace r6 := r6.alloc (.cells #[.int .i64 0, .int .i64 0, .string ⟨#[]⟩, .string ⟨#[]⟩, .int .i64 0, .int .i64 0, .int .i64 0, .slice q4 0 c4] 24)
  replace hq2 := PairsAt.up hq2 ((Up.refl _).alloc (.cells #[.int .i64 0, .int .i64 0, .string ⟨#[]⟩, .string ⟨#[]⟩, .int .i64 0, .int .i64 0, .int .i64 0, .slice q4 0 c4] 24))
  replace hu := hu.alloc (.cells #[.int .i64 0, .int .i64 0, .string ⟨#[]⟩, .string ⟨#[]⟩, .int .i64 0, .int .i64 0, .int .i64 0, .slice q4 0 c4] 24)
  generalize wn.alloc (.cells #[.int .i64 0, .int .i64 0, .string ⟨#[]⟩, .string ⟨#[]⟩, .int .i64 0, .int .i64 0, .int .i64 0, .slice q4 0 c4] 24) = wb at *
  go_upto_region 9 with ((with_reducible refine (D5.out _).mono ?_); rintro e wn ⟨q5, c5, rfl, hq5, hw⟩; replace r1 := r1.up hw; replace rP := rP.up hw; replace r2 := r2.up hw; replace r4 := r4.up hw; replace r6 := r6.up hw; replace hq2 := PairsAt.up hq2 hw; replace hu := hu.next hw; clear hw)
  replace r1 := r1.alloc (.cells #[.int .i64 0, .int .i64 0, .string ⟨#[]⟩, .string ⟨#[]⟩, .int .i64 0, .int .i64 0, .int .i64 0, .slice q5 0 c5] 24)
  replace rP := rP.alloc (.cells #[.int .i64 0, .int .i64 0, .string ⟨#[]⟩, .string ⟨#[]⟩, .int .i64 0, .int .i64 0, .int .i64 0, .slice q5 0 c5] 24)
  replace r2 := r2.alloc (.cells #[.int .i64 0, .int .i64 0, .string ⟨#[]⟩, .string ⟨#[]⟩, .int .i64 0, .int .i64 0, .int .i64 0, .slice q5 0 c5] 24)
  replace r4 := r4.alloc (.cells #[.int .i64 0, .int .i64 0, .string ⟨#[]⟩, .string ⟨#[]⟩, .int .i64 0, .int .i64 0, .int .i64 0, .slice q5 0 c5] 24)
  replace r6 := r6.alloc (.cells #[.int .i64 0, .int .i64 0, .string ⟨#[]⟩, .string ⟨#[]⟩, .int .i64 0, .int .i64 0, .int .i64 0, .slice q5 0 c5] 24)
  replace hq2 := PairsAt.up hq2 ((Up.refl _).alloc (.cells #[.int .i64 0, .int .i64 0, .string ⟨#[]⟩, .string ⟨#[]⟩, .int .i64 0, .int .i64 0, .int .i64 0, .slice q5 0 c5] 24))
  replace hu := hu.alloc (.cells #[.int .i64 0, .int .i64 0, .string ⟨#[]⟩, .string ⟨#[]⟩, .int .i64 0, .int .i64 0, .int .i64 0, .slice q5 0 c5] 24)
  generalize wn.alloc (.cells #[.int .i64 0, .int .i64 0, .string ⟨#[]⟩, .string ⟨#[]⟩, .int .i64 0, .int .i64 0, .int .i64 0, .slice q5 0 c5] 24) = wb at *
  obtain ⟨r1_0, r1_1, r1_2, r1_3, r1_4, r1_5, r1_6, r1_7, -⟩ := r1.c8
  go_upto_region 10 with fail
  clear r1_0 r1_1 r1_2 r1_3 r1_4 r1_5 r1_6 r1_7
  have r2lt := r2.lt; have r4lt := r4.lt; have r6lt := r6.lt; have r1lt := r1.lt; have rPlt := rP.lt
  have r14 := RowAt.made wb 24 [.int .i64 3, .int .i64 5, .string ⟨#[97, 98]⟩, .string ⟨#[]⟩, .int .i64 0, .int .i64 0, .int .i64 0, .slice none 0 0]
  obtain ⟨-, -, -, k3, -, -, -, -, -, -, -, f3, -⟩ := r14.c8
  have hst : Up wb ((wb.alloc (.cells #[.int .i64 3, .int .i64 5, .string ⟨#[97, 98]⟩, .string ⟨#[]⟩, .int .i64 0, .int .i64 0, .int .i64 0, .slice none 0 0] 24)).setCell ⟨wb.heap.size, 3, none⟩ (.string ⟨#[120]⟩)) := ((Up.refl wb).alloc _).setCell _ _ _ (Nat.le_refl _)
  replace r1 := r1.up hst
  replace rP := rP.up hst
  replace r2 := r2.up hst
  replace r4 := r4.up hst
  replace r6 := r6.up hst
  replace hq2 := PairsAt.up hq2 hst
  replace hu := hu.trans hst
  replace r14 := r14.set 3 (.string ⟨#[120]⟩) (by simp)
  simp only [List.set_cons_zero, List.set_cons_succ] at r14
  clear hst hcat
  generalize wb.heap.size = g14 at *
  generalize wb.alloc (.cells #[.int .i64 3, .int .i64 5, .string ⟨#[97, 98]⟩, .string ⟨#[]⟩, .int .i64 0, .int .i64 0, .int .i64 0, .slice none 0 0] 24) = wc at *
  obtain ⟨r1_0, r1_1, r1_2, r1_3, r1_4, r1_5, r1_6, r1_7, -⟩ := r1.c8
  obtain ⟨r2_0, r2_1, r2_2, r2_3, r2_4, r2_5, r2_6, r2_7, -⟩ := r2.c8
  obtain ⟨r4_0, r4_1, r4_2, r4_3, r4_4, r4_5, r4_6, r4_7, -⟩ := r4.c8
  obtain ⟨r6_0, r6_1, r6_2, r6_3, r6_4, r6_5, r6_6, r6_7, -⟩ := r6.c8
  obtain ⟨r14_0, r14_1, r14_2, r14_3, r14_4, r14_5, r14_6, r14_7, -⟩ := r14.c8
  obtain ⟨O33, hmk, hcv⟩ := mk33
  go_wp2_with (first
    | ((with_reducible refine (Q1.out _ _ _).mono ?_); rintro e wn ⟨rfl, hw⟩; replace r1 := r1.up hw; replace rP := rP.up hw; replace r2 := r2.up hw; replace r4 := r4.up hw; replace r6 := r6.up hw; replace r14 := r14.up hw; replace hq2 := PairsAt.up hq2 hw; replace hu := hu.next hw; clear hw; clear r1_0 r1_1 r1_2 r1_3 r1_4 r1_5 r1_6 r1_7; obtain ⟨r1_0, r1_1, r1_2, r1_3, r1_4, r1_5, r1_6, r1_7, -⟩ := r1.c8;  clear r2_0 r2_1 r2_2 r2_3 r2_4 r2_5 r2_6 r2_7; obtain ⟨r2_0, r2_1, r2_2, r2_3, r2_4, r2_5, r2_6, r2_7, -⟩ := r2.c8;  clear r4_0 r4_1 r4_2 r4_3 r4_4 r4_5 r4_6 r4_7; obtain ⟨r4_0, r4_1, r4_2, r4_3, r4_4, r4_5, r4_6, r4_7, -⟩ := r4.c8;  clear r6_0 r6_1 r6_2 r6_3 r6_4 r6_5 r6_6 r6_7; obtain ⟨r6_0, r6_1, r6_2, r6_3, r6_4, r6_5, r6_6, r6_7, -⟩ := r6.c8;  clear r14_0 r14_1 r14_2 r14_3 r14_4 r14_5 r14_6 r14_7; obtain ⟨r14_0, r14_1, r14_2, r14_3, r14_4, r14_5, r14_6, r14_7, -⟩ := r14.c8)
    | ((with_reducible refine (Q2.out _ _ _ _ hq2 rP).mono ?_); rintro e wn ⟨rfl, hw⟩; replace r1 := r1.up hw; replace rP := rP.up hw; replace r2 := r2.up hw; replace r4 := r4.up hw; replace r6 := r6.up hw; replace r14 := r14.up hw; replace hq2 := PairsAt.up hq2 hw; replace hu := hu.next hw; clear hw; clear r1_0 r1_1 r1_2 r1_3 r1_4 r1_5 r1_6 r1_7; obtain ⟨r1_0, r1_1, r1_2, r1_3, r1_4, r1_5, r1_6, r1_7, -⟩ := r1.c8;  clear r2_0 r2_1 r2_2 r2_3 r2_4 r2_5 r2_6 r2_7; obtain ⟨r2_0, r2_1, r2_2, r2_3, r2_4, r2_5, r2_6, r2_7, -⟩ := r2.c8;  clear r4_0 r4_1 r4_2 r4_3 r4_4 r4_5 r4_6 r4_7; obtain ⟨r4_0, r4_1, r4_2, r4_3, r4_4, r4_5, r4_6, r4_7, -⟩ := r4.c8;  clear r6_0 r6_1 r6_2 r6_3 r6_4 r6_5 r6_6 r6_7; obtain ⟨r6_0, r6_1, r6_2, r6_3, r6_4, r6_5, r6_6, r6_7, -⟩ := r6.c8;  clear r14_0 r14_1 r14_2 r14_3 r14_4 r14_5 r14_6 r14_7; obtain ⟨r14_0, r14_1, r14_2, r14_3, r14_4, r14_5, r14_6, r14_7, -⟩ := r14.c8)
    | ((with_reducible refine (T1.out _).mono ?_); rintro e wn ⟨rfl, hw⟩; replace r1 := r1.up hw; replace rP := rP.up hw; replace r2 := r2.up hw; replace r4 := r4.up hw; replace r6 := r6.up hw; replace r14 := r14.up hw; replace hq2 := PairsAt.up hq2 hw; replace hu := hu.next hw; clear hw; clear r1_0 r1_1 r1_2 r1_3 r1_4 r1_5 r1_6 r1_7; obtain ⟨r1_0, r1_1, r1_2, r1_3, r1_4, r1_5, r1_6, r1_7, -⟩ := r1.c8;  clear r2_0 r2_1 r2_2 r2_3 r2_4 r2_5 r2_6 r2_7; obtain ⟨r2_0, r2_1, r2_2, r2_3, r2_4, r2_5, r2_6, r2_7, -⟩ := r2.c8;  clear r4_0 r4_1 r4_2 r4_3 r4_4 r4_5 r4_6 r4_7; obtain ⟨r4_0, r4_1, r4_2, r4_3, r4_4, r4_5, r4_6, r4_7, -⟩ := r4.c8;  clear r6_0 r6_1 r6_2 r6_3 r6_4 r6_5 r6_6 r6_7; obtain ⟨r6_0, r6_1, r6_2, r6_3, r6_4, r6_5, r6_6, r6_7, -⟩ := r6.c8;  clear r14_0 r14_1 r14_2 r14_3 r14_4 r14_5 r14_6 r14_7; obtain ⟨r14_0, r14_1, r14_2, r14_3, r14_4, r14_5, r14_6, r14_7, -⟩ := r14.c8)
    | ((with_reducible refine (T2.out _).mono ?_); rintro e wn ⟨rfl, hw⟩; replace r1 := r1.up hw; replace rP := rP.up hw; replace r2 := r2.up hw; replace r4 := r4.up hw; replace r6 := r6.up hw; replace r14 := r14.up hw; replace hq2 := PairsAt.up hq2 hw; replace hu := hu.next hw; clear hw; clear r1_0 r1_1 r1_2 r1_3 r1_4 r1_5 r1_6 r1_7; obtain ⟨r1_0, r1_1, r1_2, r1_3, r1_4, r1_5, r1_6, r1_7, -⟩ := r1.c8;  clear r2_0 r2_1 r2_2 r2_3 r2_4 r2_5 r2_6 r2_7; obtain ⟨r2_0, r2_1, r2_2, r2_3, r2_4, r2_5, r2_6, r2_7, -⟩ := r2.c8;  clear r4_0 r4_1 r4_2 r4_3 r4_4 r4_5 r4_6 r4_7; obtain ⟨r4_0, r4_1, r4_2, r4_3, r4_4, r4_5, r4_6, r4_7, -⟩ := r4.c8;  clear r6_0 r6_1 r6_2 r6_3 r6_4 r6_5 r6_6 r6_7; obtain ⟨r6_0, r6_1, r6_2, r6_3, r6_4, r6_5, r6_6, r6_7, -⟩ := r6.c8;  clear r14_0 r14_1 r14_2 r14_3 r14_4 r14_5 r14_6 r14_7; obtain ⟨r14_0, r14_1, r14_2, r14_3, r14_4, r14_5, r14_6, r14_7, -⟩ := r14.c8)
    | ((with_reducible refine (Q3.out _ _ rP).mono ?_); rintro e wn ⟨rfl, hw⟩; replace r1 := r1.up hw; replace rP := rP.up hw; replace r2 := r2.up hw; replace r4 := r4.up hw; replace r6 := r6.up hw; replace r14 := r14.up hw; replace hq2 := PairsAt.up hq2 hw; replace hu := hu.next hw; clear hw; clear r1_0 r1_1 r1_2 r1_3 r1_4 r1_5 r1_6 r1_7; obtain ⟨r1_0, r1_1, r1_2, r1_3, r1_4, r1_5, r1_6, r1_7, -⟩ := r1.c8;  clear r2_0 r2_1 r2_2 r2_3 r2_4 r2_5 r2_6 r2_7; obtain ⟨r2_0, r2_1, r2_2, r2_3, r2_4, r2_5, r2_6, r2_7, -⟩ := r2.c8;  clear r4_0 r4_1 r4_2 r4_3 r4_4 r4_5 r4_6 r4_7; obtain ⟨r4_0, r4_1, r4_2, r4_3, r4_4, r4_5, r4_6, r4_7, -⟩ := r4.c8;  clear r6_0 r6_1 r6_2 r6_3 r6_4 r6_5 r6_6 r6_7; obtain ⟨r6_0, r6_1, r6_2, r6_3, r6_4, r6_5, r6_6, r6_7, -⟩ := r6.c8;  clear r14_0 r14_1 r14_2 r14_3 r14_4 r14_5 r14_6 r14_7; obtain ⟨r14_0, r14_1, r14_2, r14_3, r14_4, r14_5, r14_6, r14_7, -⟩ := r14.c8)
    | ((with_reducible refine (E3.out _).mono ?_); rintro e wn ⟨rfl, hw⟩; replace r1 := r1.up hw; replace rP := rP.up hw; replace r2 := r2.up hw; replace r4 := r4.up hw; replace r6 := r6.up hw; replace r14 := r14.up hw; replace hq2 := PairsAt.up hq2 hw; replace hu := hu.next hw; clear hw; clear r1_0 r1_1 r1_2 r1_3 r1_4 r1_5 r1_6 r1_7; obtain ⟨r1_0, r1_1, r1_2, r1_3, r1_4, r1_5, r1_6, r1_7, -⟩ := r1.c8;  clear r2_0 r2_1 r2_2 r2_3 r2_4 r2_5 r2_6 r2_7; obtain ⟨r2_0, r2_1, r2_2, r2_3, r2_4, r2_5, r2_6, r2_7, -⟩ := r2.c8;  clear r4_0 r4_1 r4_2 r4_3 r4_4 r4_5 r4_6 r4_7; obtain ⟨r4_0, r4_1, r4_2, r4_3, r4_4, r4_5, r4_6, r4_7, -⟩ := r4.c8;  clear r6_0 r6_1 r6_2 r6_3 r6_4 r6_5 r6_6 r6_7; obtain ⟨r6_0, r6_1, r6_2, r6_3, r6_4, r6_5, r6_6, r6_7, -⟩ := r6.c8;  clear r14_0 r14_1 r14_2 r14_3 r14_4 r14_5 r14_6 r14_7; obtain ⟨r14_0, r14_1, r14_2, r14_3, r14_4, r14_5, r14_6, r14_7, -⟩ := r14.c8)
    | ((with_reducible refine (K1.out _).mono ?_); rintro e wn ⟨rfl, rfl⟩)
    | ((with_reducible refine (K2.out _).mono ?_); rintro e wn ⟨rfl, rfl⟩)
    | ((with_reducible refine (V1.out _).mono ?_); rintro e wn ⟨rfl, rfl⟩)
    | ((with_reducible refine (V2.out _).mono ?_); rintro e wn ⟨rfl, rfl⟩; replace r1 := r1.alloc O33; replace rP := rP.alloc O33; replace r2 := r2.alloc O33; replace r4 := r4.alloc O33; replace r6 := r6.alloc O33; replace r14 := r14.alloc O33; replace hq2 := PairsAt.up hq2 ((Up.refl _).alloc O33); replace hu := hu.alloc O33; clear r1_0 r1_1 r1_2 r1_3 r1_4 r1_5 r1_6 r1_7; obtain ⟨r1_0, r1_1, r1_2, r1_3, r1_4, r1_5, r1_6, r1_7, -⟩ := r1.c8;  clear r2_0 r2_1 r2_2 r2_3 r2_4 r2_5 r2_6 r2_7; obtain ⟨r2_0, r2_1, r2_2, r2_3, r2_4, r2_5, r2_6, r2_7, -⟩ := r2.c8;  clear r4_0 r4_1 r4_2 r4_3 r4_4 r4_5 r4_6 r4_7; obtain ⟨r4_0, r4_1, r4_2, r4_3, r4_4, r4_5, r4_6, r4_7, -⟩ := r4.c8;  clear r6_0 r6_1 r6_2 r6_3 r6_4 r6_5 r6_6 r6_7; obtain ⟨r6_0, r6_1, r6_2, r6_3, r6_4, r6_5, r6_6, r6_7, -⟩ := r6.c8;  clear r14_0 r14_1 r14_2 r14_3 r14_4 r14_5 r14_6 r14_7; obtain ⟨r14_0, r14_1, r14_2, r14_3, r14_4, r14_5, r14_6, r14_7, -⟩ := r14.c8))
  go_ret
  exact ⟨rfl, hu⟩
end Go.Proofs.Ytibeeomeafakgaa
