/- The fixed calls of layer 6: the walk. -/
import Derived.Test.YtokpkkjgagbpfaaWlPlainA
import Derived.Test.YtokpkkjgagbpfaaWlLawA
namespace Go.Proofs.Ytokpkkjgagbpfaa
open Go.RowKit Bw
set_option linter.unusedVariables false
theorem c470 : (470 : Int) = ((470 : Nat) : Int) := rfl
theorem l470 : 470 = (zeros 470).length := (zeros_len 470).symm
theorem m470 : 470 ≤ 281474976710656 := by omega
theorem z470 : str (zeros 470) = xZ := rfl
theorem wpList_toStringAs {P : Program} {w : World} {ops : Array Oper} {rest : List Oper} {o : Oper} {a : Act} {Q : Exit → Act → World → Prop} (hgd : o.guard = none) (x : Operand) (sT dT e : TypeId) (ho : o.op = .convert sT dT x)
    (hs : P.underlying sT = some (.slice e)) (hd : P.underlying dT = some .string) (he : P.underlying e = some (.int .u8))
    (l : List UInt8) (r : ByteArray) (hr : str l = r) (g off n cap : Nat) (hx : a.eval x = .slice (some ⟨g, off, none⟩) n cap) (hn : n = l.length) (hl : BytesAt w g off l)
    (h : wpList P ops Q rest (a.put o.dst (.string r)) w) : wpList P ops Q (o :: rest) a w := by
  subst hr
  exact wpList_toString hgd x sT dT e ho hs hd he l g off n cap hx hn hl h
variable {W w : World} {g a c gl cl : Nat} {q : Option Nat} {ql : Option Addr} {d d' : DiskD} {L L' : LogD} {rest : List Res}
theorem pAppend (s : ByteArray) (N E : Int) (h : Hold W w (trio g a q c d gl L ql cl rest)) (f : LogFit L d c) (hs : s.size ≤ 1099511627776) (h1 : L.append d s = L') (h2 : L.appendN d s = N) (h3 : L.appendE d s = E) :
    Calls Try.prog 14 #[.pointer (some ⟨gl, 0, none⟩), .string s] w fun e w' => e = .returned (.tuple #[.int .i64 N, .int .i64 E]) ∧ ∃ ql' cl', Hold W w' (trio g a q c d gl L' ql' cl' rest) := by
  subst h1 h2 h3; exact tAppend h f s hs
theorem pWrite (E : Int) (h : Hold W w (trio g a q c d gl L ql cl rest)) (f : LogFit L d c) (h1 : L.write = L') (h2 : L.writeD d = d') (h3 : L.writeE = E) :
    Calls Try.prog 16 #[.pointer (some ⟨gl, 0, none⟩)] w fun e w' => e = .returned (.int .i64 E) ∧ ∃ q' c', c' ≤ c + 1000 ∧ Hold W w' (trio g a q' c' d' gl L' ql cl rest) := by
  subst h1 h2 h3; exact tWrite h f
theorem pSync (h : Hold W w (trio g a q c d gl L ql cl rest)) (f : LogFit L d c) (h1 : L.sync = L') (h2 : d.syncD = d') :
    Calls Try.prog 18 #[.pointer (some ⟨gl, 0, none⟩)] w fun e w' => e = .returned (.tuple #[]) ∧ ∃ ql' cl', Hold W w' (trio g a none c d' gl L' ql' cl' rest) := by
  subst h1 h2; exact tSync h f
theorem pTurn (s : ByteArray) (E : Int) (h : Hold W w (trio g a q c d gl L ql cl rest)) (f : LogFit L d c) (hs : s.size ≤ 1099511627776) (h1 : L.turn d s = L') (h2 : L.turnD d s = d') (h3 : L.turnE d s = E) :
    Calls Try.prog 20 #[.pointer (some ⟨gl, 0, none⟩), .string s] w fun e w' => e = .returned (.int .i64 E) ∧ ∃ q' c', c' ≤ c + 1000 ∧ Hold W w' (trio g a q' c' d' gl L' ql cl rest) := by
  subst h1 h2 h3; exact tTurn h f s hs
theorem pOpen (h : Hold W w (diskR g a q c d :: rest)) (hc : c ≤ 1099511627776) (hok : d.Ok) (hE : openLE d = 0) (h1 : openL d = L') :
    Calls Try.prog 12 #[.pointer (some ⟨g, 0, none⟩)] w fun e w' => ∃ gl, e = .returned (.tuple #[.pointer (some ⟨gl, 0, none⟩), .int .i64 0]) ∧ ∃ ql cl, Hold W w' (trio g a q c d gl L' ql cl rest) := by
  subst h1; exact tOpen h hc hok hE
theorem x_new8 (h : Hold W w rest) : Calls Try.prog 10 #[.int .i64 8] w fun e w' => ∃ g a, e = .returned (.tuple #[.pointer (some ⟨g, 0, none⟩), .int .i64 0]) ∧ Hold W w' (diskR g a none 0 fD0 :: rest) :=
  tNew 8 (by omega) (by omega) h
theorem x_new3 (h : Hold W w rest) : Calls Try.prog 10 #[.int .i64 3] w fun e w' => ∃ g a, e = .returned (.tuple #[.pointer (some ⟨g, 0, none⟩), .int .i64 0]) ∧ Hold W w' (diskR g a none 0 (initD 3) :: rest) :=
  tNew 3 (by omega) (by omega) h
theorem x_small (h : Hold W w (diskR g a q 0 (initD 3) :: rest)) : Calls Try.prog 12 #[.pointer (some ⟨g, 0, none⟩)] w fun e w' => e = .returned (.tuple #[.pointer none, .int .i64 1]) ∧ Hold W w' rest := by
  have hE : openLE (initD 3) = 1 := by unfold openLE; rw [if_pos (by decide)]
  have := tOpenNo h (by omega) (initD_ok (by omega) (by omega)) (by rw [hE]; decide)
  rw [hE] at this
  exact this.mono fun e w' ⟨he, hh⟩ => ⟨he, hh.sub (.cons _ (List.Sublist.refl _))⟩
theorem x_open (h : Hold W w (diskR g a q c fD0 :: rest)) (hc : c ≤ 100000) : Calls Try.prog 12 #[.pointer (some ⟨g, 0, none⟩)] w fun e w' => ∃ gl, e = .returned (.tuple #[.pointer (some ⟨gl, 0, none⟩), .int .i64 0]) ∧ ∃ ql cl, Hold W w' (trio g a q c fD0 gl newL ql cl rest) :=
  pOpen h (by omega) (initD_ok (by omega) (by omega)) (open_new (n := 8) (by omega) (by omega)).1 (open_new (n := 8) (by omega) (by omega)).2.1
theorem x_a (h : Hold W w (trio g a q c fD0 gl newL ql cl rest)) (hc : c ≤ 100000) : Calls Try.prog 14 #[.pointer (some ⟨gl, 0, none⟩), .string ⟨#[97]⟩] w fun e w' => e = .returned (.tuple #[.int .i64 1, .int .i64 0]) ∧ ∃ ql' cl', Hold W w' (trio g a q c fD0 gl fL1 ql' cl' rest) :=
  pAppend xA 1 0 h ((open_new (n := 8) (by omega) (by omega)).2.2.fit (by omega) (by decide) (by decide)) (by decide) f1.1 f1.2.1 f1.2.2
theorem x_w1 (h : Hold W w (trio g a q c fD0 gl fL1 ql cl rest)) (hc : c ≤ 100000) : Calls Try.prog 16 #[.pointer (some ⟨gl, 0, none⟩)] w fun e w' => e = .returned (.int .i64 0) ∧ ∃ q' c', c' ≤ c + 1000 ∧ Hold W w' (trio g a q' c' fD1 gl fL2 ql cl rest) :=
  pWrite 0 h (i1.fit (by omega) (by decide) (by decide)) f2.1 rfl f2.2
theorem x_s1 (h : Hold W w (trio g a q c fD1 gl fL2 ql cl rest)) (hc : c ≤ 100000) : Calls Try.prog 18 #[.pointer (some ⟨gl, 0, none⟩)] w fun e w' => e = .returned (.tuple #[]) ∧ ∃ ql' cl', Hold W w' (trio g a none c fD2 gl fL3 ql' cl' rest) :=
  pSync h (i2.fit (by omega) (by decide) (by decide)) f3 rfl
theorem x_b (h : Hold W w (trio g a q c fD2 gl fL3 ql cl rest)) (hc : c ≤ 100000) : Calls Try.prog 14 #[.pointer (some ⟨gl, 0, none⟩), .string ⟨#[98]⟩] w fun e w' => e = .returned (.tuple #[.int .i64 2, .int .i64 0]) ∧ ∃ ql' cl', Hold W w' (trio g a q c fD2 gl fL4 ql' cl' rest) :=
  pAppend xB 2 0 h (i3.fit (by omega) (by decide) (by decide)) (by decide) f4.1 f4.2.1 f4.2.2
theorem x_w2 (h : Hold W w (trio g a q c fD2 gl fL4 ql cl rest)) (hc : c ≤ 100000) : Calls Try.prog 16 #[.pointer (some ⟨gl, 0, none⟩)] w fun e w' => e = .returned (.int .i64 0) ∧ ∃ q' c', c' ≤ c + 1000 ∧ Hold W w' (trio g a q' c' fD3 gl fL5 ql cl rest) :=
  pWrite 0 h (i4.fit (by omega) (by decide) (by decide)) f5.1 rfl f5.2
theorem x_z (h : Hold W w (trio g a q c fD3 gl fL5 ql cl rest)) (hc : c ≤ 100000) : Calls Try.prog 14 #[.pointer (some ⟨gl, 0, none⟩), .string xZ] w fun e w' => e = .returned (.tuple #[.int .i64 0, .int .i64 6]) ∧ ∃ ql' cl', Hold W w' (trio g a q c fD3 gl fL5 ql' cl' rest) :=
  pAppend xZ 0 6 h (i5.fit (by omega) (by decide) (by decide)) (by unfold xZ; rw [size_str, zeros_len]; decide) f6.1 f6.2.1 f6.2.2
theorem x_0 (h : Hold W w (trio g a q c fD3 gl fL5 ql cl rest)) (hc : c ≤ 100000) : Calls Try.prog 14 #[.pointer (some ⟨gl, 0, none⟩), .string ⟨#[]⟩] w fun e w' => e = .returned (.tuple #[.int .i64 (fL5.appendN fD3 x0), .int .i64 1]) ∧ ∃ ql' cl', Hold W w' (trio g a q c fD3 gl fL5 ql' cl' rest) :=
  pAppend x0 _ 1 h (i5.fit (by omega) (by decide) (by decide)) (by decide) f7.1 rfl f7.2
theorem x_crash (h : Hold W w (diskR g a q c fD3 :: rest)) (hc : c ≤ 100000) : Calls Try.prog 22 #[.pointer (some ⟨g, 0, none⟩), .slice none 0 0] w fun e w' => e = .returned (.tuple #[]) ∧ Hold W w' (diskR g a none c fD4 :: rest) :=
  tCrash h (by have := i5.wlen; omega) [] none 0 (IntsAt.nil w none) (by decide) (fun h => absurd rfl h)
theorem x_open2 (h : Hold W w (diskR g a q c fD4 :: rest)) (hc : c ≤ 100000) : Calls Try.prog 12 #[.pointer (some ⟨g, 0, none⟩)] w fun e w' => ∃ gl, e = .returned (.tuple #[.pointer (some ⟨gl, 0, none⟩), .int .i64 0]) ∧ ∃ ql cl, Hold W w' (trio g a q c fD4 gl fO0 ql cl rest) :=
  pOpen h (by omega) f8.2.2.ok f8.1 f8.2.1
theorem x_rec (h : Hold W w (trio g a q c fD4 gl fO0 ql cl rest)) : Calls Try.prog 28 #[.pointer (some ⟨gl, 0, none⟩)] w fun e w' => ∃ qr cr, e = .returned (.slice qr 1 cr) ∧ Hold W w' (trio g a q c fD4 gl fO0 ql cl (recsR qr cr [xA] :: rest)) :=
  (tRecords h (by decide)).mono fun e w' ⟨qr, cr, he, _, hh⟩ => ⟨qr, cr, he, hh⟩
theorem x_t (h : Hold W w (trio g a q c fD4 gl fO0 ql cl rest)) (hc : c ≤ 100000) : Calls Try.prog 20 #[.pointer (some ⟨gl, 0, none⟩), .string ⟨#[116]⟩] w fun e w' => e = .returned (.int .i64 0) ∧ ∃ q' c', c' ≤ c + 1000 ∧ Hold W w' (trio g a q' c' fD5 gl fO1 ql cl rest) :=
  pTurn xT 0 h (f8.2.2.fit (by omega) (by decide) (by decide)) (by decide) f9.1 rfl f9.2
theorem x_u (h : Hold W w (trio g a q c fD5 gl fO1 ql cl rest)) (hc : c ≤ 100000) : Calls Try.prog 20 #[.pointer (some ⟨gl, 0, none⟩), .string ⟨#[117]⟩] w fun e w' => e = .returned (.int .i64 9) ∧ ∃ q' c', c' ≤ c + 1000 ∧ Hold W w' (trio g a q' c' fD5 gl fO1 ql cl rest) :=
  pTurn xU 9 h (i6.fit' (by omega) (by decide) (by decide)) (by decide) f10.1 f10.2.2 f10.2.1
theorem x_c (h : Hold W w (trio g a q c fD5 gl fO1 ql cl rest)) (hc : c ≤ 100000) : Calls Try.prog 14 #[.pointer (some ⟨gl, 0, none⟩), .string ⟨#[99]⟩] w fun e w' => e = .returned (.tuple #[.int .i64 (fO1.appendN fD5 xC), .int .i64 9]) ∧ ∃ ql' cl', Hold W w' (trio g a q c fD5 gl fO1 ql' cl' rest) :=
  pAppend xC _ 9 h (i6.fit' (by omega) (by decide) (by decide)) (by decide) f11.1 rfl f11.2
theorem x_age (h : Hold W w (trio g a q c fD5 gl fO1 ql cl rest)) : Calls Try.prog 32 #[.pointer (some ⟨gl, 0, none⟩)] w fun e w' => e = .returned (.int .i64 3) ∧ w = w' := tAge h
theorem x_s2 (h : Hold W w (trio g a q c fD5 gl fO1 ql cl rest)) (hc : c ≤ 100000) : Calls Try.prog 18 #[.pointer (some ⟨gl, 0, none⟩)] w fun e w' => e = .returned (.tuple #[]) ∧ ∃ ql' cl', Hold W w' (trio g a none c fD6 gl fO2 ql' cl' rest) :=
  pSync h (i6.fit' (by omega) (by decide) (by decide)) f12 rfl
theorem x_open3 (h : Hold W w (diskR g a q c fD6 :: rest)) (hc : c ≤ 100000) : Calls Try.prog 12 #[.pointer (some ⟨g, 0, none⟩)] w fun e w' => ∃ gl, e = .returned (.tuple #[.pointer (some ⟨gl, 0, none⟩), .int .i64 0]) ∧ ∃ ql cl, Hold W w' (trio g a q c fD6 gl fP ql cl rest) :=
  pOpen h (by omega) i7.ok f13.1 f13.2
/-- What there is at the end: the disk, the last log, the one ahead of it, the first one, and the records that were told. -/
abbrev xEnd (g a : Nat) (q : Option Nat) (c gp : Nat) (qp : Option Addr) (cp go : Nat) (qo : Option Addr) (co : Nat) (qr : Option Addr) (cr gl : Nat) (ql : Option Addr) (cl : Nat) (rest : List Res) : List Res :=
  trio g a q c fD6 gp fP qp cp (logRow go (.pointer (some ⟨g, 0, none⟩)) fO2 qo co :: recsR qo co fO2.recs :: recsR qr cr [xA] :: logRow gl (.pointer (some ⟨g, 0, none⟩)) fL5 ql cl :: rest)
variable {gp cp go co cr : Nat} {qp qo qr : Option Addr}
theorem y_oHalf (h : Hold W w (xEnd g a q c gp qp cp go qo co qr cr gl ql cl rest)) : Calls Try.prog 31 #[.pointer (some ⟨go, 0, none⟩)] w fun e w' => e = .returned (.int .i64 1) ∧ w = w' := wal_Half h 3 rfl
theorem y_oPages (h : Hold W w (xEnd g a q c gp qp cp go qo co qr cr gl ql cl rest)) : Calls Try.prog 33 #[.pointer (some ⟨go, 0, none⟩)] w fun e w' => e = .returned (.int .i64 1) ∧ w = w' := wal_Pages h 3 rfl
theorem y_oSure (h : Hold W w (xEnd g a q c gp qp cp go qo co qr cr gl ql cl rest)) : Calls Try.prog 56 #[.pointer (some ⟨go, 0, none⟩)] w fun e w' => e = .returned (.int .i64 1) ∧ w = w' := wal_Sure h 3 rfl
theorem y_pHalf (h : Hold W w (xEnd g a q c gp qp cp go qo co qr cr gl ql cl rest)) : Calls Try.prog 31 #[.pointer (some ⟨gp, 0, none⟩)] w fun e w' => e = .returned (.int .i64 1) ∧ w = w' := wal_Half h 1 rfl
theorem y_pAge (h : Hold W w (xEnd g a q c gp qp cp go qo co qr cr gl ql cl rest)) : Calls Try.prog 32 #[.pointer (some ⟨gp, 0, none⟩)] w fun e w' => e = .returned (.int .i64 4) ∧ w = w' := wal_Age h 1 rfl
theorem y_lSure (h : Hold W w (xEnd g a q c gp qp cp go qo co qr cr gl ql cl rest)) : Calls Try.prog 56 #[.pointer (some ⟨gl, 0, none⟩)] w fun e w' => e = .returned (.int .i64 1) ∧ w = w' := wal_Sure h 6 rfl
theorem y_oRoom (h : Hold W w (xEnd g a q c gp qp cp go qo co qr cr gl ql cl rest)) : Calls Try.prog 34 #[.pointer (some ⟨go, 0, none⟩)] w fun e w' => e = .returned (.int .i64 3) ∧ Hold W w' (xEnd g a q c gp qp cp go qo co qr cr gl ql cl rest) :=
  (wal_Room (L := fO2) h 3 rfl 0 rfl i7.ok (by decide)).mono fun e w' ⟨he, hu⟩ => ⟨by rw [he, f14], h.next hu⟩
/-- Records in new memory. -/
def NewRecs (w : World) (rs : List ByteArray) (n : Nat) (e : Ending) (w' : World) : Prop := ∃ q c, e = .returned (.slice q n c) ∧ RecsAt w' q rs ∧ Up w w'
theorem y_oRec (h : Hold W w (xEnd g a q c gp qp cp go qo co qr cr gl ql cl rest)) : Calls Try.prog 28 #[.pointer (some ⟨go, 0, none⟩)] w (NewRecs w [xT] 1) :=
  (wal_Records (L := fO2) h 3 rfl 4 rfl (by decide)).mono fun e w' ⟨q, c, he, hh⟩ => ⟨q, c, he, recs_all hh (k := 0) rfl, hh.up⟩
theorem y_pRec (h : Hold W w (xEnd g a q c gp qp cp go qo co qr cr gl ql cl rest)) : Calls Try.prog 28 #[.pointer (some ⟨gp, 0, none⟩)] w (NewRecs w [xT] 1) :=
  (wal_Records (L := fP) h 1 rfl 2 rfl (by decide)).mono fun e w' ⟨q, c, he, hh⟩ => ⟨q, c, he, recs_all hh (k := 0) rfl, hh.up⟩
theorem y_same {q q' : Option Addr} {c c' : Nat} {x : ByteArray} (h : RecsAt w q [x]) (h' : RecsAt w q' [x]) : Calls Try.prog 30 #[.slice q 1 c, .slice q' 1 c'] w fun e w' => e = .returned (.bool true) ∧ Up w w' := by
  have := ref2_Same (c := c) (c' := c') [x] [x] h h' (show 1 ≤ 1000000 by decide) (show 1 ≤ 1000000 by decide)
  rw [show sameS [x] [x] = true by unfold sameS; simp] at this
  exact this
end Go.Proofs.Ytokpkkjgagbpfaa
namespace Go.Proofs.Ytokpkkjgagbpfaa
open Go.RowKit Bw
set_option linter.unusedVariables false
theorem calls_ptr {P : Program} (f : FuncId) (g : Nat) {w : World} {Q : Ending → World → Prop} (h : Calls P f #[.pointer (some ⟨g, 0, none⟩)] w Q) : Calls P f #[.pointer (some ⟨g, 0, none⟩)] w Q := h
theorem calls_with {P : Program} (f : FuncId) (s : ByteArray) {v : Value} {w : World} {Q : Ending → World → Prop} (h : Calls P f #[v, .string s] w Q) : Calls P f #[v, .string s] w Q := h
set_option maxHeartbeats 8000000 in
set_option maxRecDepth 100000 in
theorem law6_fixed (w : World) : Calls Try.prog 27 #[] w fun e w' => e = .returned (.bool true) ∧ Up w w' := by
  have hD := Hold.start w
  go_enter Try.func27, Try.ntmps27
  go_upto_region 2 with (first | ((with_reducible refine calls_at 10 ?_); (with_reducible refine (x_new8 hD).mono ?_); rintro e w1 ⟨g, a, rfl, hw⟩; clear hD; have hD := hw; clear hw))
  go_upto_region 3 with (first | ((with_reducible refine calls_at 10 ?_); (with_reducible refine (x_new3 hD).mono ?_); rintro e w2 ⟨g2, a2, rfl, hw⟩; clear hD; have hD := hw; clear hw))
  go_upto_region 6 with (first | ((with_reducible refine calls_at 12 ?_); (with_reducible refine (x_small hD).mono ?_); rintro e w3 ⟨rfl, hw⟩; clear hD; have hD := hw; clear hw))
  go_upto_region 7 with (first | ((with_reducible refine calls_at 12 ?_); (with_reducible refine (x_open hD (by omega)).mono ?_); rintro e w4 ⟨gl, rfl, ql, cl, hw⟩; clear hD; have hD := hw; clear hw))
  go_upto_region 10 with (first | ((with_reducible refine calls_at 14 ?_); (with_reducible refine (x_a hD (by omega)).mono ?_); rintro e w5 ⟨rfl, ql5, cl5, hw⟩; clear hD; have hD := hw; clear hw))
  go_upto_region 11 with (first | ((with_reducible refine calls_at 16 ?_); (with_reducible refine (x_w1 hD (by omega)).mono ?_); rintro e w6 ⟨rfl, q6, c6, hc6, hw⟩; clear hD; have hD := hw; clear hw))
  go_upto_region 12 with (first | ((with_reducible refine calls_at 18 ?_); (with_reducible refine (x_s1 hD (by omega)).mono ?_); rintro e w7 ⟨rfl, ql7, cl7, hw⟩; clear hD; have hD := hw; clear hw))
  go_upto_region 13 with (first | ((with_reducible refine calls_at 14 ?_); (with_reducible refine (x_b hD (by omega)).mono ?_); rintro e w8 ⟨rfl, ql8, cl8, hw⟩; clear hD; have hD := hw; clear hw))
  go_upto_region 14 with (first | ((with_reducible refine calls_at 16 ?_); (with_reducible refine (x_w2 hD (by omega)).mono ?_); rintro e w9 ⟨rfl, q9, c9, hc9, hw⟩; clear hD; have hD := hw; clear hw))
  go_upto_region 15 with (first | ((with_reducible refine wpList_at 85 ?_); (with_reducible refine wpList_makeBytes rfl _ _ 54 5 rfl Try.underlying54 u8info _ _ _ _ 470 rfl rfl c470 c470 m470 _ _ (Below.refl _ _) (Nat.le_refl _) ?_); intro gz wz hbz hwz hwz' hgz hgz'; replace hD := hD.next hwz; clear hwz hwz' hgz hgz') | ((with_reducible refine wpList_at 86 ?_); refine wpList_toStringAs rfl _ 54 9 5 rfl Try.underlying54 Try.underlying9 Try.underlying5 (zeros 470) _ z470 gz 0 470 470 rfl l470 hbz ?_) | ((with_reducible refine calls_at 14 ?_); (with_reducible refine (x_z hD (by omega)).mono ?_); rintro e w10 ⟨rfl, ql10, cl10, hw⟩; clear hD; have hD := hw; clear hw))
  go_upto_region 16 with (first | ((with_reducible refine calls_at 14 ?_); (with_reducible refine (x_0 hD (by omega)).mono ?_); rintro e w11 ⟨rfl, ql11, cl11, hw⟩; clear hD; have hD := hw; clear hw))
  go_upto_region 17 with (first | ((with_reducible refine calls_at 22 ?_); (with_reducible refine (x_crash hD (by omega)).mono ?_); rintro e w12 ⟨rfl, hw⟩; clear hD; have hD := hw; clear hw))
  go_upto_region 18 with (first | ((with_reducible refine calls_at 12 ?_); (with_reducible refine (x_open2 hD (by omega)).mono ?_); rintro e w13 ⟨go, rfl, qo, co, hw⟩; clear hD; have hD := hw; clear hw))
  go_upto_region 21 with (first | ((with_reducible refine calls_at 28 ?_); (with_reducible refine (x_rec hD).mono ?_); rintro e w14 ⟨qr, cr, rfl, hw⟩; clear hD; have hD := hw; clear hw))
  go_upto_region 22 with (first | ((with_reducible refine calls_with 20 ⟨#[116]⟩ ?_); (with_reducible refine (x_t hD (by omega)).mono ?_); rintro e w15 ⟨rfl, q15, c15, hc15, hw⟩; clear hD; have hD := hw; clear hw) | ((with_reducible refine calls_with 20 ⟨#[117]⟩ ?_); (with_reducible refine (x_u hD (by omega)).mono ?_); rintro e w16 ⟨rfl, q16, c16, hc16, hw⟩; clear hD; have hD := hw; clear hw))
  go_upto_region 23 with (first | ((with_reducible refine calls_at 14 ?_); (with_reducible refine (x_c hD (by omega)).mono ?_); rintro e w17 ⟨rfl, ql17, cl17, hw⟩; clear hD; have hD := hw; clear hw))
  go_upto_region 24 with (first | ((with_reducible refine calls_at 32 ?_); (with_reducible refine (x_age hD).mono ?_); rintro e w18 ⟨rfl, rfl⟩))
  go_upto_region 25 with (first | ((with_reducible refine calls_at 18 ?_); (with_reducible refine (x_s2 hD (by omega)).mono ?_); rintro e w19 ⟨rfl, ql19, cl19, hw⟩; clear hD; have hD := hw; clear hw))
  go_upto_region 26 with (first | ((with_reducible refine calls_at 12 ?_); (with_reducible refine (x_open3 hD (by omega)).mono ?_); rintro e w20 ⟨gp, rfl, qp, cp, hw⟩; clear hD; have hD := hw; clear hw))
  go_upto_region 28 with fail
  have hE : Hold w _ (xEnd g a _ _ gp qp cp go _ _ qr cr gl _ _ _) := hD
  clear hD
  have rr : RecsAt _ qr [⟨#[97]⟩] := recs_all hE (k := 5) rfl
  go_wp2_with (first
    | ((with_reducible refine calls_at 30 ?_); refine (y_same (r23.up ((Up.refl _).alloc _)) (recs_one (RowAt.made _ 9 [.string ⟨#[116]⟩]))).mono ?_; rintro e w29 ⟨rfl, hu⟩; replace hE := (hE.next ((Up.refl _).alloc (.cells #[.string ⟨#[116]⟩] 9))).next hu; clear hu)
    | ((with_reducible refine calls_at 30 ?_); refine (y_same (r22.up ((Up.refl _).alloc _)) (recs_one (RowAt.made _ 9 [.string ⟨#[116]⟩]))).mono ?_; rintro e w28 ⟨rfl, hu⟩; replace hE := (hE.next ((Up.refl _).alloc (.cells #[.string ⟨#[116]⟩] 9))).next hu; clear hu)
    | ((with_reducible refine calls_at 30 ?_); refine (y_same (rr.up ((Up.refl _).alloc _)) (recs_one (RowAt.made _ 9 [.string ⟨#[97]⟩]))).mono ?_; rintro e w27 ⟨rfl, hu⟩; replace hE := (hE.next ((Up.refl _).alloc (.cells #[.string ⟨#[97]⟩] 9))).next hu; clear hu rr)
    | ((with_reducible refine calls_ptr 28 go ?_); (with_reducible refine (y_oRec hE).mono ?_); rintro e w22 ⟨q22, c22, rfl, r22, hu⟩; replace hE := hE.next hu; clear hu)
    | ((with_reducible refine calls_ptr 28 gp ?_); (with_reducible refine (y_pRec hE).mono ?_); rintro e w23 ⟨q23, c23, rfl, r23, hu⟩; replace hE := hE.next hu; clear hu)
    | ((with_reducible refine calls_ptr 31 go ?_); (with_reducible refine (y_oHalf hE).mono ?_); rintro e w24 ⟨rfl, rfl⟩)
    | ((with_reducible refine calls_ptr 31 gp ?_); (with_reducible refine (y_pHalf hE).mono ?_); rintro e w24 ⟨rfl, rfl⟩)
    | ((with_reducible refine calls_ptr 33 go ?_); (with_reducible refine (y_oPages hE).mono ?_); rintro e w24 ⟨rfl, rfl⟩)
    | ((with_reducible refine calls_ptr 34 go ?_); (with_reducible refine (y_oRoom hE).mono ?_); rintro e w25 ⟨rfl, hw⟩; clear hE; have hE := hw; clear hw)
    | ((with_reducible refine calls_ptr 56 go ?_); (with_reducible refine (y_oSure hE).mono ?_); rintro e w24 ⟨rfl, rfl⟩)
    | ((with_reducible refine calls_ptr 32 gp ?_); (with_reducible refine (y_pAge hE).mono ?_); rintro e w24 ⟨rfl, rfl⟩)
    | ((with_reducible refine calls_ptr 56 gl ?_); (with_reducible refine (y_lSure hE).mono ?_); rintro e w24 ⟨rfl, rfl⟩))
  go_ret
  exact ⟨rfl, hE.up⟩
end Go.Proofs.Ytokpkkjgagbpfaa
