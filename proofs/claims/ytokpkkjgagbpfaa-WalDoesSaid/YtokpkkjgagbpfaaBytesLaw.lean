/- Laws of the walk for blocks of bytes: []byte(s), make([]byte, n), copy, append of a string, string(b). No program in sight. -/
import Derived.Test.YtokpkkjgagbpfaaFieldPure
import Derived.WalkKit
import Derived.WalkSpells
import Derived.WalkLawsBesides
import Derived.Lib.Hide
import Derived.Laws.CopyOwn
import Derived.Deep.AppendSrc
import Derived.Laws.MakeOwn
namespace Bw
open Go Go.RowKit

/-- What was there when the call began is as it was. -/
def Up (W w : World) : Prop := Below W.heap.size W w
theorem Up.refl (w : World) : Up w w := Below.refl _ _
theorem Up.next {W w w' : World} (h : Up W w) (h' : Below w.heap.size w w') : Up W w' := Below.trans h (h'.mono (Below.size h))
theorem Up.drew {W w : World} (h : Up W w) : Up W w.drew := Below.drew h
theorem Up.drewN {W w : World} (h : Up W w) (n : Nat) : Up W (w.drewN n) := ⟨h.os, h.tape, h.output, h.size, h.block⟩
theorem Up.alloc {W w : World} (h : Up W w) (o : Obj) : Up W (w.alloc o) := Below.alloc h (Below.size h) o
theorem Up.out {W w : World} (h : Up W w) : Below W.heap.size W w := h

def byteV (b : UInt8) : Value := .int .u8 (b.toNat : Int)
theorem byteV_one (b : UInt8) : (byteV b).oneCell' = true := rfl

/-- Block g holds the bytes l from place off on, and they may be written. -/
structure BytesAt (w : World) (g off : Nat) (l : List UInt8) : Prop where
  cell : ∀ j (h : j < l.length), w.cell? ⟨g, off + j, none⟩ = some (.int .u8 (l[j].toNat : Int))
  free : ∀ j, j < l.length → w.frozen? ⟨g, off + j, none⟩ = false

theorem BytesAt.below {w w' : World} {B g off : Nat} {l : List UInt8} (h : BytesAt w g off l) (hb : Below B w w') (hg : g < B) : BytesAt w' g off l :=
  ⟨fun j hj => (hb.cell (p := ⟨g, off + j, none⟩) hg).trans (h.cell j hj), fun j hj => (hb.frozen (p := ⟨g, off + j, none⟩) hg).trans (h.free j hj)⟩

theorem BytesAt.drew {w : World} {g off : Nat} {l : List UInt8} (h : BytesAt w g off l) : BytesAt w.drew g off l := ⟨h.cell, h.free⟩

theorem BytesAt.lt {w : World} {g off : Nat} {l : List UInt8} (h : BytesAt w g off l) (hl : 0 < l.length) : g < w.heap.size :=
  World.block_lt_of_cell? w ⟨g, off + 0, none⟩ (h.cell 0 hl)

theorem add_none (g o j : Nat) : (⟨g, o, none⟩ : Addr).add j = ⟨g, o + j, none⟩ := by unfold Addr.add; split <;> simp_all

theorem BytesAt.set {w : World} {g : Nat} {l : List UInt8} (h : BytesAt w g 0 l) (i : Nat) (hi : i < l.length) (b : UInt8) :
    BytesAt (w.setCell ⟨g, i, none⟩ (.int .u8 (b.toNat : Int))) g 0 (l.set i b) := by
  refine ⟨fun j hj => ?_, fun j hj => ?_⟩
  · by_cases e : i = j
    · subst e
      have := h.cell i hi
      simp only [Nat.zero_add] at this ⊢
      rw [World.cell?_setCell_same _ _ _ this]
      simp
    · rw [World.cell?_setCell_other _ _ _ _ (show (⟨g, i, none⟩ : Addr) ≠ ⟨g, 0 + j, none⟩ from fun h' => e (by have := congrArg Addr.off h'; simpa using this))]
      have := h.cell j (by simpa using hj)
      rw [List.getElem_set_ne e]
      exact this
  · rw [World.frozen?_setCell]
    exact h.free j (by simpa using hj)

theorem BytesAt.setCells {w : World} {g : Nat} {l : List UInt8} (h : BytesAt w g 0 l) (off : Nat) (t : List UInt8) (hf : off + t.length ≤ l.length) :
    BytesAt (w.setCells g off (t.map byteV)) g 0 (l.take off ++ t ++ l.drop (off + t.length)) := by
  refine ⟨fun j hj => ?_, fun j hj => ?_⟩
  · have hlen : j < l.length := by simp at hj; omega
    have hlt : (l.take off).length = off := by simp; omega
    simp only [Nat.zero_add]
    by_cases h1 : off ≤ j ∧ j < off + t.length
    · obtain ⟨k, rfl⟩ := Nat.exists_eq_add_of_le h1.1
      have := World.cell?_setCells_in g (t.map byteV) off w (fun i hi => by
        have := h.cell (off + i) (by simp at hi; omega)
        simp only [Nat.zero_add] at this
        rw [this]; rfl) k (by simp; omega)
      rw [this]
      simp only [List.getElem_map, byteV]
      congr 3
      rw [List.getElem_append_left (by simp [hlt]; omega), List.getElem_append_right (by omega)]
      simp [hlt]
    · rw [World.cell?_setCells_out g _ off w _ (fun _ _ => by simp; omega)]
      have := h.cell j hlen
      simp only [Nat.zero_add] at this
      rw [this]
      congr 3
      by_cases h2 : j < off
      · rw [List.getElem_append_left (by simp [hlt]; omega), List.getElem_append_left (by omega)]; simp
      · have h3 : off + t.length ≤ j := by omega
        rw [List.getElem_append_right (by rw [List.length_append, hlt]; exact h3)]
        simp only [List.getElem_drop, List.length_append, hlt]
        have : off + t.length + (j - (off + t.length)) = j := by omega
        simp only [this]
  · rw [World.frozen?_setCells]
    exact h.free j (by simp at hj; omega)

theorem below_setCells {B : Nat} {W w : World} (g : Nat) : ∀ (vs : List Value) (o : Nat), B ≤ g → Below B W w → Below B W (w.setCells g o vs) := by
  intro vs
  induction vs generalizing w with
  | nil => exact fun _ _ h => h
  | cons v r ih => exact fun o hg h => ih (o + 1) hg (h.setCell hg v)

theorem size_setCells (g : Nat) : ∀ (vs : List Value) (o : Nat) (w : World), (w.setCells g o vs).heap.size = w.heap.size := by
  intro vs
  induction vs with
  | nil => exact fun _ _ => rfl
  | cons v r ih => intro o w; rw [World.setCells, ih]; simp [World.setCell]

section
variable {P : Program} {w : World} {ops : Array Oper} {rest : List Oper} {o : Oper} {a : Act} {Q : Exit → Act → World → Prop}

theorem bytesRow_size (s : ByteArray) (cap : Nat) (h : s.size ≤ cap) : (bytesRow s cap).size = cap := by
  have : s.data.size = s.size := rfl
  simp [bytesRow, this]; omega

/-- '[]byte(s)'. -/
theorem wpList_toBytes (hgd : o.guard = none) (x : Operand) (sT dT e : TypeId) (ho : o.op = .convert sT dT x)
    (hs : P.underlying sT = some .string) (hd : P.underlying dT = some (.slice e)) (he : P.underlying e = some (.int .u8))
    (s : ByteArray) (hx : a.eval x = .string s) (B : Nat) (W : World) (hb : Below B W w) (hB : B ≤ w.heap.size)
    (h : ∀ (g cap : Nat) (w' : World), BytesAt w' g 0 (lst s) → Below B W w' → Below w.heap.size w w' → B ≤ g → g < w'.heap.size → s.size ≤ cap → cap ≤ maxLen → wpList P ops Q rest (a.put o.dst (.slice (some ⟨g, 0, none⟩) s.size cap)) w')
    (hsz : s.size ≤ maxLen) :
    wpList P ops Q (o :: rest) a w := by
  refine wpList_plain hgd fun K hK => ?_
  have hrun := run_bytes_of_string (P := P) w sT dT e s hs hd he
  have hcap := grownCap_ge w s.size 0 e
  have hcm := grownCap_le_maxLen w s.size 0 e hsz
  generalize grownCap w s.size 0 e = cap at hrun hcap hcm
  unfold Oper.wp
  simp only [execOp, ho, hx, Sem.run_bind, hrun, Result.andThen_ok]
  refine hK _ _ (h w.heap.size cap _ ⟨fun j hj => ?_, fun j hj => ?_⟩ (hb.drew.alloc hB _) (((Below.refl _ _).drew).alloc (Nat.le_refl _) _) hB (by simp) hcap hcm)
  · rw [lst_length] at hj
    rw [Nat.zero_add]
    exact (World.cell?_alloc_mark w.drew _ _ _ j).trans (bytesRow_at s cap j hj)
  · have := World.frozen?_alloc_mark w.drew (bytesRow s cap) e (bytesRow s cap).size ((bytesRow s cap).size + 1) j
    rw [lst_length] at hj
    rw [Nat.zero_add]
    refine this.trans ?_
    rw [bytesRow_size s cap hcap]
    simp; omega

/-- 'string(b)'. -/
theorem wpList_toString (hgd : o.guard = none) (x : Operand) (sT dT e : TypeId) (ho : o.op = .convert sT dT x)
    (hs : P.underlying sT = some (.slice e)) (hd : P.underlying dT = some .string) (he : P.underlying e = some (.int .u8))
    (l : List UInt8) (g off n cap : Nat) (hx : a.eval x = .slice (some ⟨g, off, none⟩) n cap) (hn : n = l.length) (hl : BytesAt w g off l)
    (h : wpList P ops Q rest (a.put o.dst (.string (str l))) w) :
    wpList P ops Q (o :: rest) a w := by
  refine wpList_plain hgd fun K hK => ?_
  subst hn
  have hrun := run_convert_bytes_back (P := P) w sT dT e ⟨g, off, none⟩ cap l hs he hd (fun j hj => by rw [add_none]; exact hl.cell j hj)
  unfold Oper.wp
  simp only [execOp, ho, hx, Sem.run_bind, hrun, Result.andThen_ok]
  exact hK _ _ h

/-- 'copy(b[off:], t)', both of bytes. -/
theorem wpList_copyBytes (hgd : o.guard = none) (d s : Operand) (dT sT : TypeId)
    (ho : o.op = .call { callee := .builtin .copy, args := #[d, s], argTypes := #[dT, sT] }) (elem : TypeId) (hu : P.underlying dT = some (.slice elem)) (hsz : (P.info? elem).map (·.size) = some 1)
    (g off dLen dCap g2 off2 sLen sCap : Nat) (hd : a.eval d = .slice (some ⟨g, off, none⟩) dLen dCap) (hs : a.eval s = .slice (some ⟨g2, off2, none⟩) sLen sCap)
    (l t : List UInt8) (hl : BytesAt w g 0 l) (ht : BytesAt w g2 off2 t) (hsl : sLen = t.length) (hdl : off + dLen = l.length) (hfit : t.length ≤ dLen)
    (B : Nat) (W : World) (hb : Below B W w) (hB : B ≤ g)
    (h : ∀ w', BytesAt w' g 0 (l.take off ++ t ++ l.drop (off + t.length)) → Below B W w' → w'.heap.size = w.heap.size → wpList P ops Q rest (a.put o.dst (goInt t.length)) w') :
    wpList P ops Q (o :: rest) a w := by
  refine wpList_plain hgd fun K hK => ?_
  have hrun := run_copy_cells (P := P) w dT sT o.type elem g off dLen dCap ⟨g2, off2, none⟩ sLen sCap (t.map byteV) hu hsz (by rw [List.length_map, hsl]; exact (Nat.min_eq_left hfit).symm)
    (fun j v hj => by
      rw [List.getElem?_map] at hj
      obtain ⟨b, hb1, rfl⟩ := Option.map_eq_some_iff.1 hj
      obtain ⟨hj1, rfl⟩ := List.getElem?_eq_some_iff.1 hb1
      rw [add_none]; exact ht.cell j hj1)
    (fun j hj => by have := hl.cell (off + j) (by simp at hj; omega); rw [Nat.zero_add] at this; rw [this]; rfl)
    (fun j hj => by have := hl.free (off + j) (by simp at hj; omega); rw [Nat.zero_add] at this; exact this)
    (fun v hv => by obtain ⟨b, _, rfl⟩ := List.mem_map.1 hv; rfl)
  unfold Oper.wp
  simp [execOp, ho, resolve, invoke, builtin, hd, hs, hrun, Result.andThen]
  refine hK _ _ ?_
  have := h _ (hl.setCells off t (by omega)) (below_setCells g _ off hB hb) (size_setCells g _ _ _)
  simpa using this

theorem bytesAt_alloc {w : World} (l : List UInt8) (C : Array Value) (e : TypeId) (h : ∀ j (hj : j < l.length), C[j]? = some (.int .u8 (l[j].toNat : Int))) :
    BytesAt (w.alloc (.cells C e)) w.heap.size 0 l :=
  ⟨fun j hj => by rw [Nat.zero_add]; exact (World.cell?_alloc_mark w C e (0, 0) j).trans (h j hj),
   fun j hj => by rw [Nat.zero_add]; exact (World.frozen?_alloc_mark w C e 0 0 j).trans (by simp)⟩

/-- 'make([]byte, n)'. -/
theorem wpList_makeBytes (hgd : o.guard = none) (x y : Operand) (t e : TypeId) (ho : o.op = .makeSlice t x y)
    (ht : P.underlying t = some (.slice e)) (hi : (P.info? e).map (fun i => (i.zero, i.size, i.bytes)) = some (some (.int .u8 0), 1, 1))
    (k1 k2 : IntKind) (n1 n2 : Int) (n : Nat) (hx : a.eval x = .int k1 n1) (hy : a.eval y = .int k2 n2) (h1 : n1 = n) (h2 : n2 = n) (hn : n ≤ 281474976710656)
    (B : Nat) (W : World) (hb : Below B W w) (hB : B ≤ w.heap.size)
    (h : ∀ (g : Nat) (w' : World), BytesAt w' g 0 (List.replicate n 0) → Below B W w' → Below w.heap.size w w' → B ≤ g → g < w'.heap.size → wpList P ops Q rest (a.put o.dst (.slice (some ⟨g, 0, none⟩) n n)) w') :
    wpList P ops Q (o :: rest) a w := by
  refine wpList_plain hgd fun K hK => ?_
  subst h1; subst h2
  cases hq : P.info? e with
  | none => simp [hq] at hi
  | some i =>
    simp only [hq, Option.map_some, Option.some.injEq, Prod.mk.injEq] at hi
    obtain ⟨hz, hsz, hby⟩ := hi
    have hrun := run_make (P := P) w t e i _ ht hq hz k1 k2 n n (by omega) (Int.le_refl _) (by rw [hby]; omega) (by omega)
    unfold Oper.wp
    simp only [execOp, ho, hx, hy, Sem.run_bind, hrun, Result.andThen_ok]
    refine hK _ _ (h w.heap.size _ (bytesAt_alloc _ _ _ fun j hj => ?_) (hb.alloc hB _) ((Below.refl _ _).alloc (Nat.le_refl _) _) hB (by simp))
    simp at hj
    rw [hsz]
    simp [madeCells, Value.cells, hj, Nat.mod_one]

/-- 'append(b, s...)', b full of bytes, s a string. -/
theorem wpList_appendString (hgd : o.guard = none) (x y : Operand) (t tx e : TypeId) (ho : o.op = .call { callee := .builtin .append, args := #[x, y], argTypes := #[t, tx] })
    (ht : P.underlying t = some (.slice e)) (htx : P.underlying tx = some .string) (hi : (P.info? e).map (fun i => (i.zero, i.size, i.bytes)) = some (some (.int .u8 0), 1, 1))
    (g n : Nat) (s : ByteArray) (l : List UInt8) (hx : a.eval x = .slice (some ⟨g, 0, none⟩) n n) (hy : a.eval y = .string s) (hl : BytesAt w g 0 l) (hn : n = l.length) (hsmall : n + s.size ≤ 1099511627776)
    (B : Nat) (W : World) (hb : Below B W w) (hB : B ≤ w.heap.size) (hg : B ≤ g)
    (h : ∀ (g' cap : Nat) (w' : World), BytesAt w' g' 0 (l ++ lst s) → Below B W w' → Below w.heap.size w w' → B ≤ g' → n + s.size ≤ cap → cap ≤ maxLen → wpList P ops Q rest (a.put o.dst (.slice (some ⟨g', 0, none⟩) (n + s.size) cap)) w') :
    wpList P ops Q (o :: rest) a w := by
  refine wpList_plain hgd fun K hK => ?_
  cases hq : P.info? e with
  | none => simp [hq] at hi
  | some i =>
    simp only [hq, Option.map_some, Option.some.injEq, Prod.mk.injEq] at hi
    obtain ⟨hz, hsz, hby⟩ := hi
    have hsrc : Src P i.size tx (.string s) s.size (byteCells s) w := by rw [hsz]; exact Src.ofString w htx s
    by_cases h0 : s.size = 0
    · have hbl : byteCells s = [] := List.eq_nil_of_length_eq_zero (by rw [byteCells_length, h0])
      have hls : lst s = [] := List.eq_nil_of_length_eq_zero (by rw [lst_length, h0])
      have hrun := run_append_room_src (P := P) w t tx o.type e i ht hq g 0 n n (.string s) s.size (byteCells s) hsrc (by omega) (by rw [hbl]; simp) (by rw [hbl]; simp)
      rw [hbl, World.setCells] at hrun
      unfold Oper.wp
      simp [execOp, ho, resolve, invoke, builtin, hx, hy, hrun, Result.andThen]
      exact hK _ _ (h g n w (by rw [hls, List.append_nil]; exact hl) hb (Below.refl _ _) hg (by omega) (by unfold maxLen; omega))
    · have hold : (Builtin.firstCells i.size n (.slice (some ⟨g, 0, none⟩) n n)).run P w.drew = .ok (l.map byteV).toArray w.drew := by
        rw [hsz]
        exact run_firstCells_some w.drew 1 n ⟨g, 0, none⟩ n n (l.map byteV) (by simp [hn]) (fun j u hj => by
          rw [List.getElem?_map] at hj
          obtain ⟨b, hb1, rfl⟩ := Option.map_eq_some_iff.1 hj
          obtain ⟨hj1, rfl⟩ := List.getElem?_eq_some_iff.1 hb1
          rw [add_none]; exact hl.cell j hj1)
      have hncap : Builtin.nextslicecap (n + s.size) n ≤ 2199023255552 + 1024 := by
        have hgb : ∀ (r c : Nat), Builtin.growBy (n + s.size) r c ≤ c + (n + s.size) + r * (n + s.size + 1024) := by
          intro r
          induction r with
          | zero => intro c; simp only [Builtin.growBy]; omega
          | succ r ih =>
            intro c
            simp only [Builtin.growBy]
            split
            · rw [Nat.succ_mul]; omega
            · have := ih (c + (c + 768) / 4)
              rw [Nat.succ_mul]; omega
        unfold Builtin.nextslicecap
        split
        · omega
        · split
          · omega
          · rename_i h1 h2
            have g1 : Builtin.growBy (n + s.size) 4 n ≤ 2 * (n + s.size) + 1024 := by
              simp only [Builtin.growBy]
              repeat (split; omega)
              omega
            omega
      have hrun := run_append_grow_src (P := P) w t tx o.type e i _ ht hq hz (some ⟨g, 0, none⟩) n n (l.map byteV) hold (.string s) s.size (byteCells s) hsrc (by omega) (by omega) (by rw [hby]; omega)
      have hcap := grownCap_ge w (n + s.size) n e
      have hcm := grownCap_le_maxLen w (n + s.size) n e (by unfold maxLen; omega)
      generalize grownCap w (n + s.size) n e = cap at hrun hcap hcm
      unfold Oper.wp
      simp [execOp, ho, resolve, invoke, builtin, hx, hy, hrun, Result.andThen]
      refine hK _ _ (h w.heap.size cap _ (bytesAt_alloc (w := w.drew) _ _ _ fun j hj => ?_) (hb.drew.alloc hB _) ((Below.refl _ _).drew.alloc (Nat.le_refl _) _) hB hcap hcm)
      have hbc : byteCells s = (lst s).map byteV := rfl
      have e1 : l.map byteV ++ byteCells s = (l ++ lst s).map byteV := by rw [hbc, List.map_append]
      rw [show (List.map byteV l ++ byteCells s).toArray = ((l ++ lst s).map byteV).toArray by rw [e1]]
      rw [Array.getElem?_append_left (by simpa using hj)]
      simp only [List.getElem?_toArray, List.getElem?_map, List.getElem?_eq_getElem hj, Option.map_some, byteV]
end
end Bw
