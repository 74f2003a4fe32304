/- A log on a disk, in plain Lean: what each call does, and what it answers. No program in sight. -/
import Derived.Test.YtokpkkjgagbpfaaDsPure
import Derived.Test.YtokpkkjgagbpfaaFieldFacts
namespace Bw
set_option linter.unusedVariables false
/-- What a page of a log has, its number aside. -/
structure LeafW where
  age : Int
  begins : Bool
  bytes : ByteArray
def zeros (n : Nat) : List UInt8 := List.replicate n 0
/-- A leaf as a page's bytes. -/
def leafL (age num : Nat) (b : Bool) (s : List UInt8) : List UInt8 :=
  toLE age 6 ++ (toLE num 2 ++ ((if b then [1] else [0]) ++ (UInt8.ofNat s.length :: (s ++ (zeros (234 - s.length) ++ (toLE age 6 ++ toLE num 2))))))
def leafS (age num : Nat) (b : Bool) (s : ByteArray) : ByteArray := str (leafL age num b (lst s))
theorem leafL_len (age num : Nat) (b : Bool) (s : List UInt8) (h : s.length ≤ 234) : (leafL age num b s).length = 252 := by
  unfold leafL zeros
  cases b <;> simp [toLE_length] <;> omega
/-- The leaf that bytes are at a place. -/
def leafOf (s : ByteArray) (i : Int) : Option LeafW :=
  if getV s 0 6 = getV s 244 6 ∧ getV s 6 2 = getV s 250 2 ∧ getV s 0 6 ≠ 0 ∧ getV s 6 2 = i ∧ getV s 8 1 ≤ 1 ∧ getV s 9 1 ≤ 234 then
    some ⟨getV s 0 6, decide (getV s 8 1 = 1), s.extract 10 (10 + (getV s 9 1).toNat)⟩ else none
def DiskD.halfN (d : DiskD) : Nat := d.n / 2
def DiskD.leafW (d : DiskD) (half : Int) (i : Nat) : Option LeafW :=
  if d.readE (half * (d.halfN : Int) + i) = 0 then leafOf (d.readS (half * (d.halfN : Int) + i)) i else none
/-- Whole records at the beginning of bytes, and what is left. -/
def wholeN : Nat → ByteArray → List ByteArray × ByteArray
  | 0, s => ([], s)
  | f + 1, s => if 3 ≤ s.size then
      if s.size < 3 + (getV s 0 3).toNat then ([], s)
      else (s.extract 3 (3 + (getV s 0 3).toNat) :: (wholeN f (s.extract (3 + (getV s 0 3).toNat) s.size)).1, (wholeN f (s.extract (3 + (getV s 0 3).toNat) s.size)).2)
    else ([], s)
def wholeW (s : ByteArray) : List ByteArray × ByteArray := wholeN s.size s
structure ScanW where
  age : Int
  recs : List ByteArray
  pages : Nat
  left : ByteArray
  last : Int
def scan0 : ScanW := ⟨0, [], 0, ByteArray.empty, 0⟩
def scanStep (i : Nat) (l : LeafW) (st : ScanW) : ScanW :=
  ⟨if i = 0 then l.age else st.age, st.recs ++ (wholeW ((if st.last < l.age then ByteArray.empty else st.left) ++ l.bytes)).1, i + 1, (wholeW ((if st.last < l.age then ByteArray.empty else st.left) ++ l.bytes)).2, l.age⟩
def scanStop (l : LeafW) (st : ScanW) : Bool := decide (l.age < st.last) || (decide (st.last < l.age) && !l.begins)
def scanN (rd : Nat → Option LeafW) : Nat → Nat → ScanW → ScanW
  | 0, i, st => st
  | f + 1, i, st => match rd i with
    | none => st
    | some l => if scanStop l st then st else scanN rd f (i + 1) (scanStep i l st)
def DiskD.scan (d : DiskD) (half : Int) : ScanW := scanN (d.leafW half) d.halfN 0 scan0
/-- A log's state beside its disk. -/
structure LogD where
  which : Nat
  age : Int
  pages : Nat
  recs : List ByteArray
  written : Nat
  sure : Nat
  turned : ByteArray
def rawAge (s : ByteArray) : Int := max (getV s 0 6) (getV s 244 6)
def maxAge (d : DiskD) : Nat → Int
  | 0 => 0
  | n + 1 => max (max (maxAge d n) (getV (d.rawD n) 0 6)) (getV (d.rawD n) 244 6)
/-- The half that is chosen: which, its age, its records, its pages. -/
structure BestW where
  which : Nat
  age : Int
  recs : List ByteArray
  pages : Nat
def bestStep (b : BestW) (which : Nat) (s : ScanW) : BestW := if s.recs ≠ [] ∧ b.age < s.age then ⟨which, s.age, s.recs, s.pages⟩ else b
def DiskD.best (d : DiskD) : BestW := bestStep (bestStep ⟨0, 0, [], (d.scan 0).pages⟩ 0 (d.scan 0)) 1 (d.scan 1)
def openLE (d : DiskD) : Int := if d.n < 4 then 1 else if 1099511627776 ≤ maxAge d d.n then 4 else 0
def openL (d : DiskD) : LogD := ⟨d.best.which, maxAge d d.n + 1, d.best.pages, d.best.recs, d.best.recs.length, d.best.recs.length, ByteArray.empty⟩
/-- Records as bytes. -/
def frameL (l : List ByteArray) : List UInt8 := l.flatMap fun x => toLE x.size 3 ++ lst x
def frameW (l : List ByteArray) : ByteArray := str (frameL l)
def needW (n : Nat) : Nat := (n + 233) / 234
/-- Bytes laid on pages. -/
def layN (d : DiskD) (age : Int) (which : Nat) (start : Nat) (s : ByteArray) : Nat → DiskD
  | 0 => d
  | i + 1 => (layN d age which start s i).writeD ((which * d.halfN + start + i : Nat) : Int) (leafS age.toNat (start + i) (decide (i = 0)) (s.extract (234 * i) (min s.size (234 * i + 234))))
def layD (d : DiskD) (age : Int) (which start : Nat) (s : ByteArray) : DiskD := layN d age which start s (needW s.size)
def LogD.why (l : LogD) (s : ByteArray) : Int := if s.size = 0 ∨ 100000 < s.size then 1 else if l.turned.size ≠ 0 then 9 else 0
def LogD.room (l : LogD) (d : DiskD) : Int := (d.halfN : Int) - l.pages
def LogD.appendE (l : LogD) (d : DiskD) (s : ByteArray) : Int := if l.why s ≠ 0 then l.why s else if l.room d < (needW (frameL (l.recs.drop l.written ++ [s])).length : Int) then 6 else 0
def LogD.append (l : LogD) (d : DiskD) (s : ByteArray) : LogD := if l.appendE d s = 0 then { l with recs := l.recs ++ [s] } else l
def LogD.appendN (l : LogD) (d : DiskD) (s : ByteArray) : Int := if l.appendE d s = 0 then (l.recs.length + 1 : Nat) else 0
def LogD.writeE (l : LogD) : Int := if l.turned.size ≠ 0 then 9 else 0
def LogD.writeD (l : LogD) (d : DiskD) : DiskD := if l.writeE = 0 then layD d l.age l.which l.pages (frameW (l.recs.drop l.written)) else d
def LogD.write (l : LogD) : LogD := if l.writeE = 0 then { l with pages := l.pages + needW (frameL (l.recs.drop l.written)).length, written := l.recs.length } else l
def LogD.sync (l : LogD) : LogD :=
  if l.turned.size ≠ 0 then { l with which := 1 - l.which, recs := [l.turned], written := 1, pages := needW (frameL [l.turned]).length, turned := ByteArray.empty, sure := 1 } else { l with sure := l.written }
def LogD.turnE (l : LogD) (d : DiskD) (s : ByteArray) : Int :=
  if l.why s ≠ 0 then l.why s else if l.sure < l.recs.length then 9 else if d.halfN < needW (frameL [s]).length then 6 else 0
def LogD.turn (l : LogD) (d : DiskD) (s : ByteArray) : LogD := if l.turnE d s = 0 then { l with age := l.age + 1, turned := s } else l
def LogD.turnD (l : LogD) (d : DiskD) (s : ByteArray) : DiskD := if l.turnE d s = 0 then layD d (l.age + 1) (1 - l.which) 0 (frameW [s]) else d
end Bw
