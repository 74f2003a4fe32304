/- Plain functions on records: what the packages rec and budwoodref05 compute; no program in sight. -/
import Derived.Test.YtokpkkjgagbpfaaFieldPure
namespace Bw

def ltS (a b : ByteArray) : Bool := decide (lst a < lst b)
def keyB (s : ByteArray) : Bool := decide (1 ≤ (s.size : Int)) && decide ((s.size : Int) ≤ 16)
def valB (s : ByteArray) : Bool := decide ((s.size : Int) ≤ 32)
abbrev PairD := ByteArray × ByteArray

/-- Pairs in order, each key above 'last' (a last one of no bytes is below every key). -/
def rowFrom : ByteArray → List PairD → Bool
  | _, [] => true
  | last, p :: l => keyB p.1 && valB p.2 && ltS last p.1 && rowFrom p.1 l
def rowB (l : List PairD) : Bool := rowFrom ByteArray.empty l && decide (l.length ≤ 4000)

/-- A record's data. -/
structure RecD where
  k : Int
  t : Int
  key : ByteArray
  val : ByteArray
  p : Int
  u : Int
  n : Int
  l : List PairD

def txnB (k : Int) : Bool := decide (1 ≤ k) && decide (k ≤ 5)
def hkeyB (k : Int) : Bool := k == 2 || k == 3
def hvalB (k : Int) : Bool := k == 2
def passB (k : Int) : Bool := k == 6 || k == 7
def pairsB (k : Int) : Bool := k == 7

def RecD.bare (r : RecD) : RecD :=
  { k := r.k, t := if txnB r.k then r.t else 0, key := if hkeyB r.k then r.key else ByteArray.empty, val := if hvalB r.k then r.val else ByteArray.empty
    p := if passB r.k then r.p else 0, u := if passB r.k then r.u else 0, n := if passB r.k then r.n else 0, l := if pairsB r.k then r.l else [] }

def RecD.same (a b : RecD) : Bool :=
  a.k == b.k && a.t == b.t && decide (a.key = b.key) && decide (a.val = b.val) && a.p == b.p && a.u == b.u && a.n == b.n && decide (a.l = b.l)

def inB (n a b : Int) : Bool := decide (a ≤ n) && decide (n ≤ b)
def top5 : Int := 1099511627776

def RecD.rightR (r : RecD) : Bool :=
  inB r.k 1 7 && r.same r.bare && (!txnB r.k || inB r.t 1 top5) && (!hkeyB r.k || keyB r.key) && (valB r.val && inB r.p 0 4 && inB r.u 0 top5 && inB r.n 0 top5 && rowB r.l)

theorem RecD.same_iff (a b : RecD) : a.same b = true ↔ a = b := by
  cases a; cases b
  simp only [RecD.same, Bool.and_eq_true, beq_iff_eq, decide_eq_true_eq, RecD.mk.injEq]
  constructor
  · rintro ⟨⟨⟨⟨⟨⟨⟨h1, h2⟩, h3⟩, h4⟩, h5⟩, h6⟩, h7⟩, h8⟩; exact ⟨h1, h2, h3, h4, h5, h6, h7, h8⟩
  · rintro ⟨h1, h2, h3, h4, h5, h6, h7, h8⟩; exact ⟨⟨⟨⟨⟨⟨⟨h1, h2⟩, h3⟩, h4⟩, h5⟩, h6⟩, h7⟩, h8⟩
theorem RecD.same_refl (a : RecD) : a.same a = true := (same_iff a a).2 rfl
end Bw
