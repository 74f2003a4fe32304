/- Things in memory, each in blocks of its own (for any seat): all blocks stay but those of a set; what one thing becomes changes none of the others; slices of the law's own, of whatever elements, with append. No program in sight. -/
import Derived.Maps.OwnSet
import Derived.Maps.AppendAt
import Derived.Laws.OwnMore
import Derived.Test.YtokpkkjgagbpfaaUpA
namespace Bw
open Go Go.RowKit
set_option linter.unusedVariables false

structure AllS (S : Nat → Prop) (w w' : World) : Prop where
  os : w'.os = w.os
  tape : w'.tape = w.tape
  output : w'.output = w.output
  size : w.heap.size ≤ w'.heap.size
  block : ∀ k, k < w.heap.size → ¬ S k → w'.heap[k]? = w.heap[k]?
variable {S T : Nat → Prop} {a b c w w' W : World}
theorem AllS.refl (S : Nat → Prop) (w : World) : AllS S w w := ⟨rfl, rfl, rfl, Nat.le_refl _, fun _ _ _ => rfl⟩
theorem AllS.trans' (h : AllS S a b) (k : AllS T b c) (hst : ∀ i, i < a.heap.size → T i → S i) : AllS S a c :=
  ⟨k.os.trans h.os, k.tape.trans h.tape, k.output.trans h.output, Nat.le_trans h.size k.size, fun i hi hg => (k.block i (Nat.lt_of_lt_of_le hi h.size) (fun ht => hg (hst i hi ht))).trans (h.block i hi hg)⟩
theorem AllS.trans (h : AllS S a b) (k : AllS S b c) : AllS S a c := h.trans' k fun _ _ h => h
theorem AllS.mono (h : AllS S a b) (hst : ∀ i, S i → T i) : AllS T a b := ⟨h.os, h.tape, h.output, h.size, fun i hi hg => h.block i hi fun hs => hg (hst i hs)⟩
theorem AllS.of_up (h : Up w w') : AllS S w w' := ⟨h.os, h.tape, h.output, h.size, fun k hk _ => h.block k hk⟩
theorem AllS.up (h : AllS S a w) (hu : Up w w') : AllS S a w' := h.trans (.of_up hu)
theorem AllS.next (h : AllS S a w) (hu : Below w.heap.size w w') : AllS S a w' := h.trans (.of_up hu)
theorem AllS.setCell (h : AllS S a w) (g o : Nat) (v : Value) (hg : S g ∨ a.heap.size ≤ g) : AllS S a (w.setCell ⟨g, o, none⟩ v) := by
  refine ⟨h.os, h.tape, h.output, by rw [World.size_setCell]; exact h.size, fun k hk hn => ?_⟩
  rw [Below.heap_setCell w ⟨g, o, none⟩ v k (fun e => by subst e; exact hg.elim hn (fun h' => by omega))]
  exact h.block k hk hn
theorem AllS.alloc (h : AllS S a w) (o : Obj) : AllS S a (w.alloc o) := h.up ((Up.refl w).alloc o)
theorem AllS.drew (h : AllS S a w) : AllS S a w.drew := h.up (Up.refl w).drew
theorem AllS.grown {row : Option Nat} (h : AllS S a w) (hg : w.grownBy w' row) (hr : ∀ k, row = some k → S k ∨ a.heap.size ≤ k) : AllS S a w' :=
  ⟨hg.os.trans h.os, hg.tape.trans h.tape, hg.output.trans h.output, Nat.le_trans h.size hg.size, fun k hk hn => (hg.block k (Nat.lt_of_lt_of_le hk h.size) (fun e => (hr k e.symm).elim hn (fun h' => by omega))).trans (h.block k hk hn)⟩
theorem RowAt.allS {g : Nat} {v : Value} {l : List Value} (h : RowAt w g (v :: l)) (ha : AllS S w w') (hne : ¬ S g) : RowAt w' g (v :: l) := by
  have hb := ha.block g h.lt hne
  exact ⟨fun j hj => (World.cell?_of_block (a := ⟨g, j, none⟩) hb).trans (h.cell j hj), fun j hj => (World.frozen?_of_block (a := ⟨g, j, none⟩) hb).trans (h.free j hj)⟩
theorem Up.allS (h : Up W w) (ha : AllS S w w') (hg : ∀ k, S k → W.heap.size ≤ k) : Up W w' :=
  Below.trans h ⟨ha.os, ha.tape, ha.output, ha.size, fun k hk => ha.block k (Nat.lt_of_lt_of_le hk (Below.size h)) (fun hs => by have := hg k hs; omega)⟩
theorem AllS.cell (h : AllS S w w') {p : Addr} {v : Value} (hc : w.cell? p = some v) (hne : ¬ S p.block) : w'.cell? p = some v :=
  (World.cell?_of_block (h.block p.block (World.block_lt_of_cell? w p hc) hne)).trans hc
theorem AllS.grownBy {row : Option Nat} (h : AllS S w w') (hS : ∀ k, S k → some k = row) : w.grownBy w' row := ⟨h.os, h.tape, h.output, h.size, fun k hk hn => h.block k hk fun hs => hn (hS k hs)⟩
theorem ownsRow_allS {base : Nat} {e : TypeId} {size : Nat} {v : Value} {n : Nat} {xs : List Value} (h : w.ownsRow base e size v n xs) (hu : AllS S w w') (hg : ∀ k, v.ownBlock = some k → ¬ S k) : w'.ownsRow base e size v n xs := by
  refine ⟨h.1, ?_⟩
  rcases h.2 with hn | ⟨b, cap, cur, rfl, hb, hgg, rest⟩
  · exact .inl hn
  · refine .inr ⟨b, cap, cur, rfl, hb, ?_, rest⟩
    rw [hu.block b (Array.getElem?_eq_some_iff.1 hgg).1 (hg b rfl)]
    exact hgg

theorem RowAt.grownBy {w w' : World} {row : Option Nat} {g : Nat} {v : Value} {l : List Value} (h : RowAt w g (v :: l)) (hg : w.grownBy w' row) (hne : ∀ k, row = some k → k ≠ g) : RowAt w' g (v :: l) := by
  have hb := hg.block g h.lt (fun e => hne g e.symm rfl)
  exact ⟨fun j hj => (World.cell?_of_block (a := ⟨g, j, none⟩) hb).trans (h.cell j hj), fun j hj => (World.frozen?_of_block (a := ⟨g, j, none⟩) hb).trans (h.free j hj)⟩
theorem RowAt.addsAt {w : World} {g : Nat} {l : List Value} (h : RowAt w g l) : ∀ j u, l[j]? = some u → w.cell? ((⟨g, 0, none⟩ : Addr).add j) = some u := by
  intro j u hj
  have hadd : (⟨g, 0, none⟩ : Addr).add j = ⟨g, j, none⟩ := by unfold Addr.add; split <;> simp_all
  obtain ⟨hlt, rfl⟩ := List.getElem?_eq_some_iff.1 hj
  rw [hadd]
  exact h.cell j hlt

/-- A thing in memory: its blocks, and what is true of it. -/
structure Res where
  has : Nat → Prop
  holds : World → Prop
  keep : ∀ {S : Nat → Prop} {w w' : World}, AllS S w w' → (∀ k, has k → ¬ S k) → holds w → holds w'
  lt : ∀ {w : World} {k : Nat}, holds w → has k → k < w.heap.size

structure Hold (W w : World) (l : List Res) : Prop where
  up : Up W w
  all : ∀ R ∈ l, R.holds w ∧ ∀ k, R.has k → W.heap.size ≤ k
  apart : l.Pairwise (fun R T => ∀ k, R.has k → ¬ T.has k)
variable {W w w' : World} {l : List Res} {R : Res}
theorem Hold.start (W : World) : Hold W W [] := ⟨Up.refl W, fun _ h => (by cases h), .nil⟩
theorem Hold.get (h : Hold W w l) (i : Nat) (hi : l[i]? = some R) : R.holds w := (h.all R (List.mem_of_getElem? hi)).1
theorem Hold.new (h : Hold W w l) (i : Nat) (hi : l[i]? = some R) : ∀ k, R.has k → W.heap.size ≤ k := (h.all R (List.mem_of_getElem? hi)).2
theorem Hold.next (h : Hold W w l) (hu : Below w.heap.size w w') : Hold W w' l :=
  ⟨h.up.next hu, fun R hR => ⟨R.keep (S := fun _ => False) (.of_up hu) (fun _ _ => id) (h.all R hR).1, (h.all R hR).2⟩, h.apart⟩
theorem Hold.add (h : Hold W w l) (hu : Below w.heap.size w w') (R : Res) (hR : R.holds w') (hn : ∀ k, R.has k → w.heap.size ≤ k) : Hold W w' (l ++ [R]) := by
  have h2 := h.next hu
  refine ⟨h2.up, fun T hT => ?_, ?_⟩
  · rcases List.mem_append.1 hT with hT | hT
    · exact h2.all T hT
    · obtain rfl := List.mem_singleton.1 hT
      exact ⟨hR, fun k hk => Nat.le_trans (Below.size h.up) (hn k hk)⟩
  · refine List.pairwise_append.2 ⟨h2.apart, List.pairwise_singleton _ _, fun T hT S hS k hk hk' => ?_⟩
    obtain rfl := List.mem_singleton.1 hS
    have h3 := T.lt (h.all T hT).1 hk
    have h4 := hn k hk'
    omega
theorem pairwise_apart : ∀ {l : List Res} {i : Nat} {R : Res} {n : Nat} (R' : Res), l.Pairwise (fun R T => ∀ k, R.has k → ¬ T.has k) → l[i]? = some R → (∀ T ∈ l, ∀ k, T.has k → k < n) → (∀ k, R'.has k → R.has k ∨ n ≤ k) → (l.set i R').Pairwise (fun R T => ∀ k, R.has k → ¬ T.has k)
  | T :: l, 0, R, n, R', hp, hi, hlt, hT => by
    obtain rfl : T = R := by simpa using hi
    obtain ⟨h1, h2⟩ := List.pairwise_cons.1 hp
    refine List.pairwise_cons.2 ⟨fun X hX k hk hk' => ?_, h2⟩
    rcases hT k hk with hk | hk
    · exact h1 X hX k hk hk'
    · have := hlt X (List.mem_cons_of_mem _ hX) k hk'; omega
  | T :: l, i + 1, R, n, R', hp, hi, hlt, hT => by
    obtain ⟨h1, h2⟩ := List.pairwise_cons.1 hp
    have hi' : l[i]? = some R := by simpa using hi
    refine List.pairwise_cons.2 ⟨fun X hX k hk hk' => ?_, pairwise_apart R' h2 hi' (fun X hX => hlt X (List.mem_cons_of_mem _ hX)) hT⟩
    rcases List.mem_or_eq_of_mem_set hX with hX | rfl
    · exact h1 X hX k hk hk'
    · rcases hT k hk' with hk' | hk'
      · exact h1 R (List.mem_of_getElem? hi') k hk hk'
      · have := hlt T List.mem_cons_self k hk; omega
theorem pairwise_other : ∀ {l : List Res} {i j : Nat} {R T : Res}, l.Pairwise (fun R T => ∀ k, R.has k → ¬ T.has k) → l[i]? = some R → l[j]? = some T → i ≠ j → ∀ k, R.has k → ¬ T.has k
  | X :: l, 0, 0, _, _, _, _, _, hn => absurd rfl hn
  | X :: l, 0, j + 1, R, T, hp, hi, hj, _ => by
    obtain rfl : X = R := by simpa using hi
    exact (List.pairwise_cons.1 hp).1 T (List.mem_of_getElem? (by simpa using hj))
  | X :: l, i + 1, 0, R, T, hp, hi, hj, _ => by
    obtain rfl : X = T := by simpa using hj
    exact fun k hk hk' => (List.pairwise_cons.1 hp).1 R (List.mem_of_getElem? (by simpa using hi)) k hk' hk
  | X :: l, i + 1, j + 1, R, T, hp, hi, hj, hn => pairwise_other (List.pairwise_cons.1 hp).2 (i := i) (j := j) (by simpa using hi) (by simpa using hj) (by omega)
theorem Hold.apart' (h : Hold W w l) (i j : Nat) {T : Res} (hi : l[i]? = some R) (hj : l[j]? = some T) (hn : i ≠ j) : ∀ k, R.has k → ¬ T.has k := pairwise_other h.apart hi hj hn
theorem Hold.step (h : Hold W w l) (i : Nat) (hi : l[i]? = some R) (R' : Res) (hR : R'.holds w') (hT : ∀ k, R'.has k → R.has k ∨ w.heap.size ≤ k) (hA : AllS R.has w w') : Hold W w' (l.set i R') := by
  refine ⟨Up.allS h.up hA (h.new i hi), fun T hT' => ?_, pairwise_apart R' h.apart hi (fun T hT k hk => T.lt (h.all T hT).1 hk) hT⟩
  rcases List.mem_or_eq_of_mem_set hT' with hm | rfl
  · obtain ⟨j, hj⟩ := List.getElem?_of_mem hT'
    by_cases e : i = j
    · subst e
      have : T = R' := by
        rw [List.getElem?_set_self (List.getElem?_eq_some_iff.1 hi).1] at hj
        exact (Option.some.inj hj).symm
      subst this
      exact ⟨hR, fun k hk => (hT k hk).elim (h.new i hi k) (fun h' => Nat.le_trans (Below.size h.up) h')⟩
    · rw [List.getElem?_set_ne e] at hj
      exact ⟨T.keep hA (fun k hk hk' => h.apart' j i hj hi (fun e' => e e'.symm) k hk hk') (h.all T hm).1, (h.all T hm).2⟩
  · exact ⟨hR, fun k hk => (hT k hk).elim (h.new i hi k) (fun h' => Nat.le_trans (Below.size h.up) h')⟩
theorem Hold.drop (h : Hold W w (l ++ [R])) : Hold W w l := ⟨h.up, fun T hT => h.all T (List.mem_append_left _ hT), (List.pairwise_append.1 h.apart).1⟩
theorem Hold.sub {l' : List Res} (h : Hold W w l) (hs : l'.Sublist l) : Hold W w l' := ⟨h.up, fun T hT => h.all T (hs.subset hT), h.apart.sublist hs⟩
/-- Blocks of cells. -/
def rowR (g : Nat) (v : Value) (l : List Value) : Res := ⟨fun k => k = g, fun w => RowAt w g (v :: l), fun hA hk h => h.allS hA (hk g rfl), fun {w k} h hk => by have hk' : k = g := hk; rw [hk']; exact h.lt⟩
/-- A slice of the law's own, of whatever elements. -/
def ownZ (e : TypeId) (size : Nat) (v : Value) (n : Nat) (xs : List Value) : Res := ⟨fun k => v.ownBlock = some k, fun w => w.ownsRow 0 e size v n xs, fun hA hk h => ownsRow_allS h hA (fun k hk' => hk k hk'), fun h hk => (World.ownsRow.lt h _ hk).2⟩
/-- What lies in a slice of the law's own. -/
theorem ownZ_form {e : TypeId} {size : Nat} {v : Value} {n : Nat} {xs : List Value} (h : (ownZ e size v n xs).holds w) : ∃ q cap, v = .slice q n cap ∧ (∀ a, q = some a → v.ownBlock = some a.block) ∧
    (0 < n → ∃ b, q = some ⟨b, 0, none⟩ ∧ b < w.heap.size ∧ ∀ j, j < n * size → w.cell? ⟨b, j, none⟩ = xs[j]?) := by
  have h' : w.ownsRow 0 e size v n xs := h
  rcases h'.2 with ⟨rfl, h0⟩ | ⟨g, cap, cur, rfl, hb, hg, -⟩
  · subst h0
    exact ⟨none, 0, rfl, fun a ha => (by cases ha), fun h0 => absurd h0 (Nat.lt_irrefl _)⟩
  · refine ⟨some ⟨g, 0, none⟩, cap, rfl, fun a ha => by injection ha with ha; subst ha; rfl, fun _ => ⟨g, rfl, (Array.getElem?_eq_some_iff.1 hg).1, fun j hj => ?_⟩⟩
    exact World.ownsRow.cellAt h' _ hj
theorem Hold.putZ (h : Hold W w l) (i : Nat) {e : TypeId} {size n cap b : Nat} {xs : List Value} (hi : l[i]? = some (ownZ e size (.slice (some ⟨b, 0, none⟩) n cap) n xs)) (j : Nat) (u : Value) :
    Hold W (w.setCell ⟨b, j, none⟩ u) (l.set i (ownZ e size (.slice (some ⟨b, 0, none⟩) n cap) n (xs.set j u))) := by
  have h' : w.ownsRow 0 e size (.slice (some ⟨b, 0, none⟩) n cap) n xs := h.get i hi
  obtain ⟨h1, h2⟩ := h'.stored j u
  exact h.step i hi (ownZ e size _ n _) h1 (fun k hk => .inl hk) ((AllS.refl _ w).grown h2 (fun k hk => .inl hk))
theorem Hold.putRow (h : Hold W w l) (i : Nat) {g : Nat} {v : Value} {vs : List Value} (hi : l[i]? = some (rowR g v vs)) (j : Nat) (u v' : Value) (vs' : List Value) (hj : j < (v :: vs).length) (he : (v :: vs).set j u = v' :: vs') :
    Hold W (w.setCell ⟨g, j, none⟩ u) (l.set i (rowR g v' vs')) := by
  have hr : RowAt w g (v :: vs) := h.get i hi
  refine h.step i hi (rowR g v' vs') ?_ (fun k hk => .inl hk) ((AllS.refl _ w).setCell g j u (.inl rfl))
  show RowAt _ g (v' :: vs')
  rw [← he]
  exact hr.set j u hj
theorem Hold.row2 (h : Hold W w l) (i : Nat) {g : Nat} {a b : Value} (hi : l[i]? = some (rowR g a [b])) : w.cell? ⟨g, 0, none⟩ = some a ∧ w.cell? ⟨g, 1, none⟩ = some b ∧ w.frozen? ⟨g, 0, none⟩ = false ∧ w.frozen? ⟨g, 1, none⟩ = false :=
  RowAt.c2 (h.get i hi)
theorem Hold.perm {l' : List Res} (h : Hold W w l) (hp : l.Perm l') : Hold W w l' :=
  ⟨h.up, fun R hR => h.all R (hp.mem_iff.2 hR), (hp.pairwise_iff (fun {R T} hRT k hk hk' => hRT k hk' hk)).1 h.apart⟩
theorem Hold.madeZ (h : Hold W w l) (e : TypeId) (size : Nat) : Hold W (w.alloc (.cells #[] e)) (l ++ [ownZ e size (.slice (some ⟨w.heap.size, 0, none⟩) 0 0) 0 []]) :=
  h.add ((Below.refl _ w).alloc (Nat.le_refl _) _) (ownZ e size _ 0 []) (World.ownsRow_made (base := 0) (e := e) (size := size) w #[] 0 (Nat.zero_le _) (by decide) (by simp)) fun k hk => by
    have hk' : (Value.slice (some ⟨w.heap.size, 0, none⟩) 0 0).ownBlock = some k := hk
    have : w.heap.size = k := by simpa [Value.ownBlock] using hk'
    omega
theorem Hold.nilZ (h : Hold W w l) (e : TypeId) (size : Nat) : Hold W w (l ++ [ownZ e size (.slice none 0 0) 0 []]) :=
  h.add (Below.refl _ w) (ownZ e size _ 0 []) (World.ownsRow_nil _ _ _ _) fun k hk => by
    have hk' : (Value.slice none 0 0).ownBlock = some k := hk
    simp [Value.ownBlock] at hk'
theorem Hold.turnNil (h : Hold W w l) (i : Nat) {e : TypeId} {size n : Nat} {v : Value} {xs : List Value} (hi : l[i]? = some (ownZ e size v n xs)) : Hold W w (l.set i (ownZ e size (.slice none 0 0) 0 [])) :=
  h.step i hi (ownZ e size _ 0 []) (World.ownsRow_nil _ _ _ _) (fun k hk => by
    have hk' : (Value.slice none 0 0).ownBlock = some k := hk
    simp [Value.ownBlock] at hk') (AllS.refl _ w)
theorem Hold.madeRow (h : Hold W w l) (v : Value) (vs : List Value) (e : TypeId) : Hold W (w.alloc (.cells (v :: vs).toArray e)) (l ++ [rowR w.heap.size v vs]) :=
  h.add ((Below.refl _ w).alloc (Nat.le_refl _) _) (rowR _ v vs) (RowAt.made w e (v :: vs)) fun k hk => by have hk' : k = w.heap.size := hk; omega

section
variable {P : Program} {ops : Array Oper} {rest : List Oper} {o : Oper} {a : Act} {Q : Exit → Act → World → Prop}
/-- append of one element of whatever size to a slice of the law's own. -/
theorem wpList_appendZ (hgd : o.guard = none) (s x : Operand) (t : TypeId) (ho : o.op = .call { callee := .builtin .append, args := #[s, x], argTypes := #[t, t] })
    (e : TypeId) (i : TypeInfo) (z : Value) (size bytes : Nat) (ht : P.underlying t = some (.slice e)) (hi : P.info? e = some i) (hz : i.zero = some z) (hsize : i.size = size) (hby : i.bytes = bytes) (hzs : z.cells.size = size) (hsz : 0 < size)
    (hH : Hold W w l) (j : Nat) (v : Value) (L : List Value) (n : Nat) (hj : l[j]? = some (ownZ e size v n L)) (hs : a.eval s = v) (ad : Addr) (c : Nat) (news : List Value) (hx : a.eval x = .slice (some ad) 1 c) (hl : news.length = 1 * size)
    (hnews : ∀ j v, news[j]? = some v → w.cell? (ad.add j) = some v) (hu : ∀ u ∈ news, u.oneCell' = true) (h63 : n + 1 ≤ maxLen) (hbytes : (n + 1) * bytes ≤ 140737488355328)
    (h : ∀ b cap w', Hold W w' (l.set j (ownZ e size (.slice (some ⟨b, 0, none⟩) (n + 1) cap) (n + 1) (L ++ news))) → wpList P ops Q rest (a.put o.dst (.slice (some ⟨b, 0, none⟩) (n + 1) cap)) w') :
    wpList P ops Q (o :: rest) a w := by
  refine wpList_append_own_at w hgd s x t ho 0 e i z size bytes ht hi hz hsize hby hzs hsz v n L hs (hH.get j hj) ad 1 c news hx hl hnews hu h63 hbytes (Nat.zero_le _) ?_
  intro v' w' how hgrow _ hloc
  obtain ⟨b, cap, rfl⟩ : ∃ b cap, v' = .slice (some ⟨b, 0, none⟩) (n + 1) cap := by
    rcases how.2 with ⟨_, h0⟩ | ⟨g, cap, cur, rfl, _⟩
    · omega
    · exact ⟨g, cap, rfl⟩
  refine h b cap w' (hH.step j hj (ownZ e size _ _ _) how ?_ ((AllS.refl _ w).grown hgrow (fun k hk => .inl hk)))
  intro k hk
  have hk' : (Value.slice (some ⟨b, 0, none⟩) (n + 1) cap).ownBlock = some k := hk
  rcases hloc with e1 | e1
  · exact .inl (e1.symm.trans hk')
  · rw [hk'] at e1
    injection e1 with e1
    exact .inr (by omega)
end
section
variable {W w : World} {l : List Res} {P : Program} {ops : Array Oper} {rest : List Oper} {o : Oper} {a : Act} {Q : Exit → Act → World → Prop}
/-- append of all of a slice of the law's own to an empty one of the law's own. -/
theorem wpList_copyZ (hgd : o.guard = none) (s x : Operand) (t : TypeId) (ho : o.op = .call { callee := .builtin .append, args := #[s, x], argTypes := #[t, t] })
    (e : TypeId) (i : TypeInfo) (z : Value) (size bytes : Nat) (ht : P.underlying t = some (.slice e)) (hi : P.info? e = some i) (hz : i.zero = some z) (hsize : i.size = size) (hby : i.bytes = bytes) (hzs : z.cells.size = size) (hsz : 0 < size)
    (hH : Hold W w l) (j k : Nat) (v vx : Value) (m : Nat) (xs : List Value) (hj : l[j]? = some (ownZ e size v 0 [])) (hk : l[k]? = some (ownZ e size vx m xs)) (hs : a.eval s = v) (hx : a.eval x = vx) (hu : ∀ u ∈ xs, u.oneCell' = true) (h63 : m ≤ maxLen) (hbytes : m * bytes ≤ 140737488355328)
    (h : ∀ q cap w', Hold W w' (l.set j (ownZ e size (.slice q m cap) m xs)) → wpList P ops Q rest (a.put o.dst (.slice q m cap)) w') : wpList P ops Q (o :: rest) a w := by
  replace h : ∀ v' w', Hold W w' (l.set j (ownZ e size v' m xs)) → wpList P ops Q rest (a.put o.dst v') w' := fun v' w' hw => by
    obtain ⟨q, cap, rfl, -, -⟩ := ownZ_form (hw.get j (R := ownZ e size v' m xs) (by rw [List.getElem?_set_self (List.getElem?_eq_some_iff.1 hj).1]))
    exact h q cap w' hw
  have hX : w.ownsRow 0 e size vx m xs := hH.get k hk
  have hV : w.ownsRow 0 e size v 0 [] := hH.get j hj
  rcases hX.2 with ⟨rfl, h0⟩ | ⟨g, cap, cur, rfl, -, -, -⟩
  · subst h0
    have hxs : xs = [] := by have := hX.1; rw [Nat.zero_mul] at this; exact List.length_eq_zero_iff.1 this
    subst hxs
    refine wpList_plain hgd fun K hK => ?_
    have hr := run_append_owned_none (P := P) (w := w) 0 t o.type e i size ht hi v 0 [] hV
    unfold Oper.wp execOp
    simp only [ho, resolve, invoke, builtin, Sem.run_bind, Sem.run_pure, Result.andThen_ok, List.map_toArray, List.map_cons, List.map_nil, hs, hx, hr]
    refine hK _ _ (h v w ?_)
    have e1 : l.set j (ownZ e size v 0 []) = l := by
      obtain ⟨hl, hv⟩ := List.getElem?_eq_some_iff.1 hj
      rw [← hv]; exact List.set_getElem_self hl
    rw [e1]; exact hH
  · refine wpList_append_own_at w hgd s x t ho 0 e i z size bytes ht hi hz hsize hby hzs hsz v 0 [] hs hV ⟨g, 0, none⟩ m cap xs hx hX.1 (fun j u hju => ?_) hu (by rw [Nat.zero_add]; exact h63) (by rw [Nat.zero_add]; exact hbytes) (Nat.zero_le _) ?_
    · have hadd : (⟨g, 0, none⟩ : Addr).add j = ⟨g, j, none⟩ := by unfold Addr.add; split <;> simp_all
      rw [hadd, World.ownsRow.cellAt hX j (by have := (List.getElem?_eq_some_iff.1 hju).1; rw [hX.1] at this; exact this), hju]
    · intro v' w' how hgrow _ hloc
      rw [Nat.zero_add, List.nil_append] at how
      refine h v' w' (hH.step j hj (ownZ e size _ _ _) how ?_ ((AllS.refl _ w).grown hgrow (fun k hk => .inl hk)))
      intro k hk
      have hk' : v'.ownBlock = some k := hk
      rcases hloc with e1 | e1
      · exact .inl (e1.symm.trans hk')
      · rw [hk'] at e1
        injection e1 with e1
        exact .inr (by omega)
end
end Bw
