import Derived.Test.YtbjnklgicakndaaRows
import Derived.Conc.LoneCalls
import Derived.KernelRfl
import Derived.Laws.Rows
import Derived.Conc.Own5
import Derived.Test.YtbjnklgicakndaaBytesLaw
namespace Go.Proofs.Ytbjnklgicakndaa
open Go.Conc Go.RowKit Bw
set_option linter.unusedVariables false

theorem LoneTo.loop {P : Program} {Q : Goroutine → World → Prop} {b : Frame} {C : Code} {k : List Item} {cs : List Frame} (I : Nat → Act → World → Prop)
    (h : ∀ n a w, I n a w → (∀ m a' w', n = m + 1 → I m a' w' → LoneTo P Q (G (b.at a' (.inLoop C :: k)) cs) w') → LoneTo P Q (G (b.at a (.code C :: .inLoop C :: k)) cs) w) :
    ∀ n a w, I n a w → LoneTo P Q (G (b.at a (.code (.loop C) :: k)) cs) w := by
  have key : ∀ n a w, I n a w → LoneTo P Q (G (b.at a (.code C :: .inLoop C :: k)) cs) w := by
    intro n
    induction n with
    | zero => intro a w hI; exact h 0 a w hI fun m a' w' e => by omega
    | succ n ih =>
      intro a w hI
      refine h _ a w hI fun m a' w' e hm => ?_
      obtain rfl : n = m := by omega
      refine LoneTo.step ?_ (ih a' w' hm)
      exact step_solo_go rfl stepG_inLoop
  intro n a w hI
  exact LoneTo.step (step_solo_go rfl stepG_loop) (key n a w hI)

theorem all_mk (n : Nat) (hn : n ≤ 1000) (w : World) : (Instr.makeChan 72 (.int .i64 n)).run Try.prog w = .ok (.chan (some w.heap.size)) (w.alloc (.chan n #[] false 0 0 false)) := by
  have h : (Try.prog.info? 4).map (·.bytes) = some 1 := by kernel_rfl
  obtain ⟨i, hi, hb⟩ := Option.map_eq_some_iff.1 h
  exact run_makeChan (P := Try.prog) (w := w) Try.underlying72 hi .i64 n (by omega) (by rw [hb]; omega)

/-- Where the bools of an argument lie. -/
def BoolsAt (w : World) (p : Option Addr) (l : List Bool) : Prop :=
  ∀ (i : Nat) (hi : i < l.length), ∃ g o, p = some ⟨g, o, none⟩ ∧ w.cell? ⟨g, o + i, none⟩ = some (.bool l[i])

def boolsA (l : List Bool) : Array Value := (l.map Value.bool).toArray
theorem boolsA_size (l : List Bool) : (boolsA l).size = l.length := by simp [boolsA]
theorem boolsA_push (l : List Bool) (i : Nat) (hi : i < l.length) : (boolsA (l.take i)).push (.bool l[i]) = boolsA (l.take (i + 1)) := by
  unfold boolsA
  rw [List.push_toArray, List.take_succ_eq_append_getElem hi, List.map_append]; rfl
theorem boolsA_get (a : Bool) (t : List Bool) : (boolsA (a :: t)).getD 0 undef = .bool a := rfl
theorem boolsA_rest (a : Bool) (t : List Bool) : (boolsA (a :: t)).extract 1 (boolsA (a :: t)).size = boolsA t := by
  apply Array.toList_inj.1
  simp [boolsA]
  exact List.take_of_length_le (by simp)

set_option maxHeartbeats 2000000 in
set_option maxRecDepth 100000 in
theorem prog_all (p : Option Addr) (cap : Nat) (l : List Bool) (hl : l.length ≤ 1000) (w : World) (hB : BoolsAt w p l) :
    Calls Try.prog 32 #[.slice p l.length cap] w fun e w' => e = .returned (.bool (l.all id)) ∧ Below w.heap.size w w' := by
  refine calls_of_loneTo fun cs => ?_
  have e : Frame.enter Try.prog 32 #[.slice p l.length cap] .normal = (base 32).at ⟨#[.slice p l.length cap, undef, undef, undef, undef, undef, undef, undef, undef, undef, undef, undef, undef, undef, undef, undef, undef, undef, undef, undef, undef, undef, undef, undef, undef, undef, undef, undef, undef, undef], []⟩ [.code (Try.f32.body.getD .skip)] := by
    simp [Frame.enter, Frame.at, Try.func32, base, Try.f32]
    try rfl
  rw [e]
  have hmc := all_mk l.length hl
  refine LoneTo.goes (n := 60) ?_
  simp only [Try.f32, Option.getD_some]
  s_c stepG_seq
  s_reg
  s_op
  s_c stepG_region_end
  s_c stepG_seq
  s_reg
  s_op
  s_op
  s_op
  s_op
  s_c stepG_region_end
  s_c stepG_seq
  s_c stepG_seq
  s_reg
  s_op
  s_op
  s_op
  s_c stepG_region_end
  s_c stepG_block
  s_stop
  refine LoneTo.loop (I := fun n a w' => ∃ i, i + n = l.length ∧ (∃ u5 u14 u15 u16 u17 u18 u19, a = ⟨#[.slice p l.length cap, undef, .bool false, .chan (some w.heap.size), undef, u5, undef, undef, .slice p l.length cap, .int .i64 l.length, .chan (some w.heap.size), .slice p l.length cap, .int .i64 l.length, .int .i64 i, u14, u15, u16, u17, u18, u19, undef, undef, undef, undef, undef, undef, undef, undef, undef, undef], []⟩) ∧ w'.heap[w.heap.size]? = some (.chan l.length (boolsA (l.take i)) false i 0 false) ∧ Below w.heap.size w w')
    ?_ l.length _ _ ⟨0, by omega, ⟨_, _, _, _, _, _, _, rfl⟩, by simpa [boolsA] using heap_alloc_new w _, (Below.refl _ w).alloc (Nat.le_refl _) _⟩
  rintro n a w' ⟨i, hi, ⟨u5, u14, u15, u16, u17, u18, u19, rfl⟩, hch, hbel⟩ hnext
  clear hmc e
  cases n with
  | succ n =>
    have hil : i < l.length := by omega
    obtain ⟨g, o, rfl, hcell⟩ := hB i hil
    have hg : g < w.heap.size := World.block_lt_of_cell? w _ hcell
    have hcell' : w'.cell? ⟨g, o + i, none⟩ = some (.bool l[i]) := (hbel.cell (p := ⟨g, o + i, none⟩) hg).trans hcell
    have hlt : (i : Int) < (l.length : Int) := by omega
    have h0 : (0 : Int) ≤ (i : Int) := by omega
    have hbs : (boolsA (l.take i)).size < l.length := by rw [boolsA_size]; simp; omega
    refine LoneTo.goes (n := 60) ?_
    s_c stepG_seq
    s_reg
    s_op
    s_c stepG_region_end
    s_c stepG_seq
    s_cond true
    s_c stepG_skip
    s_c stepG_seq
    s_c stepG_block
    s_c stepG_seq
    s_reg
    s_op
    s_op
    s_op
    s_c stepG_region_end
    s_reg
    s_op
    s_op
    s_stop
    refine LoneTo.step (step_lone_send_room (c := w.heap.size) (cap := l.length) (buf := boolsA (l.take i)) (s := i) (r := 0) (tm := false) (stepG_comm (cases := #[scase w.heap.size (.bool l[i]) (.tuple #[])]) (blocking := true) (shape := .send) (w' := w') rfl rfl (by decide) (by simp [execOp, scase, Act.eval])) hch hbs) ?_
    rw [Frame.finish_at]
    walk_nrm
    refine LoneTo.goes (n := 60) ?_
    s_c stepG_region_end
    s_c stepG_inBlock
    have hwr : IntKind.i64.wrap ((i : Int) + 1) = ((i + 1 : Nat) : Int) := by rw [IntWalk.i64_in _ ⟨by omega, by omega⟩]; simp
    s_reg
    s_op
    s_op
    s_c stepG_region_end
    s_stop
    refine hnext n _ _ rfl ⟨i + 1, by omega, ⟨_, _, _, _, _, _, _, rfl⟩, ?_, below_setChan hbel (Nat.le_refl _) _ _ _ _ _ _⟩
    rw [boolsA_push l i hil]
    exact heap_setChan _ _ _ _ _ _ _ _ (Nat.lt_of_le_of_ne hbel.size (by intro h; rw [h] at hch; simp at hch))
  | zero =>
    obtain rfl : i = l.length := by omega
    have hlt : ¬ ((l.length : Int) < (l.length : Int)) := by omega
    have hne := hch
    rw [List.take_length] at hch
    clear hnext hi
    refine LoneTo.goes (n := 60) ?_
    s_c stepG_seq
    s_reg
    s_op
    s_c stepG_region_end
    s_c stepG_seq
    s_cond false
    s_exit
    s_c stepG_seq
    s_reg
    s_op
    have hcl : ∀ ats ty, (Builtin.close_ ats ty #[.chan (some w.heap.size)]).run Try.prog w' = .ok (.tuple #[]) (w'.setChan w.heap.size l.length (boolsA l) true l.length 0 false) := fun ats ty => run_close_open (P := Try.prog) (w := w') ats ty hch
    s_in
    refine goes_oper_k rfl rfl (by decide) (fun K hK => ?_)
    go_simp
    refine hK _ _ ⟨trivial, ?_⟩
    clear hK K hcl
    have hch2 : (w'.setChan w.heap.size l.length (boolsA l) true l.length 0 false).heap[w.heap.size]? = some (.chan l.length (boolsA l) true l.length 0 false) :=
      heap_setChan _ _ _ _ _ _ _ _ (Nat.lt_of_le_of_ne hbel.size (by intro h; rw [h] at hch; simp at hch))
    replace hbel := below_setChan hbel (Nat.le_refl w.heap.size) l.length (boolsA l) true l.length 0 false
    generalize w'.setChan w.heap.size l.length (boolsA l) true l.length 0 false = w2 at *
    clear hch hne hlt
    s_c stepG_region_end
    s_c stepG_seq
    s_reg
    s_op
    s_c stepG_region_end
    s_c stepG_seq
    s_c stepG_seq
    s_reg
    s_op
    s_c stepG_region_end
    s_c stepG_block
    s_stop
    refine LoneTo.loop (I := fun n a w' => ∃ j, j + n = l.length ∧ (∃ u7 u22 u23 u24 u25 u26 u27 u28, a = ⟨#[.slice p l.length cap, undef, .bool false, .chan (some w.heap.size), undef, u5, .bool ((l.take j).all id), u7, .slice p l.length cap, .int .i64 l.length, .chan (some w.heap.size), .slice p l.length cap, .int .i64 l.length, .int .i64 l.length, .bool false, u15, u16, u17, u18, u19, .chan (some w.heap.size), .chan (some w.heap.size), u22, u23, u24, u25, u26, u27, u28, undef], []⟩) ∧ w'.heap[w.heap.size]? = some (.chan l.length (boolsA (l.drop j)) true l.length j false) ∧ Below w.heap.size w w')
      ?_ l.length _ _ ⟨0, by omega, ⟨_, _, _, _, _, _, _, _, rfl⟩, hch2, hbel⟩
    clear hch2 hbel
    rintro n a w3 ⟨j, hj, ⟨u7, u22, u23, u24, u25, u26, u27, u28, rfl⟩, hch, hbel⟩ hnext
    cases n with
    | succ n =>
      have hil : j < l.length := by omega
      have hdr : l.drop j = l[j] :: l.drop (j + 1) := List.drop_eq_getElem_cons hil
      have hpos : 0 < (boolsA (l.drop j)).size := by rw [boolsA_size]; simp; omega
      have hg0 : (boolsA (l.drop j)).getD 0 undef = .bool l[j] := by rw [hdr]; exact boolsA_get _ _
      have hex : (boolsA (l.drop j)).extract 1 (boolsA (l.drop j)).size = boolsA (l.drop (j + 1)) := by rw [hdr]; exact boolsA_rest _ _
      refine LoneTo.goes (n := 60) ?_
      s_c stepG_seq
      s_reg
      s_stop
      refine LoneTo.step (step_lone_recv_buf true (c := w.heap.size) (z := .bool false) (stepG_comm (cases := #[rcase w.heap.size (.bool false)]) (blocking := true) (shape := .recv true) (w' := w3) rfl rfl (by decide) (by simp [go_sem, rcase])) hch hpos) ?_
      rw [Frame.finish_at, hg0, hex]
      simp only [got]
      walk_nrm
      refine LoneTo.goes (n := 60) ?_
      s_op
      s_c stepG_region_end
      s_c stepG_seq
      s_cond true
      s_c stepG_skip
      s_c stepG_block
      s_c stepG_seq
      s_reg
      s_op
      s_op
      s_c stepG_region_end
      s_reg
      have hall : (l.take (j + 1)).all id = ((l.take j).all id && l[j]) := by
        rw [List.take_succ_eq_append_getElem hil, List.all_append]; simp
      generalize hok : (l.take j).all id = ok at *
      cases ok
      · s_op
        s_op
        s_in
        rw [stepG_unwanted rfl rfl]
        simp only [goes_go]
        refine ⟨trivial, ?_⟩
        walk_nrm
        s_op
        s_op
        s_c stepG_region_end
        s_c stepG_inBlock
        s_stop
        exact hnext n _ _ rfl ⟨j + 1, by omega, ⟨_, _, _, _, _, _, _, _, by rw [hall]; rfl⟩, heap_setChan _ _ _ _ _ _ _ _ (Nat.lt_of_le_of_ne hbel.size (by intro h; rw [h] at hch; simp at hch)), below_setChan hbel (Nat.le_refl _) _ _ _ _ _ _⟩
      · s_op
        s_op
        s_op
        s_op
        s_op
        s_c stepG_region_end
        s_c stepG_inBlock
        s_stop
        exact hnext n _ _ rfl ⟨j + 1, by omega, ⟨_, _, _, _, _, _, _, _, by rw [hall]; rfl⟩, heap_setChan _ _ _ _ _ _ _ _ (Nat.lt_of_le_of_ne hbel.size (by intro h; rw [h] at hch; simp at hch)), below_setChan hbel (Nat.le_refl _) _ _ _ _ _ _⟩
    | zero =>
      obtain rfl : j = l.length := by omega
      have hd : boolsA (l.drop l.length) = #[] := by rw [List.drop_length]; rfl
      rw [hd] at hch
      rw [List.take_length]
      refine LoneTo.goes (n := 60) ?_
      s_c stepG_seq
      s_reg
      s_stop
      refine LoneTo.step (step_lone_recv_shut true (c := w.heap.size) (z := .bool false) (stepG_comm (cases := #[rcase w.heap.size (.bool false)]) (blocking := true) (shape := .recv true) (w' := w3) rfl rfl (by decide) (by simp [go_sem, rcase])) hch) ?_
      rw [Frame.finish_at]
      simp only [got]
      walk_nrm
      refine LoneTo.goes (n := 60) ?_
      s_op
      s_c stepG_region_end
      s_c stepG_seq
      s_cond false
      s_exit
      s_c stepG_seq
      s_reg
      s_op
      s_op
      s_c stepG_region_end
      s_c stepG_ret'
      s_stop
      exact LoneTo.done ⟨.returned (.bool (l.all id)), _, rfl, ⟨rfl, hbel⟩, rfl, rfl, rfl, rfl, _, Try.func32, by simp [results, Try.f32, Frame.at]⟩
end Go.Proofs.Ytbjnklgicakndaa
