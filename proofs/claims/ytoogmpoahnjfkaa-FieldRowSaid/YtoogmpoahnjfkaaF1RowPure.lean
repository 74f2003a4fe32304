/- Texts one behind the other. No program in sight. -/
import Derived.Test.YtoogmpoahnjfkaaFieldFacts
namespace Bw
open Go

def cut40 (s : ByteArray) : ByteArray := if s.size ≤ 40 then s else s.extract 0 40
theorem cut40_size (s : ByteArray) : (cut40 s).size ≤ 40 := by
  unfold cut40
  split
  · assumption
  · simp; omega

def frames (ts : List ByteArray) : List UInt8 := ts.flatMap fun t => UInt8.ofNat t.size :: lst t
def rowS (ts : List ByteArray) : ByteArray := str (frames ts ++ List.replicate (1000 - (frames ts).length) 0)

theorem frames_snoc (ts : List ByteArray) (t : ByteArray) : frames (ts ++ [t]) = frames ts ++ UInt8.ofNat t.size :: lst t := by simp [frames]
theorem frames_snoc_length (ts : List ByteArray) (t : ByteArray) : (frames (ts ++ [t])).length = (frames ts).length + t.size + 1 := by
  rw [frames_snoc, List.length_append, List.length_cons, lst_length]; omega

theorem frames_le (ts : List ByteArray) (h : ∀ t ∈ ts, t.size ≤ 40) : (frames ts).length ≤ 41 * ts.length := by
  induction ts with
  | nil => simp [frames]
  | cons t ts ih =>
    have h1 := h t (by simp)
    have h2 := ih (fun x hx => h x (by simp [hx]))
    have : (frames (t :: ts)).length = t.size + 1 + (frames ts).length := by
      have e : frames (t :: ts) = (UInt8.ofNat t.size :: lst t) ++ frames ts := rfl
      rw [e, List.length_append, List.length_cons, lst_length]
    rw [this, List.length_cons]; omega

theorem rowS_size (ts : List ByteArray) (h : (frames ts).length ≤ 1000) : (rowS ts).size = 1000 := by
  rw [rowS, size_str, List.length_append, List.length_replicate]; omega

theorem row_put (ts : List ByteArray) (t : ByteArray) (ht : t.size ≤ 40) (h : (frames ts).length + 41 ≤ 1000) :
    ptE (rowS ts) ((frames ts).length : Nat) t = 0 ∧ ptS (rowS ts) ((frames ts).length : Nat) t = rowS (ts ++ [t]) ∧ ptTo (rowS ts) ((frames ts).length : Nat) t = ((frames (ts ++ [t])).length : Nat) := by
  have hz := rowS_size ts (by omega)
  have hE : ptE (rowS ts) ((frames ts).length : Nat) t = 0 := by
    simp only [ptE, hz]
    rw [if_neg (by omega), if_neg (by omega), if_neg (by omega)]
  have hp := size_ptS (rowS ts) t (frames ts).length hE
  refine ⟨hE, ?_, ?_⟩
  · apply lst_inj
    rw [hp.2.2.2.2, rowS, lst_str, rowS, lst_str, frames_snoc]
    have e1 : (frames ts ++ List.replicate (1000 - (frames ts).length) 0).take (frames ts).length = frames ts := by simp
    have e2 : (frames ts ++ List.replicate (1000 - (frames ts).length) (0 : UInt8)).drop ((frames ts).length + t.size + 1) = List.replicate (1000 - (frames ts ++ UInt8.ofNat t.size :: lst t).length) 0 := by
      rw [List.drop_append]
      rw [List.drop_eq_nil_of_le (by omega), List.nil_append, List.drop_replicate]
      congr 1
      rw [List.length_append, List.length_cons, lst_length]; omega
    rw [e1, e2]
  · rw [hp.2.2.2.1, frames_snoc_length]; omega

/-- The text behind some bytes. -/
theorem text_at (A C : List UInt8) (t : ByteArray) (ht : t.size ≤ 255) (s : ByteArray) (hs : lst s = A ++ UInt8.ofNat t.size :: lst t ++ C) :
    textE s A.length = 0 ∧ textS s A.length = t ∧ textTo s A.length = ((A.length + t.size + 1 : Nat) : Int) := by
  have hz : s.size = A.length + t.size + 1 + C.length := by
    rw [← lst_length, hs]; simp [lst_length]; omega
  have hg : (lst s).getD A.length 0 = UInt8.ofNat t.size := by
    rw [hs, List.getD_eq_getElem?_getD, List.append_assoc, List.getElem?_append_right (Nat.le_refl _), Nat.sub_self]; rfl
  have hb : (UInt8.ofNat t.size).toNat = t.size := by
    have : (UInt8.ofNat t.size).toNat = t.size % 256 := UInt8.toNat_ofNat'
    omega
  have hE : textE s A.length = 0 := by
    simp only [textE, Int.toNat_natCast, hg, hb, hz]
    rw [if_neg (by omega), if_neg (by omega)]
  refine ⟨hE, ?_, ?_⟩
  · simp only [textS, hE, if_true, Int.toNat_natCast, hg, hb]
    apply lst_inj
    rw [lst_str, hs]
    have : (A ++ UInt8.ofNat t.size :: lst t ++ C) = (A ++ [UInt8.ofNat t.size]) ++ lst t ++ C := by simp
    rw [this]
    have h2 := take_mid (A ++ [UInt8.ofNat t.size]) (lst t) C
    rw [List.length_append, lst_length] at h2
    exact h2
  · simp only [textTo, hE, if_true, Int.toNat_natCast, hg, hb]; omega

theorem row_text (ts : List ByteArray) (h : ∀ t ∈ ts, t.size ≤ 40) (j : Nat) (hj : j < ts.length) :
    textE (rowS ts) ((frames (ts.take j)).length : Nat) = 0 ∧ textS (rowS ts) ((frames (ts.take j)).length : Nat) = ts[j] ∧ textTo (rowS ts) ((frames (ts.take j)).length : Nat) = ((frames (ts.take (j + 1))).length : Nat) ∧
      (frames (ts.take (j + 1))).length = (frames (ts.take j)).length + ts[j].size + 1 := by
  have e : ts = ts.take j ++ ts[j] :: ts.drop (j + 1) := by rw [← List.drop_eq_getElem_cons hj, List.take_append_drop]
  have e2 : ts.take (j + 1) = ts.take j ++ [ts[j]] := by rw [List.take_succ_eq_append_getElem hj]
  have ht := h ts[j] (List.getElem_mem hj)
  have hl : (frames (ts.take (j + 1))).length = (frames (ts.take j)).length + ts[j].size + 1 := by rw [e2, frames_snoc_length]
  have hs : lst (rowS ts) = frames (ts.take j) ++ UInt8.ofNat ts[j].size :: lst ts[j] ++ (frames (ts.drop (j + 1)) ++ List.replicate (1000 - (frames ts).length) 0) := by
    rw [rowS, lst_str]
    have : frames ts = frames (ts.take j) ++ (UInt8.ofNat ts[j].size :: lst ts[j]) ++ frames (ts.drop (j + 1)) := by
      have e3 : ∀ a b, frames (a ++ b) = frames a ++ frames b := fun a b => by simp [frames]
      have e4 : frames (ts[j] :: ts.drop (j + 1)) = (UInt8.ofNat ts[j].size :: lst ts[j]) ++ frames (ts.drop (j + 1)) := rfl
      have e5 := congrArg frames e
      rw [e3, e4, ← List.append_assoc] at e5
      exact e5
    generalize 1000 - (frames ts).length = m
    rw [this]
    simp [List.append_assoc]
  have := text_at (frames (ts.take j)) _ ts[j] (by omega) (rowS ts) hs
  refine ⟨this.1, this.2.1, ?_, hl⟩
  rw [this.2.2, hl]
end Bw
