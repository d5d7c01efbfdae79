/- The document's fold, by a walk. -/
import Derived.Test.YtkphllolghlmeaaDoorHdH
namespace Go.Proofs.YtkphllolghlmeaaDoor
open Go.RowKit

theorem extract_str (s : ByteArray) (a b : Nat) : s.extract a b = str ((s.data.toList.drop a).take (b - a)) := by
  have := ByteArray.extract_mk s.data.toList a b
  rw [show (ByteArray.mk s.data.toList.toArray) = s from str_data s] at this
  exact this
def outW (s : List (List UInt8) × List UInt8) : List UInt8 := s.1.flatMap crlf ++ s.2
def longW (s : List (List UInt8) × List UInt8) : Nat := longest (s.1 ++ [s.2])
def FoldI (x : Fld) (T : List (List UInt8) × List UInt8) (f i n m : Nat) (o : ByteArray) (s : List (List UInt8) × List UInt8) : Prop :=
  o = str (outW s) ∧ n = s.2.length ∧ m = longW s ∧ FoldR x.body.data.toList (headL x).length T f i s
theorem headL_len (x : Fld) : (headL x).length = x.name.size + 1 := by simp [headL]
theorem FoldI.start (x : Fld) : FoldI x (foldW true ([], headL x) (splitSp x.body.data.toList)) 0 0 (x.name.size + 1) (x.name.size + 1) (x.name ++ ⟨#[58]⟩) ([], headL x) := by
  refine ⟨?_, (headL_len x).symm, ?_, FoldR.start _ _⟩
  · show x.name ++ str [58] = _
    rw [← str_data x.name, str_add]
    simp [outW, headL, str]
  · simp [longW, longest_one, headL_len]
theorem FoldI.bound {x : Fld} {T s : List (List UInt8) × List UInt8} {f i n m : Nat} {o : ByteArray} (h : FoldI x T f i n m o s) : n ≤ x.name.size + 1 + f := by
  have := h.2.2.2.2.2
  rw [headL_len] at this
  rw [h.2.1]; exact this
theorem FoldI.skip {x : Fld} {T s : List (List UInt8) × List UInt8} {f i n m : Nat} {o : ByteArray} {c : UInt8} (h : FoldI x T f i n m o s) (hc : x.body.data.toList[i]? = some c) (hn : c ≠ 32) : FoldI x T f (i + 1) n m o s :=
  ⟨h.1, h.2.1, h.2.2.1, h.2.2.2.skip hc hn⟩
theorem wlen (x : Fld) {f i : Nat} (hi : i ≤ x.body.size) (hf : f ≤ i) : ((x.body.data.toList.drop f).take (i - f)).length = i - f := by
  rw [List.length_take, List.length_drop, len_data]; omega
theorem FoldI.newline {x : Fld} {T s : List (List UInt8) × List UInt8} {f i n m : Nat} {o : ByteArray} (h : FoldI x T f i n m o s) (hi : i ≤ x.body.size) (hc : i < x.body.size → x.body.data.toList[i]? = some 32)
    (h0 : 0 < f) (h1 : 0 < i - f) (h2 : 78 < n + 1 + (i - f)) : ∃ s', FoldI x T (i + 1) (i + 1) (0 + 1 + (i - f)) (max m (0 + 1 + (i - f))) (((o ++ ⟨#[13, 10]⟩) ++ ⟨#[32]⟩) ++ x.body.extract f i) s' := by
  obtain ⟨e1, e2, e3, e4⟩ := h
  have hf : f ≤ i := (e4.1 (by rw [len_data]; exact hi)).1
  have hw := e4.word (by rw [len_data]; exact hi) (by rw [len_data]; exact hc)
  have hl := wlen x hi hf
  have hp : putW (decide (f = 0)) s ((x.body.data.toList.drop f).take (i - f)) = (s.1 ++ [s.2], 32 :: (x.body.data.toList.drop f).take (i - f)) := by
    unfold putW
    rw [if_pos ⟨decide_eq_false (by omega), (fun e => by rw [e] at hl; simp at hl; omega), by rw [hl, ← e2]; exact h2⟩]
  rw [hp] at hw
  refine ⟨_, ?_, ?_, ?_, hw⟩
  · rw [e1, extract_str]
    show str _ ++ str [13, 10] ++ str [32] ++ str _ = _
    rw [str_add, str_add, str_add]
    simp [outW, crlf]
  · simp only [List.length_cons, hl]; omega
  · rw [e3]
    unfold longW
    simp only [longest_append, longest_one, List.length_cons, hl]
    omega
theorem FoldI.same {x : Fld} {T s : List (List UInt8) × List UInt8} {f i n m : Nat} {o : ByteArray} (h : FoldI x T f i n m o s) (hi : i ≤ x.body.size) (hc : i < x.body.size → x.body.data.toList[i]? = some 32)
    (h2 : ¬ (0 < f ∧ 0 < i - f ∧ 78 < n + 1 + (i - f))) : ∃ s', FoldI x T (i + 1) (i + 1) (n + 1 + (i - f)) (max m (n + 1 + (i - f))) ((o ++ ⟨#[32]⟩) ++ x.body.extract f i) s' := by
  obtain ⟨e1, e2, e3, e4⟩ := h
  have hf : f ≤ i := (e4.1 (by rw [len_data]; exact hi)).1
  have hw := e4.word (by rw [len_data]; exact hi) (by rw [len_data]; exact hc)
  have hl := wlen x hi hf
  have hp : putW (decide (f = 0)) s ((x.body.data.toList.drop f).take (i - f)) = (s.1, s.2 ++ 32 :: (x.body.data.toList.drop f).take (i - f)) := by
    unfold putW
    rw [if_neg]
    rintro ⟨a, b, c⟩
    have a' := of_decide_eq_false a
    have b' : 0 < i - f := by
      rw [← hl]; exact List.length_pos_iff.2 b
    rw [hl, ← e2] at c
    exact h2 ⟨by omega, b', c⟩
  rw [hp] at hw
  refine ⟨_, ?_, ?_, ?_, hw⟩
  · rw [e1, extract_str]
    show str _ ++ str [32] ++ str _ = _
    rw [str_add, str_add]
    simp [outW]
  · simp only [List.length_append, List.length_cons, hl, ← e2]; omega
  · rw [e3, e2]
    unfold longW
    simp only [longest_append, longest_one, List.length_append, List.length_cons, hl]
    omega
/-- What fold answers: the lines with their ends, the longest one's length. -/
def foldS (x : Fld) : List UInt8 := (linesF x).flatMap crlf
theorem foldS_nil {x : Fld} (h : x.body.size = 0) : foldS x = headL x ++ [13, 10] ∧ longest (linesF x) = x.name.size + 1 := by
  have hb : x.body.data.toList = [] := List.eq_nil_of_length_eq_zero (by rw [len_data, h])
  unfold foldS linesF
  rw [if_pos hb]
  simp [crlf, longest_one, headL_len]
theorem foldS_some {x : Fld} (h : x.body.size ≠ 0) {f n m : Nat} {o : ByteArray} {s : List (List UInt8) × List UInt8} (hI : FoldI x (foldW true ([], headL x) (splitSp x.body.data.toList)) f (x.body.size + 1) n m o s) :
    o ++ ⟨#[13, 10]⟩ = str (foldS x) ∧ m = longest (linesF x) := by
  have hb : x.body.data.toList ≠ [] := fun e => h (by rw [← len_data, e]; rfl)
  obtain ⟨e1, e2, e3, e4⟩ := hI
  have e5 := e4.2.1 (by rw [len_data]; omega)
  unfold foldS linesF
  rw [if_neg hb]
  simp only
  rw [← e5]
  refine ⟨?_, e3⟩
  rw [e1]
  show str _ ++ str [13, 10] = _
  rw [str_add]
  simp [outW, crlf]
end Go.Proofs.YtkphllolghlmeaaDoor
