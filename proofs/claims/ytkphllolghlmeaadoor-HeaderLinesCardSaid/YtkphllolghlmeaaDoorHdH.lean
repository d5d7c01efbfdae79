/- The document's fold: a field's lines, as plain lists; the document's fold, by a walk. -/
import Derived.Test.YtkphllolghlmeaaDoorHdD
namespace Go.Proofs.YtkphllolghlmeaaDoor
open Go.RowKit

def splitSp : List UInt8 → List (List UInt8)
  | [] => [[]]
  | c :: r => if c = 32 then [] :: splitSp r else match splitSp r with | w :: ws => (c :: w) :: ws | [] => [[c]]
theorem splitSp_ne (l : List UInt8) : splitSp l ≠ [] := by
  cases l with
  | nil => simp [splitSp]
  | cons c r =>
    unfold splitSp
    split
    · simp
    · split <;> simp
theorem splitSp_cut : ∀ (l : List UInt8) (k : Nat), (∀ (j : Nat) (c : UInt8), j < k → l[j]? = some c → c ≠ 32) → l[k]? = some 32 → splitSp l = l.take k :: splitSp (l.drop (k + 1))
  | [], k, _, h => by simp at h
  | c :: r, 0, _, h => by simp at h; subst h; simp [splitSp]
  | c :: r, k + 1, hn, h => by
    have ih := splitSp_cut r k (fun j d hj hd => hn (j + 1) d (by omega) (by simpa using hd)) (by simpa using h)
    have hc : c ≠ 32 := hn 0 c (by omega) rfl
    rw [splitSp, if_neg hc, ih]
    rfl
theorem splitSp_all : ∀ (l : List UInt8), (∀ (j : Nat) (c : UInt8), l[j]? = some c → c ≠ 32) → splitSp l = [l]
  | [], _ => rfl
  | c :: r, hn => by
    have ih := splitSp_all r (fun j d hd => hn (j + 1) d (by simpa using hd))
    have hc : c ≠ 32 := hn 0 c rfl
    rw [splitSp, if_neg hc, ih]
/-- One word more: the lines that are done, the line that grows. -/
def putW (first : Bool) (s : List (List UInt8) × List UInt8) (w : List UInt8) : List (List UInt8) × List UInt8 :=
  if first = false ∧ w ≠ [] ∧ 78 < s.2.length + 1 + w.length then (s.1 ++ [s.2], 32 :: w) else (s.1, s.2 ++ 32 :: w)
def foldW : Bool → List (List UInt8) × List UInt8 → List (List UInt8) → List (List UInt8) × List UInt8
  | _, s, [] => s
  | first, s, w :: ws => foldW false (putW first s w) ws
def headL (x : Fld) : List UInt8 := x.name.data.toList ++ [58]
/-- A field's lines. -/
def linesF (x : Fld) : List (List UInt8) :=
  if x.body.data.toList = [] then [headL x] else
    let s := foldW true ([], headL x) (splitSp x.body.data.toList)
    s.1 ++ [s.2]
def crlf (l : List UInt8) : List UInt8 := l ++ [13, 10]
def longest (ls : List (List UInt8)) : Nat := ls.foldr (fun l n => max l.length n) 0
theorem longest_append (a b : List (List UInt8)) : longest (a ++ b) = max (longest a) (longest b) := by
  induction a with
  | nil => simp [longest]
  | cons x r ih => simp only [longest, List.cons_append, List.foldr_cons] at *; rw [ih]; omega
theorem longest_one (l : List UInt8) : longest [l] = l.length := by simp [longest]
theorem str_add (l m : List UInt8) : str l ++ str m = str (l ++ m) := by
  apply ByteArray.ext
  simp [str]
/-- What fold keeps: lines done, the line that grows; where the next word begins; how far it has looked. -/
def FoldR (b : List UInt8) (H : Nat) (T : List (List UInt8) × List UInt8) (f i : Nat) (s : List (List UInt8) × List UInt8) : Prop :=
  (i ≤ b.length → f ≤ i ∧ (∀ (j : Nat) (c : UInt8), f ≤ j → j < i → b[j]? = some c → c ≠ 32) ∧ foldW (decide (f = 0)) s (splitSp (b.drop f)) = T) ∧ (b.length < i → s = T) ∧ s.2.length ≤ H + f
theorem FoldR.start (b h : List UInt8) : FoldR b h.length (foldW true ([], h) (splitSp b)) 0 0 ([], h) :=
  ⟨fun _ => ⟨Nat.le_refl _, fun j c h1 h2 => absurd h2 (Nat.not_lt_zero _), by simp⟩, fun h => absurd h (Nat.not_lt_zero _), Nat.le_refl _⟩
theorem FoldR.skip {b : List UInt8} {H : Nat} {T s : List (List UInt8) × List UInt8} {f i : Nat} {c : UInt8} (h : FoldR b H T f i s) (hc : b[i]? = some c) (hn : c ≠ 32) : FoldR b H T f (i + 1) s := by
  have hi := (List.getElem?_eq_some_iff.1 hc).1
  obtain ⟨h1, h2, h3⟩ := h.1 (by omega)
  refine ⟨fun _ => ⟨by omega, fun j d hj hj2 hd => ?_, h3⟩, fun h => by omega, h.2.2⟩
  rcases Nat.lt_succ_iff_lt_or_eq.1 hj2 with e | e
  · exact h2 j d hj e hd
  · subst e; rw [hc] at hd; injection hd with hd; subst hd; exact hn
theorem putW_len (first : Bool) (s : List (List UInt8) × List UInt8) (w : List UInt8) : (putW first s w).2.length ≤ s.2.length + 1 + w.length := by
  unfold putW
  split <;> simp <;> omega
theorem FoldR.word {b : List UInt8} {H : Nat} {T s : List (List UInt8) × List UInt8} {f i : Nat} (h : FoldR b H T f i s) (hi : i ≤ b.length) (hc : i < b.length → b[i]? = some 32) : FoldR b H T (i + 1) (i + 1) (putW (decide (f = 0)) s ((b.drop f).take (i - f))) := by
  obtain ⟨h1, h2, h3⟩ := h.1 hi
  have hl := putW_len (decide (f = 0)) s ((b.drop f).take (i - f))
  have hw : ((b.drop f).take (i - f)).length ≤ i - f := by simp; omega
  have h4 := h.2.2
  by_cases he : i < b.length
  · have e := splitSp_cut (b.drop f) (i - f) (fun j c hj hd => h2 (f + j) c (by omega) (by omega) (by rw [List.getElem?_drop] at hd; exact hd)) (by rw [List.getElem?_drop, show f + (i - f) = i by omega]; exact hc he)
    rw [List.drop_drop, show f + (i - f + 1) = i + 1 by omega] at e
    rw [e, foldW] at h3
    exact ⟨fun _ => ⟨Nat.le_refl _, fun j c h1 h2 => by omega, by rw [decide_eq_false (by omega)]; exact h3⟩, fun h => by omega, by omega⟩
  · obtain rfl : i = b.length := by omega
    have e := splitSp_all (b.drop f) (fun j c hd => h2 (f + j) c (by omega) (by rw [List.getElem?_drop] at hd; exact (List.getElem?_eq_some_iff.1 hd).1) (by rw [List.getElem?_drop] at hd; exact hd))
    rw [e, foldW, foldW] at h3
    refine ⟨fun h => by omega, fun _ => ?_, by omega⟩
    rw [List.take_of_length_le (by simp)]; exact h3
end Go.Proofs.YtkphllolghlmeaaDoor
