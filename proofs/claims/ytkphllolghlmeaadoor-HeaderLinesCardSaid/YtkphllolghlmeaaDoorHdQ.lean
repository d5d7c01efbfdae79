/- What a text tells: plain. -/
import Derived.Test.YtkphllolghlmeaaDoorHdM
namespace Go.Proofs.YtkphllolghlmeaaDoor
open Go.RowKit

def scan : List UInt8 → List UInt8 → Option (List (List UInt8) × List UInt8)
  | _, [] => none
  | _, [_] => none
  | cur, a :: b :: r => if a = 13 ∧ b = 10 then (if cur = [] then some ([], r) else (scan [] r).map fun p => (cur.reverse :: p.1, p.2)) else scan (a :: cur) (b :: r)
theorem pre2 (a b : UInt8) (r : List UInt8) : ([13, 10] : List UInt8).isPrefixOf (a :: b :: r) = decide (a = 13 ∧ b = 10) := by
  simp only [List.isPrefixOf, Bool.and_true]
  rw [Bool.eq_iff_iff]
  simp only [Bool.and_eq_true, beq_iff_eq, decide_eq_true_eq]
  exact ⟨fun h => ⟨h.1.symm, h.2.symm⟩, fun h => ⟨h.1.symm, h.2.symm⟩⟩
theorem scan_none : ∀ (s cur : List UInt8), Lib.index s [13, 10] = -1 → scan cur s = none
  | [], cur, _ => by simp [scan]
  | [_], cur, _ => by simp [scan]
  | a :: b :: r, cur, h => by
    unfold Lib.index at h
    rw [pre2] at h
    by_cases hc : a = 13 ∧ b = 10
    · rw [if_pos (by simpa using hc)] at h; cases h
    · rw [if_neg (by simpa using hc)] at h
      rw [scan, if_neg hc]
      apply scan_none
      by_cases h1 : Lib.index (b :: r) [13, 10] = -1
      · exact h1
      · have hge := Lib.index_ge (b :: r) [13, 10]
        rw [if_neg (by simpa using h1)] at h; omega
theorem scan_some : ∀ (s cur : List UInt8) (i : Nat), Lib.index s [13, 10] = i → scan cur s = if cur = [] ∧ i = 0 then some ([], s.drop 2) else (scan [] (s.drop (i + 2))).map fun p => ((cur.reverse ++ s.take i) :: p.1, p.2)
  | [], cur, i, h => by simp [Lib.index] at h
  | [a], cur, i, h => by
    unfold Lib.index at h
    rw [if_neg (by simp [List.isPrefixOf])] at h
    simp [Lib.index] at h
  | a :: b :: r, cur, i, h => by
    unfold Lib.index at h
    rw [pre2] at h
    by_cases hc : a = 13 ∧ b = 10
    · rw [if_pos (by simpa using hc)] at h
      obtain rfl : i = 0 := by omega
      rw [scan, if_pos hc]
      by_cases hcur : cur = []
      · rw [if_pos hcur, if_pos ⟨hcur, rfl⟩]; rfl
      · rw [if_neg hcur, if_neg (fun e => hcur e.1)]; simp
    · rw [if_neg (by simpa using hc)] at h
      by_cases h1 : Lib.index (b :: r) [13, 10] = -1
      · rw [if_pos (by simpa using h1)] at h; omega
      · rw [if_neg (by simpa using h1)] at h
        have hge := Lib.index_ge (b :: r) [13, 10]
        obtain ⟨k, rfl⟩ : ∃ k, i = k + 1 := ⟨i - 1, by omega⟩
        have ih := scan_some (b :: r) (a :: cur) k (by omega)
        rw [scan, if_neg hc, ih, if_neg (by simp), if_neg (by simp)]
        simp
theorem scan_ne : ∀ (s cur : List UInt8) (ls : List (List UInt8)) (rest : List UInt8), scan cur s = some (ls, rest) → ∀ l ∈ ls, l ≠ []
  | [], cur, ls, rest, h => by simp [scan] at h
  | [_], cur, ls, rest, h => by simp [scan] at h
  | a :: b :: r, cur, ls, rest, h => by
    rw [scan] at h
    split at h
    · split at h
      · simp only [Option.some.injEq, Prod.mk.injEq] at h
        rw [← h.1]; intro l hl; cases hl
      · rename_i hcur
        cases hs : scan [] r with
        | none => rw [hs] at h; cases h
        | some p =>
          rw [hs] at h
          simp only [Option.map_some, Option.some.injEq, Prod.mk.injEq] at h
          intro l hl
          rw [← h.1] at hl
          rcases List.mem_cons.1 hl with rfl | hl
          · simpa using hcur
          · exact scan_ne r [] p.1 p.2 hs l hl
    · exact scan_ne (b :: r) (a :: cur) ls rest h
theorem scan_len : ∀ (s cur : List UInt8) (ls : List (List UInt8)) (rest : List UInt8), scan cur s = some (ls, rest) → (ls.map List.length).sum + 2 * ls.length + rest.length + 2 = s.length + cur.length
  | [], cur, ls, rest, h => by simp [scan] at h
  | [_], cur, ls, rest, h => by simp [scan] at h
  | a :: b :: r, cur, ls, rest, h => by
    rw [scan] at h
    split at h
    · split at h
      · rename_i hcur
        simp only [Option.some.injEq, Prod.mk.injEq] at h
        rw [← h.1, ← h.2, hcur]; simp
      · rename_i hcur
        cases hs : scan [] r with
        | none => rw [hs] at h; cases h
        | some p =>
          rw [hs] at h
          simp only [Option.map_some, Option.some.injEq, Prod.mk.injEq] at h
          have ih := scan_len r [] p.1 p.2 hs
          rw [← h.1, ← h.2]
          simp only [List.map_cons, List.sum_cons, List.length_cons, List.length_reverse, List.length_nil] at ih ⊢
          omega
    · have ih := scan_len (b :: r) (a :: cur) ls rest h
      simp only [List.length_cons] at ih ⊢
      omega

def blankHead (l : List UInt8) : Bool := match l with | c :: _ => isBlank c | [] => false
def glue (l : List UInt8) : List (List UInt8) → List (List UInt8) → List (List UInt8)
  | l2 :: _, g :: gs => if blankHead l2 then (l ++ g) :: gs else l :: g :: gs
  | _, _ => [l]
def groups : List (List UInt8) → List (List UInt8)
  | [] => []
  | l :: r => glue l r (groups r)
theorem groups_nil : groups [] = [] := rfl
theorem groups_one (l : List UInt8) : groups [l] = [l] := rfl
theorem groups_some (l : List UInt8) (r : List (List UInt8)) : ∃ g gs, groups (l :: r) = g :: gs := by
  rw [groups]
  unfold glue
  split
  · split <;> exact ⟨_, _, rfl⟩
  · exact ⟨_, _, rfl⟩
theorem groups_two (l l2 : List UInt8) (r g : List (List UInt8)) (x : List UInt8) (e : groups (l2 :: r) = x :: g) : groups (l :: l2 :: r) = if blankHead l2 then (l ++ x) :: g else l :: x :: g := by
  rw [groups, e]; rfl
theorem groups_cut (l l2 : List UInt8) (r : List (List UInt8)) (h : blankHead l2 = false) : groups (l :: l2 :: r) = l :: groups (l2 :: r) := by
  obtain ⟨g, gs, e⟩ := groups_some l2 r
  rw [groups_two l l2 r gs g e, e]
  simp [h]
theorem groups_join (l l2 : List UInt8) (r : List (List UInt8)) (h : blankHead l2 = true) : groups (l :: l2 :: r) = groups ((l ++ l2) :: r) := by
  cases r with
  | nil => rw [groups_two l l2 [] [] l2 rfl, if_pos h]; rfl
  | cons l3 r =>
    obtain ⟨g, gs, e⟩ := groups_some l3 r
    have e2 := groups_two l2 l3 r gs g e
    have e3 := groups_two (l ++ l2) l3 r gs g e
    by_cases h3 : blankHead l3 = true
    · rw [if_pos h3] at e2 e3
      rw [groups_two l l2 (l3 :: r) gs _ e2, if_pos h, e3, List.append_assoc]
    · rw [if_neg h3] at e2 e3
      rw [groups_two l l2 (l3 :: r) _ _ e2, if_pos h, e3]
theorem groups_end (l : List UInt8) (r : List (List UInt8)) (h : ∀ l2, r.head? = some l2 → blankHead l2 = false) : groups (l :: r) = l :: groups r := by
  cases r with
  | nil => rfl
  | cons l2 r => exact groups_cut l l2 r (h l2 rfl)
/-- A field's text: what it tells. -/
def nameOf (w : List UInt8) : List UInt8 := w.takeWhile (fun c => c != 58)
def bodyOf (w : List UInt8) : List UInt8 := Lib.trimS (w.drop ((nameOf w).length + 1)) [32, 9]
def fldOf (w : List UInt8) : Fld := ⟨str (nameOf w), str (bodyOf w)⟩
def okF (w : List UInt8) : Bool := decide ((nameOf w).length < w.length) && right (fldOf w)
def long1 (l : List UInt8) : Bool := decide (998 < l.length)
def parseE (s : List UInt8) : Nat := match scan [] s with
  | none => 2
  | some p => if p.1.any long1 = true then 3 else if (p.1.head?.any blankHead) = true then 2 else if (groups p.1).all okF = false then 2 else if 64 < (groups p.1).length then 3 else 0
def parseL (s : List UInt8) : List Fld := if parseE s = 0 then (match scan [] s with | some p => (groups p.1).map fldOf | none => []) else []
def parseR (s : List UInt8) : List UInt8 := if parseE s = 0 then (match scan [] s with | some p => p.2 | none => []) else []
theorem parse_bad {s : List UInt8} {e : Nat} (h : parseE s = e) (he : e ≠ 0) : parseL s = [] ∧ parseR s = [] := by
  unfold parseL parseR
  rw [if_neg (by rw [h]; exact he), if_neg (by rw [h]; exact he)]; exact ⟨rfl, rfl⟩
theorem parse_none {s : List UInt8} (h : scan [] s = none) : parseE s = 2 ∧ parseL s = [] ∧ parseR s = [] := by
  have : parseE s = 2 := by unfold parseE; rw [h]
  exact ⟨this, parse_bad this (by decide)⟩
theorem parse_long {s : List UInt8} {ls : List (List UInt8)} {rest : List UInt8} (hs : scan [] s = some (ls, rest)) (h : ls.any long1 = true) : parseE s = 3 ∧ parseL s = [] ∧ parseR s = [] := by
  have : parseE s = 3 := by unfold parseE; rw [hs]; simp only; rw [if_pos h]
  exact ⟨this, parse_bad this (by decide)⟩
theorem parse_first {s : List UInt8} {ls : List (List UInt8)} {rest : List UInt8} (hs : scan [] s = some (ls, rest)) (h : ls.any long1 = false) (h2 : (ls.head?.any blankHead) = true) : parseE s = 2 ∧ parseL s = [] ∧ parseR s = [] := by
  have : parseE s = 2 := by unfold parseE; rw [hs]; simp only; rw [if_neg (by rw [h]; simp), if_pos h2]
  exact ⟨this, parse_bad this (by decide)⟩
theorem parse_form {s : List UInt8} {ls : List (List UInt8)} {rest : List UInt8} (hs : scan [] s = some (ls, rest)) (h : ls.any long1 = false) (h3 : (groups ls).all okF = false) : parseE s = 2 ∧ parseL s = [] ∧ parseR s = [] := by
  have : parseE s = 2 := by
    unfold parseE; rw [hs]; simp only; rw [if_neg (by rw [h]; simp)]
    split
    · rfl
    · rfl
  exact ⟨this, parse_bad this (by decide)⟩
theorem parse_many {s : List UInt8} {ls : List (List UInt8)} {rest : List UInt8} (hs : scan [] s = some (ls, rest)) (h : ls.any long1 = false) (h2 : (ls.head?.any blankHead) = false) (h3 : (groups ls).all okF = true) (h4 : 64 < (groups ls).length) : parseE s = 3 ∧ parseL s = [] ∧ parseR s = [] := by
  have : parseE s = 3 := by unfold parseE; rw [hs]; simp only; rw [if_neg (by rw [h]; simp), if_neg (by rw [h2]; simp), if_neg (by rw [h3]; simp), if_pos h4]
  exact ⟨this, parse_bad this (by decide)⟩
theorem parse_ok {s : List UInt8} {ls : List (List UInt8)} {rest : List UInt8} (hs : scan [] s = some (ls, rest)) (h : ls.any long1 = false) (h2 : (ls.head?.any blankHead) = false) (h3 : (groups ls).all okF = true) (h4 : ¬ 64 < (groups ls).length) : parseE s = 0 ∧ parseL s = (groups ls).map fldOf ∧ parseR s = rest := by
  have : parseE s = 0 := by unfold parseE; rw [hs]; simp only; rw [if_neg (by rw [h]; simp), if_neg (by rw [h2]; simp), if_neg (by rw [h3]; simp), if_neg h4]
  unfold parseL parseR
  rw [if_pos this, if_pos this, hs]
  exact ⟨this, rfl, rfl⟩
end Go.Proofs.YtkphllolghlmeaaDoor
