/- header.Parse: the plain half of its loops. -/
import Derived.Test.YtkphllolghlmeaaDoorHdR
namespace Go.Proofs.YtkphllolghlmeaaDoor
open Go.RowKit
set_option linter.unusedVariables false

theorem groups_sum : ∀ ls : List (List UInt8), ((groups ls).map List.length).sum = (ls.map List.length).sum
  | [] => rfl
  | [l] => rfl
  | l :: l2 :: r => by
    have ih := groups_sum (l2 :: r)
    obtain ⟨g, gs, e⟩ := groups_some l2 r
    rw [groups_two l l2 r gs g e]
    rw [e] at ih
    split <;> simp only [List.map_cons, List.sum_cons, List.length_append] at ih ⊢ <;> omega
theorem groups_len {ls : List (List UInt8)} {g : List UInt8} (h : g ∈ groups ls) : g.length ≤ (ls.map List.length).sum := by
  rw [← groups_sum]; exact len_le_sum h
theorem groups_count : ∀ ls : List (List UInt8), (groups ls).length ≤ ls.length
  | [] => Nat.le_refl _
  | [l] => Nat.le_refl _
  | l :: l2 :: r => by
    have ih := groups_count (l2 :: r)
    obtain ⟨g, gs, e⟩ := groups_some l2 r
    rw [groups_two l l2 r gs g e]
    rw [e] at ih
    split <;> simp only [List.length_cons] at ih ⊢ <;> omega
/-- Lines that have been put together, i of them. -/
def GrpI (ls W : List (List UInt8)) (i : Nat) : Prop := (i = 0 ∧ W = []) ∨ (0 < i ∧ (ls.head?.any blankHead) = false ∧ ∃ d c, W = d ++ [c] ∧ groups ls = d ++ groups (c :: ls.drop i))
theorem GrpI.zero (ls : List (List UInt8)) : GrpI ls [] 0 := .inl ⟨rfl, rfl⟩
theorem GrpI.first {ls W : List (List UInt8)} {l : List UInt8} (h : GrpI ls W 0) (hl : ls[0]? = some l) (hb : blankHead l = true) : (ls.head?.any blankHead) = true := by
  rw [List.head?_eq_getElem?, hl]; exact hb
theorem GrpI.cut {ls W : List (List UInt8)} {i : Nat} {l : List UInt8} (h : GrpI ls W i) (hl : ls[i]? = some l) (hb : blankHead l = false) : GrpI ls (W ++ [l]) (i + 1) := by
  obtain ⟨hi, rfl⟩ := List.getElem?_eq_some_iff.1 hl
  rcases h with ⟨rfl, rfl⟩ | ⟨h1, h2, d, c, rfl, h4⟩
  · refine .inr ⟨Nat.succ_pos _, ?_, [], _, rfl, ?_⟩
    · rw [List.head?_eq_getElem?, hl]; exact hb
    · rw [← List.drop_eq_getElem_cons hi]; rfl
  · refine .inr ⟨Nat.succ_pos _, h2, d ++ [c], _, rfl, ?_⟩
    rw [h4, List.drop_eq_getElem_cons hi, groups_cut _ _ _ hb, List.append_assoc]; rfl
theorem GrpI.join {ls W : List (List UInt8)} {i : Nat} {l : List UInt8} (h : GrpI ls W i) (h0 : i ≠ 0) (hl : ls[i]? = some l) (hb : blankHead l = true) : ∃ d c, W = d ++ [c] ∧ GrpI ls (d ++ [c ++ l]) (i + 1) ∧ c.length ≤ (ls.map List.length).sum := by
  obtain ⟨hi, rfl⟩ := List.getElem?_eq_some_iff.1 hl
  rcases h with ⟨h, _⟩ | ⟨h1, h2, d, c, rfl, h4⟩
  · exact absurd h h0
  · refine ⟨d, c, rfl, .inr ⟨Nat.succ_pos _, h2, d, _, rfl, ?_⟩, ?_⟩
    · rw [h4, List.drop_eq_getElem_cons hi, groups_join _ _ _ hb]
    · have h5 := groups_sum ls
      have h6 := groups_sum (c :: ls.drop i)
      rw [h4, List.map_append, List.sum_append, h6] at h5
      simp only [List.map_cons, List.sum_cons] at h5; omega
theorem GrpI.done {ls W : List (List UInt8)} {i : Nat} (h : GrpI ls W i) (hi : ls.length ≤ i) : W = groups ls ∧ (ls.head?.any blankHead) = false := by
  rcases h with ⟨rfl, rfl⟩ | ⟨h1, h2, d, c, rfl, h4⟩
  · have : ls = [] := List.eq_nil_of_length_eq_zero (by omega)
    subst this; exact ⟨rfl, rfl⟩
  · rw [h4, List.drop_of_length_le hi]; exact ⟨rfl, h2⟩
def TillL (p : List UInt8 → Bool) (l : List (List UInt8)) (i : Nat) : Prop := (l.take i).all p = true
theorem TillL.zero (p : List UInt8 → Bool) (l : List (List UInt8)) : TillL p l 0 := rfl
theorem TillL.succ {p : List UInt8 → Bool} {l : List (List UInt8)} {i : Nat} {x : List UInt8} (h : TillL p l i) (hx : l[i]? = some x) (hp : p x = true) : TillL p l (i + 1) := by
  unfold TillL at *
  rw [List.take_add_one, hx, List.all_append, h]; simp [hp]
theorem TillL.all {p : List UInt8 → Bool} {l : List (List UInt8)} {i : Nat} (h : TillL p l i) (hi : l.length ≤ i) : l.all p = true := by
  unfold TillL at h; rwa [List.take_of_length_le hi] at h
theorem all_not_l {p : List UInt8 → Bool} {l : List (List UInt8)} {i : Nat} {x : List UInt8} (hx : l[i]? = some x) (hp : p x = false) : l.all p = false := by
  rw [List.all_eq_false]; exact ⟨x, List.mem_of_getElem? hx, by simp [hp]⟩
theorem any_is_l {p : List UInt8 → Bool} {l : List (List UInt8)} {i : Nat} {x : List UInt8} (hx : l[i]? = some x) (hp : p x = true) : l.any p = true := by
  rw [List.any_eq_true]; exact ⟨x, List.mem_of_getElem? hx, hp⟩
theorem any_none {p : List UInt8 → Bool} {l : List (List UInt8)} (h : l.all (fun x => !p x) = true) : l.any p = false := by
  rw [List.any_eq_false]
  intro x hx
  have := List.all_eq_true.1 h x hx
  simpa using this
/-- The first colon. -/
theorem nameOf_at (w : List UInt8) : (∀ (j : Nat) (c : UInt8), j < (nameOf w).length → w[j]? = some c → c ≠ 58) ∧ ((nameOf w).length < w.length → w[(nameOf w).length]? = some 58) ∧ w.take (nameOf w).length = nameOf w ∧ (nameOf w).length ≤ w.length := by
  induction w with
  | nil => exact ⟨fun j c h => absurd h (Nat.not_lt_zero _), fun h => absurd h (Nat.not_lt_zero _), rfl, Nat.le_refl _⟩
  | cons a r ih =>
    obtain ⟨h1, h2, h3, h4⟩ := ih
    unfold nameOf at *
    rw [List.takeWhile_cons]
    by_cases ha : a = 58
    · subst ha
      simp
    · have hb : (a != 58) = true := by simpa using ha
      rw [if_pos hb]
      simp only [List.length_cons]
      refine ⟨fun j c hj hc => ?_, fun h => ?_, ?_, by omega⟩
      · cases j with
        | zero => simp at hc; subst hc; exact ha
        | succ j => exact h1 j c (by omega) (by simpa using hc)
      · simpa using h2 (by omega)
      · simpa using h3
theorem cut58_hit {w : List UInt8} (h : (nameOf w).length < w.length) : Lib.cut w [58] = (nameOf w, w.drop ((nameOf w).length + 1), true) := by
  obtain ⟨h1, h2, h3, h4⟩ := nameOf_at w
  have hi : Lib.index w [58] = ((nameOf w).length : Int) := Lib.index_first h4 (by rw [occ_one, h2 h]; simp) (fun j hj => by
    rw [occ_one]
    cases hj2 : w[j]? with
    | none => rfl
    | some c => have := h1 j c hj hj2; simpa using this)
  unfold Lib.cut
  rw [hi, if_pos (by omega), Int.toNat_natCast, h3]; rfl
theorem cut58_miss {w : List UInt8} (h : ¬ (nameOf w).length < w.length) : Lib.cut w [58] = (w, [], false) := by
  obtain ⟨h1, h2, h3, h4⟩ := nameOf_at w
  have hi : Lib.index w [58] = -1 := Lib.index_none (fun j hj => by
    rw [occ_one]
    cases hj2 : w[j]? with
    | none => rfl
    | some c => have := h1 j c (by have := (List.getElem?_eq_some_iff.1 hj2).1; omega) hj2; simpa using this)
  unfold Lib.cut
  rw [hi, if_neg (by decide)]
theorem trimS_len (l cs : List UInt8) : (Lib.trimS l cs).length ≤ l.length := by
  unfold Lib.trimS Lib.trimLeftS Lib.trimRightS
  refine Nat.le_trans (dropWhile_le _ _) ?_
  rw [List.length_reverse]
  refine Nat.le_trans (dropWhile_le _ _) ?_
  rw [List.length_reverse]; exact Nat.le_refl _
theorem blank_first {l : List UInt8} : hasAny (l.take 1) [32, 9] = blankHead l := by
  cases l with
  | nil => rfl
  | cons c r =>
    have := blanks_has c
    unfold hasAny blankHead
    simp only [List.take_succ_cons, List.take_zero, List.any_cons, List.any_nil, Bool.or_false]
    exact this
theorem blank_call (W : World) (l : List UInt8) : Calls Tryd.prog 27 #[.string ((str l).extract 0 1), .string ⟨#[32, 9]⟩] W fun e w' => e = .returned (.bool (blankHead l)) ∧ Chg NoB W w' := by
  have hsz : ((str l).extract 0 1).size ≤ maxLen := by rw [ByteArray.size_extract]; unfold maxLen; omega
  refine (containsAny_all W ((str l).extract 0 1) ⟨#[32, 9]⟩ (by decide) (by decide) hsz asc_blanks).mono fun e w' h => ⟨?_, h.2⟩
  rw [h.1, extract_str, str_toList, str_toList]
  rw [← blank_first]; rfl
theorem trim_call (W : World) (l : List UInt8) (hl : l.length ≤ 1000000) : Calls Tryd.prog 29 #[.string (str l), .string ⟨#[32, 9]⟩] W fun e w' => e = .returned (.string (str (Lib.trimS l [32, 9]))) ∧ Chg NoB W w' := by
  refine (Tryd.strings_Trim_laid (str l) ⟨#[32, 9]⟩ W (by rw [str_size]; omega) (by decide) asc_blanks).mono fun e w' h => ⟨?_, Chg.of_below h.2 NoB⟩
  rw [h.1, str_toList]; rfl
end Go.Proofs.YtkphllolghlmeaaDoor
