/- The document's Parse: the plain half of its loops. -/
import Derived.Test.YtkphllolghlmeaaDoorHdT
namespace Go.Proofs.YtkphllolghlmeaaDoor
open Go.RowKit

theorem dropWhile_at {p : UInt8 → Bool} : ∀ {l : List UInt8} {k : Nat}, (∀ (j : Nat) (c : UInt8), j < k → l[j]? = some c → p c = true) → (∀ c, l[k]? = some c → p c = false) → k ≤ l.length → l.dropWhile p = l.drop k
  | [], k, _, _, h => by simp
  | a :: r, 0, _, h2, _ => by
    have := h2 a rfl
    rw [List.dropWhile_cons, if_neg (by simp [this])]; rfl
  | a :: r, k + 1, h1, h2, h3 => by
    have := h1 0 a (Nat.succ_pos _) rfl
    rw [List.dropWhile_cons, if_pos this]
    exact dropWhile_at (fun j c hj hc => h1 (j + 1) c (by omega) (by simpa using hc)) (fun c hc => h2 c (by simpa using hc)) (by simpa using h3)
theorem trimS_at {l : List UInt8} {a b : Nat} (hab : a ≤ b) (hb : b ≤ l.length) (h1 : ∀ (j : Nat) (c : UInt8), j < a → l[j]? = some c → isBlank c = true) (h2 : ∀ c, a < l.length → l[a]? = some c → isBlank c = false)
    (h3 : ∀ (j : Nat) (c : UInt8), b ≤ j → l[j]? = some c → isBlank c = true) (h4 : a < b → ∀ c, l[b - 1]? = some c → isBlank c = false) : Lib.trimS l [32, 9] = (l.drop a).take (b - a) := by
  have e : (fun c : UInt8 => ([32, 9] : List UInt8).contains c) = isBlank := funext blanks_has
  unfold Lib.trimS Lib.trimLeftS Lib.trimRightS
  rw [e]
  have hrev : ∀ (j : Nat) (c : UInt8), l.reverse[j]? = some c → j < l.length ∧ l[l.length - 1 - j]? = some c := by
    intro j c hc
    have hj : j < l.length := by have := (List.getElem?_eq_some_iff.1 hc).1; simpa using this
    rw [List.getElem?_reverse hj] at hc
    exact ⟨hj, hc⟩
  rcases Nat.lt_or_ge a b with hlt | hge
  · have k1 : l.reverse.dropWhile isBlank = l.reverse.drop (l.length - b) := dropWhile_at (fun j c hj hc => by
      obtain ⟨q1, q2⟩ := hrev j c hc
      exact h3 _ c (by omega) q2) (fun c hc => by
      obtain ⟨q1, q2⟩ := hrev _ c hc
      rw [show l.length - 1 - (l.length - b) = b - 1 by omega] at q2
      exact h4 hlt c q2) (by simp)
    rw [k1, List.drop_reverse, List.reverse_reverse, show l.length - (l.length - b) = b by omega]
    have k2 : (l.take b).dropWhile isBlank = (l.take b).drop a := dropWhile_at (fun j c hj hc => by
      rw [List.getElem?_take_of_lt (by omega)] at hc
      exact h1 j c hj hc) (fun c hc => by
      rw [List.getElem?_take_of_lt hlt] at hc
      exact h2 c (by omega) hc) (by rw [List.length_take]; omega)
    rw [k2, List.drop_take]
  · obtain rfl : a = b := by omega
    have ha : a = l.length := by
      rcases Nat.lt_or_ge a l.length with h | h
      · have g := List.getElem?_eq_getElem h
        have x1 := h2 _ h g
        have x2 := h3 a _ (Nat.le_refl _) g
        rw [x1] at x2; cases x2
      · omega
    have k1 : l.reverse.dropWhile isBlank = l.reverse.drop l.length := dropWhile_at (fun j c hj hc => by
      obtain ⟨q1, q2⟩ := hrev j c hc
      exact h1 _ c (by omega) q2) (fun c hc => by
      rw [List.getElem?_eq_none (by simp)] at hc; cases hc) (by simp)
    rw [k1, List.drop_of_length_le (by simp)]; simp
/-- What the first loop keeps. -/
def ScanI (s : List UInt8) (L : List (List UInt8)) (f i : Nat) : Bool → Prop
  | true => scan [] s = some (L, s.drop f)
  | false => f ≤ i ∧ scan [] s = (scan ((s.drop f).take (i - f)).reverse (s.drop i)).map fun p => (L ++ p.1, p.2)
theorem ScanI.zero (s : List UInt8) : ScanI s [] 0 0 false := by
  refine ⟨Nat.le_refl _, ?_⟩
  show scan [] s = (scan [] s).map _
  cases scan [] s <;> rfl
theorem drop_two {s : List UInt8} {i : Nat} {a b : UInt8} (h1 : s[i]? = some a) (h2 : s[i + 1]? = some b) : s.drop i = a :: b :: s.drop (i + 2) := by
  obtain ⟨hi, rfl⟩ := List.getElem?_eq_some_iff.1 h1
  obtain ⟨hi2, rfl⟩ := List.getElem?_eq_some_iff.1 h2
  rw [List.drop_eq_getElem_cons hi, List.drop_eq_getElem_cons hi2]
theorem ScanI.skip {s : List UInt8} {L : List (List UInt8)} {f i : Nat} {a b : UInt8} (h : ScanI s L f i false) (h1 : s[i]? = some a) (h2 : s[i + 1]? = some b) (hn : ¬ (a = 13 ∧ b = 10)) : ScanI s L f (i + 1) false := by
  obtain ⟨hf, h⟩ := h
  refine ⟨by omega, ?_⟩
  rw [drop_two h1 h2, scan, if_neg hn] at h
  have e1 : s.drop (i + 1) = b :: s.drop (i + 2) := by
    obtain ⟨hi2, rfl⟩ := List.getElem?_eq_some_iff.1 h2
    exact List.drop_eq_getElem_cons hi2
  have e2 : ((s.drop f).take (i + 1 - f)).reverse = a :: ((s.drop f).take (i - f)).reverse := by
    rw [show i + 1 - f = (i - f) + 1 by omega, List.take_add_one, List.getElem?_drop, show f + (i - f) = i by omega, h1]
    simp
  rw [e1, e2]; exact h
theorem ScanI.stop {s : List UInt8} {L : List (List UInt8)} {i : Nat} {a b : UInt8} (h : ScanI s L i i false) (h1 : s[i]? = some a) (h2 : s[i + 1]? = some b) (hn : a = 13 ∧ b = 10) : ScanI s L (i + 2) (i + 2) true := by
  obtain ⟨hf, h⟩ := h
  rw [drop_two h1 h2, scan, if_pos hn, Nat.sub_self, if_pos (by rfl)] at h
  show scan [] s = _
  rw [h]; simp
theorem ScanI.line {s : List UInt8} {L : List (List UInt8)} {f i : Nat} {a b : UInt8} (h : ScanI s L f i false) (h0 : f ≠ i) (h1 : s[i]? = some a) (h2 : s[i + 1]? = some b) (hn : a = 13 ∧ b = 10) : ScanI s (L ++ [(s.drop f).take (i - f)]) (i + 2) (i + 2) false := by
  obtain ⟨hf, h⟩ := h
  have hi := (List.getElem?_eq_some_iff.1 h1).1
  have hne : ((s.drop f).take (i - f)).reverse ≠ [] := by
    intro e
    have := congrArg List.length e
    simp only [List.length_reverse, List.length_take, List.length_drop, List.length_nil] at this
    omega
  rw [drop_two h1 h2, scan, if_pos hn, if_neg hne, List.reverse_reverse] at h
  refine ⟨Nat.le_refl _, ?_⟩
  rw [h, Nat.sub_self]
  show _ = (scan [] (s.drop (i + 2))).map _
  cases scan [] (s.drop (i + 2)) <;> simp
theorem ScanI.none {s : List UInt8} {L : List (List UInt8)} {f i : Nat} (h : ScanI s L f i false) (hi : s.length ≤ i + 1) : scan [] s = none := by
  obtain ⟨hf, h⟩ := h
  have : scan ((s.drop f).take (i - f)).reverse (s.drop i) = Option.none := by
    cases hd : s.drop i with
    | nil => simp [scan]
    | cons a r =>
      cases r with
      | nil => simp [scan]
      | cons b r =>
        have := congrArg List.length hd
        simp only [List.length_drop, List.length_cons] at this; omega
  rw [h, this]; rfl
/-- What the loop over the lines keeps: the groups that are done; the next line begins one. -/
def GrpR (ls D : List (List UInt8)) (k : Nat) : Prop := groups ls = D ++ groups (ls.drop k) ∧ (k = 0 ∧ D = [] ∨ (0 < k ∧ (ls.head?.any blankHead) = false ∧ ∀ l, ls[k]? = some l → blankHead l = false))
theorem GrpR.zero (ls : List (List UInt8)) : GrpR ls [] 0 := ⟨rfl, .inl ⟨rfl, rfl⟩⟩
theorem GrpR.blank {ls D : List (List UInt8)} {k : Nat} {l : List UInt8} (h : GrpR ls D k) (hl : ls[k]? = some l) (hb : blankHead l = true) : (ls.head?.any blankHead) = true := by
  rcases h.2 with ⟨rfl, _⟩ | ⟨_, _, h2⟩
  · rw [List.head?_eq_getElem?, hl]; exact hb
  · rw [h2 l hl] at hb; cases hb
theorem GrpR.head {ls D : List (List UInt8)} {k : Nat} {l : List UInt8} (h : GrpR ls D k) (hl : ls[k]? = some l) (hb : blankHead l = false) : (ls.head?.any blankHead) = false := by
  rcases h.2 with ⟨rfl, _⟩ | ⟨_, h2, _⟩
  · rw [List.head?_eq_getElem?, hl]; exact hb
  · exact h2
/-- .. and the one inside it. -/
def JoinR (ls D : List (List UInt8)) (w : List UInt8) (k : Nat) : Prop := groups ls = D ++ groups (w :: ls.drop k)
theorem GrpR.start {ls D : List (List UInt8)} {k : Nat} {l : List UInt8} (h : GrpR ls D k) (hl : ls[k]? = some l) : JoinR ls D l (k + 1) := by
  obtain ⟨hi, rfl⟩ := List.getElem?_eq_some_iff.1 hl
  unfold JoinR
  rw [h.1, List.drop_eq_getElem_cons hi]
theorem JoinR.next {ls D : List (List UInt8)} {k : Nat} {w l : List UInt8} (h : JoinR ls D w k) (hl : ls[k]? = some l) (hb : blankHead l = true) : JoinR ls D (w ++ l) (k + 1) := by
  obtain ⟨hi, rfl⟩ := List.getElem?_eq_some_iff.1 hl
  unfold JoinR at *
  rw [h, List.drop_eq_getElem_cons hi, groups_join _ _ _ hb]
theorem JoinR.done {ls D : List (List UInt8)} {k : Nat} {w : List UInt8} (h : JoinR ls D w k) (h0 : 0 < k) (hh : (ls.head?.any blankHead) = false) (hb : ∀ l, ls[k]? = some l → blankHead l = false) : GrpR ls (D ++ [w]) k := by
  unfold JoinR at h
  refine ⟨?_, .inr ⟨h0, hh, hb⟩⟩
  rw [h, groups_end _ _ (fun l hl => hb l (by rw [← hl, List.head?_drop])), List.append_assoc]; rfl
theorem JoinR.mem {ls D : List (List UInt8)} {k : Nat} {w : List UInt8} (h : JoinR ls D w k) (hb : ∀ l, ls[k]? = some l → blankHead l = false) : w ∈ groups ls := by
  unfold JoinR at h
  rw [h, groups_end _ _ (fun l hl => hb l (by rw [← hl, List.head?_drop]))]
  simp
theorem JoinR.len {ls D : List (List UInt8)} {k : Nat} {w : List UInt8} (h : JoinR ls D w k) : w.length ≤ (ls.map List.length).sum := by
  unfold JoinR at h
  have h5 := groups_sum ls
  have h6 := groups_sum (w :: ls.drop k)
  rw [h, List.map_append, List.sum_append, h6] at h5
  simp only [List.map_cons, List.sum_cons] at h5; omega
theorem GrpR.done {ls D : List (List UInt8)} {k : Nat} (h : GrpR ls D k) (hk : ls.length ≤ k) : groups ls = D ∧ (ls.head?.any blankHead) = false := by
  have h1 := h.1
  rw [List.drop_of_length_le hk, groups_nil, List.append_nil] at h1
  refine ⟨h1, ?_⟩
  rcases h.2 with ⟨rfl, _⟩ | ⟨_, h2, _⟩
  · have : ls = [] := List.eq_nil_of_length_eq_zero (by omega)
    subst this; rfl
  · exact h2
/-- No colon till c. -/
def NoCol (w : List UInt8) (c : Nat) : Prop := ∀ (j : Nat) (x : UInt8), j < c → w[j]? = some x → x ≠ 58
theorem NoCol.zero (w : List UInt8) : NoCol w 0 := fun _ _ h => absurd h (Nat.not_lt_zero _)
theorem NoCol.succ {w : List UInt8} {c : Nat} {x : UInt8} (h : NoCol w c) (hx : w[c]? = some x) (hn : x ≠ 58) : NoCol w (c + 1) := fun j y hj hy => by
  rcases Nat.lt_succ_iff_lt_or_eq.1 hj with h' | h'
  · exact h j y h' hy
  · subst h'; rw [hx] at hy; injection hy with hy; subst hy; exact hn
theorem NoCol.at {w : List UInt8} {c : Nat} (h : NoCol w c) (hc : c ≤ w.length) (h2 : c < w.length → w[c]? = some 58) : (nameOf w).length = c := by
  have : nameOf w = w.take c := by
    induction w generalizing c with
    | nil => simp [nameOf]
    | cons a r ih =>
      unfold nameOf at *
      cases c with
      | zero =>
        have := h2 (by simp)
        simp at this; subst this; simp
      | succ c =>
        have ha := h 0 a (Nat.succ_pos _) rfl
        rw [List.takeWhile_cons, if_pos (by simpa using ha), ih (c := c) (fun j x hj hx => h (j + 1) x (by omega) (by simpa using hx)) (by simpa using hc) (fun hlt => by simpa using h2 (by simpa using hlt))]
        rfl
  rw [this, List.length_take]; omega
/-- Blanks from p till a. -/
def Blks (w : List UInt8) (p a : Nat) : Prop := ∀ (j : Nat) (x : UInt8), p ≤ j → j < a → w[j]? = some x → isBlank x = true
theorem Blks.self (w : List UInt8) (p : Nat) : Blks w p p := fun j x h1 h2 => by omega
theorem Blks.succ {w : List UInt8} {p a : Nat} {x : UInt8} (h : Blks w p a) (hx : w[a]? = some x) (hb : isBlank x = true) : Blks w p (a + 1) := fun j y h1 h2 hy => by
  rcases Nat.lt_succ_iff_lt_or_eq.1 h2 with h' | h'
  · exact h j y h1 h' hy
  · subst h'; rw [hx] at hy; injection hy with hy; subst hy; exact hb
theorem Blks.pred {w : List UInt8} {b : Nat} {x : UInt8} (h : Blks w b w.length) (h0 : 0 < b) (hx : w[b - 1]? = some x) (hb : isBlank x = true) : Blks w (b - 1) w.length := fun j y h1 h2 hy => by
  rcases Nat.lt_or_ge j b with h' | h'
  · obtain rfl : j = b - 1 := by omega
    rw [hx] at hy; injection hy with hy; subst hy; exact hb
  · exact h j y h' h2 hy
theorem body_at {w : List UInt8} {c a b : Nat} (hc : (nameOf w).length = c) (h0 : c < w.length) (h1 : c + 1 ≤ a) (h2 : a ≤ b) (h3 : b ≤ w.length) (ha : Blks w (c + 1) a) (ha2 : ∀ x, a < w.length → w[a]? = some x → isBlank x = false)
    (hb : Blks w b w.length) (hb2 : a < b → ∀ x, w[b - 1]? = some x → isBlank x = false) : bodyOf w = (w.drop a).take (b - a) := by
  unfold bodyOf
  rw [hc]
  have hl : (w.drop (c + 1)).length = w.length - (c + 1) := List.length_drop
  rw [trimS_at (l := w.drop (c + 1)) (a := a - (c + 1)) (b := b - (c + 1)) (by omega) (by omega)
    (fun j x hj hx => ha (c + 1 + j) x (by omega) (by omega) (by rw [List.getElem?_drop] at hx; exact hx))
    (fun x hx hy => ha2 x (by omega) (by rw [List.getElem?_drop, show c + 1 + (a - (c + 1)) = a by omega] at hy; exact hy))
    (fun j x hj hx => hb (c + 1 + j) x (by omega) (by rw [List.getElem?_drop] at hx; exact (List.getElem?_eq_some_iff.1 hx).1) (by rw [List.getElem?_drop] at hx; exact hx))
    (fun hlt x hx => hb2 (by omega) x (by rw [List.getElem?_drop, show c + 1 + (b - (c + 1) - 1) = b - 1 by omega] at hx; exact hx))]
  rw [List.drop_drop, show c + 1 + (a - (c + 1)) = a by omega, show b - (c + 1) - (a - (c + 1)) = b - a by omega]
end Go.Proofs.YtkphllolghlmeaaDoor
