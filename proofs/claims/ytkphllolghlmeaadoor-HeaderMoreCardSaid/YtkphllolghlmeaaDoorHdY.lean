/- The plain laws of printed and parsed headers. -/
import Derived.Test.YtkphllolghlmeaaDoorHdS
import Derived.Test.YtkphllolghlmeaaDoorHdO
namespace Go.Proofs.YtkphllolghlmeaaDoor
open Go.RowKit

/-! A text of lines, scanned. -/
def NoCR (l : List UInt8) : Prop := ∀ c ∈ l, c ≠ 13
theorem scan_through : ∀ (ln cur r : List UInt8), NoCR ln → scan cur (ln ++ 13 :: 10 :: r) = scan (ln.reverse ++ cur) (13 :: 10 :: r)
  | [], cur, r, _ => rfl
  | a :: ln, cur, r, h => by
    have ha : a ≠ 13 := h a (by simp)
    have ih := scan_through ln (a :: cur) r (fun c hc => h c (by simp [hc]))
    rw [List.reverse_cons, List.append_assoc]
    show scan cur (a :: (ln ++ 13 :: 10 :: r)) = _
    rw [show ([a] ++ cur : List UInt8) = a :: cur from rfl, ← ih]
    cases ln with
    | nil => show scan cur (a :: 13 :: 10 :: r) = _; rw [scan, if_neg (fun e => ha e.1)]; rfl
    | cons b ln => show scan cur (a :: b :: (ln ++ 13 :: 10 :: r)) = _; rw [scan, if_neg (fun e => ha e.1)]; rfl
theorem scan_lines : ∀ (ls : List (List UInt8)) (more : List UInt8), (∀ l ∈ ls, l ≠ [] ∧ NoCR l) → scan [] (ls.flatMap crlf ++ (13 :: 10 :: more)) = some (ls, more)
  | [], more, _ => by simp [scan]
  | l :: ls, more, h => by
    have hl := h l (by simp)
    have ih := scan_lines ls more (fun x hx => h x (by simp [hx]))
    have e : (l :: ls).flatMap crlf ++ (13 :: 10 :: more) = l ++ 13 :: 10 :: (ls.flatMap crlf ++ (13 :: 10 :: more)) := by simp [crlf]
    rw [e, scan_through l [] _ hl.2, scan, if_pos ⟨rfl, rfl⟩, if_neg (by simpa using hl.1), ih]
    simp
/-! A field's lines. -/
def textF (x : Fld) : List UInt8 := headL x ++ if x.body.data.toList = [] then [] else 32 :: x.body.data.toList
theorem putW_flat (b : Bool) (s : List (List UInt8) × List UInt8) (w : List UInt8) : ((putW b s w).1 ++ [(putW b s w).2]).flatten = (s.1 ++ [s.2]).flatten ++ 32 :: w := by
  unfold putW
  split <;> simp
theorem foldW_flat : ∀ (ws : List (List UInt8)) (b : Bool) (s : List (List UInt8) × List UInt8), ((foldW b s ws).1 ++ [(foldW b s ws).2]).flatten = (s.1 ++ [s.2]).flatten ++ ws.flatMap (fun w => 32 :: w)
  | [], b, s => by simp [foldW]
  | w :: ws, b, s => by
    rw [foldW, foldW_flat ws false, putW_flat]; simp
theorem splitSp_join (l : List UInt8) : (splitSp l).flatMap (fun w => 32 :: w) = 32 :: l := by
  induction l with
  | nil => rfl
  | cons c r ih =>
    unfold splitSp
    by_cases h : c = 32
    · rw [if_pos h, h]; simp [ih]
    · rw [if_neg h]
      cases hs : splitSp r with
      | nil => exact absurd hs (splitSp_ne r)
      | cons w ws => rw [hs] at ih; simp at ih ⊢; exact ih
theorem linesF_flat (x : Fld) : (linesF x).flatten = textF x := by
  unfold linesF textF
  by_cases hb : x.body.data.toList = []
  · rw [if_pos hb, if_pos hb]; simp
  · rw [if_neg hb, if_neg hb]
    simp only
    rw [foldW_flat, splitSp_join]; simp
/-- First a line of one's own, then lines that begin with a blank. -/
def Shape (h : List UInt8) (ls : List (List UInt8)) : Prop := ∃ t r, ls = (h ++ t) :: r ∧ ∀ l ∈ r, ∃ u, l = 32 :: u
theorem Shape.put {h : List UInt8} {s : List (List UInt8) × List UInt8} (hs : Shape h (s.1 ++ [s.2])) (b : Bool) (w : List UInt8) : Shape h ((putW b s w).1 ++ [(putW b s w).2]) := by
  obtain ⟨t, r, e, hr⟩ := hs
  unfold putW
  split
  · refine ⟨t, r ++ [32 :: w], by rw [e]; rfl, fun l hl => ?_⟩
    rcases List.mem_append.1 hl with hl | hl
    · exact hr l hl
    · exact ⟨w, by simpa using hl⟩
  · obtain ⟨d, c⟩ := s
    simp only at e ⊢
    cases d with
    | nil =>
      simp only [List.nil_append, List.cons.injEq] at e
      refine ⟨t ++ 32 :: w, r, by rw [e.1, ← e.2]; simp, hr⟩
    | cons a d =>
      simp only [List.cons_append, List.cons.injEq] at e
      have hc : c ∈ r := by rw [← e.2]; simp
      obtain ⟨u, hu⟩ := hr c hc
      refine ⟨t, d ++ [c ++ 32 :: w], by rw [e.1]; rfl, fun l hl => ?_⟩
      rcases List.mem_append.1 hl with hl | hl
      · exact hr l (by rw [← e.2]; simp [hl])
      · simp only [List.mem_cons, List.not_mem_nil, or_false] at hl
        exact ⟨u ++ 32 :: w, by rw [hl, hu]; rfl⟩
theorem Shape.fold {h : List UInt8} : ∀ (ws : List (List UInt8)) (b : Bool) (s : List (List UInt8) × List UInt8), Shape h (s.1 ++ [s.2]) → Shape h ((foldW b s ws).1 ++ [(foldW b s ws).2])
  | [], _, _, hs => hs
  | w :: ws, b, s, hs => by rw [foldW]; exact Shape.fold ws false _ (hs.put b w)
theorem linesF_shape (x : Fld) : Shape (headL x) (linesF x) := by
  unfold linesF
  by_cases hb : x.body.data.toList = []
  · rw [if_pos hb]; exact ⟨[], [], by simp, fun l hl => by cases hl⟩
  · rw [if_neg hb]; exact Shape.fold _ _ _ ⟨[], [], by simp, fun l hl => by cases hl⟩
theorem right_parts {x : Fld} (h : right x = true) : (1 ≤ x.name.size ∧ x.name.size ≤ 64) ∧ (∀ c ∈ x.name.data.toList, nameC c = true) ∧ (∀ c ∈ x.body.data.toList, bodyC c = true) ∧ ends x.body.data.toList = true := by
  unfold right okName okBody at h
  simp only [Bool.and_eq_true, decide_eq_true_eq, List.all_eq_true] at h
  obtain ⟨⟨h1, h2⟩, h3, h4⟩ := h
  rw [len_data] at h1
  exact ⟨h1, h2, h3, h4⟩
theorem nameC_parts {c : UInt8} (h : nameC c = true) : c ≠ 13 ∧ c ≠ 58 ∧ isBlank c = false := by
  unfold nameC at h
  rw [decide_eq_true_eq] at h
  refine ⟨fun e => ?_, fun e => ?_, ?_⟩
  · subst e; exact absurd h.1 (by decide)
  · subst e; exact h.2.2 rfl
  · unfold isBlank
    rw [Bool.or_eq_false_iff]
    exact ⟨by rw [beq_eq_false_iff_ne]; intro e; subst e; exact absurd h.1 (by decide), by rw [beq_eq_false_iff_ne]; intro e; subst e; exact absurd h.1 (by decide)⟩
theorem bodyC_parts {c : UInt8} (h : bodyC c = true) : c ≠ 13 ∧ c ≠ 10 := by
  unfold bodyC at h
  rw [decide_eq_true_eq] at h
  exact ⟨fun e => by subst e; exact h.2.2 rfl, fun e => by subst e; exact h.2.1 rfl⟩
theorem text_nocr {x : Fld} (h : right x = true) : NoCR (textF x) := by
  obtain ⟨_, h2, h3, _⟩ := right_parts h
  intro c hc
  unfold textF headL at hc
  simp only [List.mem_append, List.mem_cons, List.not_mem_nil, or_false] at hc
  rcases hc with (hc | rfl) | hc
  · exact (nameC_parts (h2 c hc)).1
  · decide
  · split at hc
    · cases hc
    · rcases List.mem_cons.1 hc with rfl | hc
      · decide
      · exact (bodyC_parts (h3 c hc)).1
theorem lines_ok {x : Fld} (h : right x = true) : ∀ l ∈ linesF x, l ≠ [] ∧ NoCR l := by
  intro l hl
  refine ⟨?_, fun c hc => text_nocr h c (by rw [← linesF_flat]; exact List.mem_flatten.2 ⟨l, hl, hc⟩)⟩
  obtain ⟨t, r, e, hr⟩ := linesF_shape x
  rw [e] at hl
  rcases List.mem_cons.1 hl with rfl | hl
  · simp [headL]
  · obtain ⟨u, rfl⟩ := hr l hl; simp
theorem name_head {x : Fld} (h : right x = true) : ∃ c r, x.name.data.toList = c :: r ∧ isBlank c = false := by
  obtain ⟨⟨h1, _⟩, h2, _⟩ := right_parts h
  cases hn : x.name.data.toList with
  | nil => have := len_data x.name; rw [hn] at this; simp at this; omega
  | cons c r => exact ⟨c, r, rfl, (nameC_parts (h2 c (by rw [hn]; simp))).2.2⟩
theorem first_blank {x : Fld} (h : right x = true) (t : List UInt8) : blankHead (headL x ++ t) = false := by
  obtain ⟨c, r, e, hc⟩ := name_head h
  unfold headL
  rw [e]; exact hc
/-- The lines of a row of fields, put together again. -/
theorem groups_fold : ∀ (r : List (List UInt8)) (f : List UInt8) (ls : List (List UInt8)), (∀ l ∈ r, ∃ u, l = 32 :: u) → groups (f :: (r ++ ls)) = groups ((f ++ r.flatten) :: ls)
  | [], f, ls, _ => by simp
  | l :: r, f, ls, h => by
    obtain ⟨u, rfl⟩ := h l (by simp)
    have ih := groups_fold r (f ++ 32 :: u) ls (fun x hx => h x (by simp [hx]))
    rw [List.cons_append, groups_join _ _ _ rfl, ih]
    simp
theorem groups_lines : ∀ (l : List Fld), (∀ x ∈ l, right x = true) → groups (l.flatMap linesF) = l.map textF ∧ (∀ f, (l.flatMap linesF).head? = some f → blankHead f = false)
  | [], _ => ⟨rfl, fun f h => by cases h⟩
  | x :: l, h => by
    obtain ⟨ih1, ih2⟩ := groups_lines l (fun y hy => h y (by simp [hy]))
    have hx := h x (by simp)
    obtain ⟨t, r, e, hr⟩ := linesF_shape x
    have hflat := linesF_flat x
    rw [e] at hflat
    simp only [List.flatten_cons] at hflat
    have e2 : (x :: l).flatMap linesF = (headL x ++ t) :: (r ++ l.flatMap linesF) := by rw [List.flatMap_cons, e]; rfl
    rw [e2]
    refine ⟨?_, fun f hf => ?_⟩
    · rw [groups_fold r _ _ hr, hflat, groups_end _ _ ih2, ih1]; rfl
    · simp at hf; subst hf; exact first_blank hx t
theorem takeWhile_colon : ∀ (n r : List UInt8), (∀ c ∈ n, c ≠ 58) → nameOf (n ++ 58 :: r) = n
  | [], r, _ => by simp [nameOf]
  | a :: n, r, h => by
    have ha : a ≠ 58 := h a (by simp)
    have ih := takeWhile_colon n r (fun c hc => h c (by simp [hc]))
    unfold nameOf at *
    rw [List.cons_append, List.takeWhile_cons, if_pos (by simpa using ha), ih]
theorem trim_same {b : List UInt8} (h : ends b = true) : Lib.trimS b [32, 9] = b := (trim_ends b).2 h
theorem trim_blank {b : List UInt8} (h : ends b = true) : Lib.trimS (32 :: b) [32, 9] = b := by
  have e : (fun c : UInt8 => ([32, 9] : List UInt8).contains c) = isBlank := funext blanks_has
  have h0 := trim_same h
  unfold Lib.trimS Lib.trimLeftS Lib.trimRightS at *
  rw [e] at *
  cases b with
  | nil => rfl
  | cons c r =>
    have hne : ((c :: r).reverse.dropWhile isBlank) ≠ [] := by
      intro e2; rw [e2] at h0; simp at h0
    have e3 : (32 :: (c :: r)).reverse.dropWhile isBlank = (c :: r).reverse.dropWhile isBlank ++ [32] := by
      rw [List.reverse_cons, List.dropWhile_append, if_neg (by simpa using hne)]
    rw [e3, List.reverse_append]
    show List.dropWhile isBlank (32 :: _) = _
    rw [List.dropWhile_cons, if_pos (by decide)]; exact h0
theorem fld_ext {x y : Fld} (h1 : x.name.data.toList = y.name.data.toList) (h2 : x.body.data.toList = y.body.data.toList) : x = y := by
  obtain ⟨⟨⟨a⟩⟩, ⟨⟨b⟩⟩⟩ := x
  obtain ⟨⟨⟨c⟩⟩, ⟨⟨d⟩⟩⟩ := y
  simp only at h1 h2
  subst h1; subst h2; rfl
theorem text_fld {x : Fld} (h : right x = true) (u : List UInt8) (hu : Lib.trimS u [32, 9] = x.body.data.toList) : fldOf (headL x ++ u) = x ∧ okF (headL x ++ u) = true := by
  obtain ⟨_, h2, h3, h4⟩ := right_parts h
  have e : headL x ++ u = x.name.data.toList ++ 58 :: u := by unfold headL; simp
  have hn : nameOf (headL x ++ u) = x.name.data.toList := by rw [e]; exact takeWhile_colon _ _ (fun c hc => (nameC_parts (h2 c hc)).2.1)
  have hb : bodyOf (headL x ++ u) = x.body.data.toList := by
    unfold bodyOf
    rw [hn, e, List.drop_append, List.drop_of_length_le (Nat.le_succ _), Nat.add_sub_cancel_left]
    exact hu
  have hf : fldOf (headL x ++ u) = x := by
    unfold fldOf
    rw [hn, hb]
    exact fld_ext (str_toList _) (str_toList _)
  refine ⟨hf, ?_⟩
  unfold okF
  rw [hf, h, hn, e, Bool.and_true]
  simp
theorem textF_fld {x : Fld} (h : right x = true) : fldOf (textF x) = x ∧ okF (textF x) = true := by
  unfold textF
  refine text_fld h _ ?_
  obtain ⟨_, _, _, h4⟩ := right_parts h
  split
  · rename_i hb; rw [hb]; rfl
  · exact trim_blank h4
theorem printE_zero {l : List Fld} (h : printE l = 0) : (∀ x ∈ l, right x = true) ∧ l.length ≤ 64 ∧ l.any longF = false := by
  unfold printE at h
  split at h
  · cases h
  · rename_i h1
    split at h
    · cases h
    · rename_i h2
      split at h
      · cases h
      · rename_i h3
        refine ⟨List.all_eq_true.1 (by simpa using h1), by omega, by simpa using h3⟩
theorem flat_lines : ∀ l : List Fld, l.flatMap foldS = (l.flatMap linesF).flatMap crlf
  | [] => rfl
  | x :: l => by rw [List.flatMap_cons, List.flatMap_cons, List.flatMap_append, flat_lines l]; rfl
theorem all_lines {l : List Fld} (h : ∀ x ∈ l, right x = true) : ∀ ln ∈ l.flatMap linesF, ln ≠ [] ∧ NoCR ln := by
  intro ln hl
  obtain ⟨x, hx, hl⟩ := List.mem_flatMap.1 hl
  exact lines_ok (h x hx) ln hl
theorem all_short {l : List Fld} (h : l.any longF = false) : ∀ ln ∈ l.flatMap linesF, ln.length ≤ 998 := by
  intro ln hl
  obtain ⟨x, hx, hl⟩ := List.mem_flatMap.1 hl
  rcases Nat.lt_or_ge 998 ln.length with hlt | hge
  · obtain ⟨j, hj⟩ := List.getElem?_of_mem hl
    have := any_is_f (l := l) (i := (List.getElem?_of_mem hx).choose) (List.getElem?_of_mem hx).choose_spec (longF_at hj hlt)
    rw [h] at this; cases this
  · exact hge
/-- What was printed is parsed, whatever stands behind. -/
theorem parse_print {l : List Fld} (h : printE l = 0) (more : List UInt8) : parseE (printS l ++ more) = 0 ∧ parseL (printS l ++ more) = l ∧ parseR (printS l ++ more) = more := by
  obtain ⟨h1, h2, h3⟩ := printE_zero h
  have hs : scan [] (printS l ++ more) = some (l.flatMap linesF, more) := by
    rw [printS_ok h, flat_lines, List.append_assoc]
    exact scan_lines _ _ (all_lines h1)
  obtain ⟨g1, g2⟩ := groups_lines l h1
  have hg : (groups (l.flatMap linesF)).map fldOf = l := by
    rw [g1, List.map_map]
    conv => rhs; rw [← List.map_id l]
    exact List.map_congr_left (fun x hx => (textF_fld (h1 x hx)).1)
  have := parse_ok hs (by
      rw [List.any_eq_false]
      intro ln hl
      have := all_short h3 ln hl
      unfold long1
      simp only [decide_eq_true_eq]; omega) (by
      cases hh : (l.flatMap linesF).head? with
      | none => rfl
      | some f => exact g2 f hh) (by
      rw [g1, List.all_eq_true]
      intro t ht
      obtain ⟨x, hx, rfl⟩ := List.mem_map.1 ht
      exact (textF_fld (h1 x hx)).2) (by rw [g1, List.length_map]; omega)
  rw [hg] at this
  exact this
end Go.Proofs.YtkphllolghlmeaaDoor
