/- header.Print. -/
import Derived.Test.YtkphllolghlmeaaDoorHdN
namespace Go.Proofs.YtkphllolghlmeaaDoor
open Go.RowKit

theorem own_ne {w : World} {B : Nat} {e T : TypeId} {v : Value} {n : Nat} {xs : List Value} {k : Nat} {cs : Array Value} {fr : Nat × Nat} (h : w.ownsRowF B e 1 v n xs) (hk : w.heap[k]? = some (.cells cs T fr)) (hT : T ≠ e) : v.ownBlock ≠ some k := Lib.ownBlock_neF h hk hT
theorem bld_chg {w : World} {B b : Nat} {bs : List Value} (h : Lib.IsBuilderF 47 5 B b bs w) {F : Nat → Prop} {w' : World} (hc : Chg F w w') (hb : ¬ F b) (hF : ∀ k cur fz, B ≤ k → w.heap[k]? = some (.cells cur 5 fz) → ¬ F k) : Lib.IsBuilderF 47 5 B b bs w' := by
  have key : ∀ p, Lib.BuilderAtF 47 5 B b p bs w → Lib.BuilderAtF 47 5 B b p bs w' := by
    rintro p ⟨h1, v, h2, h3, h4⟩
    refine ⟨h1, v, hc.keep hb h2, ?_, h4⟩
    refine ⟨h3.1, ?_⟩
    rcases h3.2 with h5 | ⟨g, cap, cur, fz, hv, hg, hh, rest⟩
    · exact .inl h5
    · exact .inr ⟨g, cap, cur, fz, hv, hg, hc.keep (hF g cur fz hg hh) hh, rest⟩
  exact h.elim (fun x => .inl (key _ x)) (fun x => .inr (key _ x))
theorem bld_keep {w : World} {B b : Nat} {bs : List Value} (h : Lib.IsBuilderF 47 5 B b bs w) {w' : World} (hc : Chg NoB w w') : Lib.IsBuilderF 47 5 B b bs w' := bld_chg h hc not_false (fun _ _ _ _ _ => not_false)
set_option maxHeartbeats 2000000 in
theorem writeString2 (B b S : Nat) (bs : List Value) (s : ByteArray) (w : World) (T : TypeId) (cs : Array Value) (fr : Nat × Nat) (h : Lib.IsBuilderF 47 5 B b bs w) (hlen : bs.length + s.size ≤ 140737488355328) (hBw : B ≤ w.heap.size)
    (hS : w.heap[S]? = some (.cells cs T fr)) (hT : T ≠ 5 ∧ T ≠ 47) :
    Calls Tryd.prog 23 #[.pointer (some ⟨b, 0, none⟩), .string s] w fun e w' => e = .returned (.tuple #[.int .i64 s.size, .nilIface]) ∧ Lib.IsBuilderF 47 5 B b (bs ++ Lib.strCells s) w' ∧ Chg (GeX B S) w w' := by
  have cc : Calls Tryd.prog 35 #[.pointer (some ⟨b, 0, none⟩)] w fun e w' => e = .returned (.tuple #[]) ∧ (Lib.BuilderAtF 47 5 B b (.pointer (some ⟨b, 0, none⟩)) bs w' ∧ Chg (GeX B S) w w') := by
    have hbS : ∀ p, Lib.BuilderAtF 47 5 B b p bs w → GeX B S b := by
      rintro p ⟨h1, v, h2, _⟩
      refine ⟨h1, fun e => ?_⟩
      subst e
      rw [hS] at h2
      simp only [Option.some.injEq, Obj.cells.injEq] at h2
      exact hT.2 h2.2.1
    rcases h with h | h
    · refine (copyCheck_fresh b w h.cell0 h.shape h.frozen0).mono ?_
      rintro e w' ⟨rfl, rfl⟩
      exact ⟨rfl, h.used _, (Chg.refl _ w).setCell _ _ (fun _ => hbS _ h)⟩
    · refine (copyCheck_used b w h.cell0).mono ?_
      rintro e w' ⟨rfl, rfl⟩
      exact ⟨rfl, h, Chg.refl _ _⟩
  obtain ⟨i0, hi, hz0, hz1, hz2⟩ := info_parts (show (Tryd.prog.info? 5).map (fun i => (i.zero, i.size, i.bytes)) = some (some (.int .u8 0), 1, 1) by kernel_rfl)
  clear h
  go_enter Tryd.func23, Tryd.ntmps23
  go_wp2_with (go_at_call 35; refine cc.mono ?_)
  rintro e w1 ⟨rfl, h1, hb1⟩
  obtain ⟨hB, v, hbk, hown, hne⟩ := h1
  have hS1 : w1.heap[S]? = some (.cells cs T fr) := hb1.keep (fun e => e.2 rfl) hS
  have hbne : b ≠ S := by
    rintro rfl
    rw [hS1] at hbk
    simp only [Option.some.injEq, Obj.cells.injEq] at hbk
    exact hT.2 hbk.2.1
  have hvS := own_ne hown hS1 hT.1
  have c0 : w1.cell? ⟨b, 0, none⟩ = some (.pointer (some ⟨b, 0, none⟩)) := by rw [Lib.cell_of_heap hbk]; rfl
  have c1 : w1.cell? ⟨b, 1, none⟩ = some v := by rw [Lib.cell_of_heap hbk]; rfl
  clear hS1
  go_wp2_with (at_builtin; refine Lib.wpList_append_own_stringF _ rfl _ _ 42 9 rfl B 5 i0 Tryd.underlying42 Tryd.underlying9 hi hz0 hz1 hz2 _ _ _ rfl hown s rfl ?c3 ?c4 ?c5 ?_)
  case c3 => unfold maxLen; omega
  case c4 => omega
  case c5 => have := hb1.size; omega
  intro v' w2 hown' hgrow _
  have hlt : b < w1.heap.size := by
    rcases Nat.lt_or_ge b w1.heap.size with h' | h'
    · exact h'
    · simp [Array.getElem?_eq_none h'] at hbk
  have hb2 : w2.heap[b]? = some (.cells #[.pointer (some ⟨b, 0, none⟩), v] 47 (0, 0)) := by
    rw [hgrow.block b hlt (fun e => hne e.symm)]
    exact hbk
  have d0 : w2.cell? ⟨b, 0, none⟩ = some (.pointer (some ⟨b, 0, none⟩)) := by rw [Lib.cell_of_heap hb2]; rfl
  have d1 : w2.cell? ⟨b, 1, none⟩ = some v := by rw [Lib.cell_of_heap hb2]; rfl
  have f1 : w2.frozen? ⟨b, 1, none⟩ = false := Lib.frozen_of_heap hb2 1
  obtain ⟨ao, n', cap, rfl⟩ : ∃ ao n' cap, v' = .slice ao n' cap := by
    rcases hown'.2 with ⟨hv, _⟩ | ⟨g, cap, cur, fz, hv, _⟩
    · exact ⟨_, _, _, hv⟩
    · exact ⟨_, _, _, hv⟩
  have hC2 : Chg (GeX B S) w1 w2 := Chg.of_grown hgrow (fun k hk _ => ⟨(hown.lt k hk).1, fun e => hvS (by rw [hk, e])⟩)
  go_wp2
  go_ret2
  refine ⟨rfl, .inr ?_, ?_⟩
  · exact Lib.BuilderAtF.put (T := 47) (e := 5) hB hb2 (bs' := bs ++ Lib.strCells s) (by simpa [Lib.strCells_length] using hown') (by decide)
  · exact (hb1.trans hC2 (fun _ _ h => h)).setCell ⟨b, 1, none⟩ _ (fun _ => ⟨hB, hbne⟩)
theorem strCells_eq (s : ByteArray) : Lib.strCells s = Lib.byteCells s.data.toList := rfl
theorem byteCells_append (a b : List UInt8) : Lib.byteCells (a ++ b) = Lib.byteCells a ++ Lib.byteCells b := by simp [Lib.byteCells]
/-- What lies behind i lines of the field at place k. -/
theorem longF_at {x : Fld} {i : Nat} {l : List UInt8} (h : (linesF x)[i]? = some l) (hl : 998 < l.length) : longF x = true := by
  unfold longF
  rw [decide_eq_true_eq]
  have key : ∀ (ls : List (List UInt8)) (j : Nat), ls[j]? = some l → l.length ≤ longest ls := by
    intro ls
    induction ls with
    | nil => intro j h; simp at h
    | cons a r ih =>
      intro j h
      cases j with
      | zero => simp at h; subst h; unfold longest; simp only [List.foldr_cons]; omega
      | succ j => have := ih j (by simpa using h); unfold longest at *; simp only [List.foldr_cons]; omega
  have := key _ _ h
  omega
def ShortTill (ls : List (List UInt8)) (i : Nat) : Prop := longest (ls.take i) ≤ 998
theorem ShortTill.succ {ls : List (List UInt8)} {i : Nat} {l : List UInt8} (h : ShortTill ls i) (hl : ls[i]? = some l) (hs : ¬ 998 < l.length) : ShortTill ls (i + 1) := by
  unfold ShortTill at *
  rw [List.take_add_one, hl, longest_append]
  simp only [Option.toList_some, longest_one]
  omega
theorem ShortTill.done {x : Fld} {i : Nat} (h : ShortTill (linesF x) i) (hi : (linesF x).length ≤ i) : longF x = false := by
  unfold ShortTill at h
  rw [List.take_of_length_le hi] at h
  unfold longF
  exact decide_eq_false (by omega)
theorem crlf_flat_succ {ls : List (List UInt8)} {i : Nat} {l : List UInt8} (hl : ls[i]? = some l) : (ls.take (i + 1)).flatMap crlf = (ls.take i).flatMap crlf ++ (l ++ [13, 10]) := by
  rw [List.take_add_one, hl]; simp [crlf]
theorem foldS_done {x : Fld} {i : Nat} (hi : (linesF x).length ≤ i) : ((linesF x).take i).flatMap crlf = foldS x := by
  rw [List.take_of_length_le hi]; rfl
theorem line_len {x : Fld} {i : Nat} {l : List UInt8} (h : (linesF x)[i]? = some l) (hz : x.name.size ≤ 1000000 ∧ x.body.size ≤ 1000000) : l.length ≤ 4000006 := by
  have h1 := foldS_len x
  have h2 : l.length ≤ (foldS x).length := by
    unfold foldS
    have := List.mem_of_getElem? h
    generalize linesF x = ls at this
    induction ls with
    | nil => cases this
    | cons a r ih =>
      simp only [List.flatMap_cons, List.length_append]
      rcases List.mem_cons.1 this with rfl | h
      · simp [crlf]; omega
      · have := ih h; omega
  omega
theorem part_len {x : Fld} (i : Nat) (hz : x.name.size ≤ 1000000 ∧ x.body.size ≤ 1000000) : (((linesF x).take i).flatMap crlf).length ≤ 4000006 := by
  have h1 := foldS_len x
  have h2 : (((linesF x).take i).flatMap crlf).length ≤ (foldS x).length := by
    unfold foldS
    conv => rhs; rw [← List.take_append_drop i (linesF x)]
    rw [List.flatMap_append, List.length_append]; omega
  omega
end Go.Proofs.YtkphllolghlmeaaDoor
