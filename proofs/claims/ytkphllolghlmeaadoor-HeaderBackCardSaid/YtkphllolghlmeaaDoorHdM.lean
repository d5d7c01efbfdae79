/- header.folded: the closure that lays a word, and the whole. -/
import Derived.Test.YtkphllolghlmeaaDoorHdL
import Derived.Lib.Split
namespace Go.Proofs.YtkphllolghlmeaaDoor
open Go.RowKit
set_option linter.unusedVariables false

theorem occ_one (s : List UInt8) (c : UInt8) (j : Nat) : Lib.occAt s [c] j = (s[j]? == some c) := by
  unfold Lib.occAt
  rw [show s[j]? = (s.drop j).head? by rw [List.head?_drop]]
  cases s.drop j with
  | nil => simp
  | cons a r =>
    simp only [List.isPrefixOf, List.head?_cons, Bool.and_true]
    rw [Bool.eq_iff_iff]
    simp only [beq_iff_eq, Option.some.injEq]
    exact eq_comm
theorem split_sp : ∀ (n : Nat) (s : List UInt8), s.length ≤ n → Lib.splitK [32] 0 (Lib.count s [32]) s = splitSp s := by
  intro n
  induction n with
  | zero =>
    intro s hs
    have : s = [] := List.eq_nil_of_length_eq_zero (by omega)
    subst this; rfl
  | succ n ih =>
    intro s hs
    rcases Lib.index_spec s [32] with ⟨h1, h2⟩ | ⟨i, h1, h2, h3, h4⟩
    · rw [Lib.count_miss h1]
      rw [splitSp_all s (fun j c hc e => by
        subst e
        have hj := (List.getElem?_eq_some_iff.1 hc).1
        have := h2 j (by omega)
        rw [occ_one, hc] at this; simp at this)]
      rfl
    · have hi : s[i]? = some 32 := by rw [occ_one] at h3; simpa using h3
      have hlt := (List.getElem?_eq_some_iff.1 hi).1
      rw [Lib.count_hit (by simp) h1, Nat.add_comm 1 _]
      have hm : ¬ (Lib.index s [32] == -1) = true := fun e => by have := beq_iff_eq.1 e; omega
      rw [Lib.splitK, if_neg hm, h1]
      simp only [Int.toNat_natCast, Nat.add_zero, List.length_cons, List.length_nil, Nat.zero_add]
      rw [ih _ (by rw [List.length_drop]; omega)]
      exact (splitSp_cut s i (fun j c hj hc e => by
        subst e
        have := h4 j hj
        rw [occ_one, hc] at this; simp at this) hi).symm
theorem splitB_sp (s : ByteArray) : Lib.splitB ⟨#[32]⟩ 0 (Lib.countB s ⟨#[32]⟩) s = (splitSp s.data.toList).map str := by
  have h := Lib.splitB_data ⟨#[32]⟩ 0 (Lib.countB s ⟨#[32]⟩) s
  have h2 := split_sp _ s.data.toList (Nat.le_refl _)
  rw [show (Lib.splitK (ByteArray.mk #[32]).data.toList 0 (Lib.countB s ⟨#[32]⟩) s.data.toList) = splitSp s.data.toList from h2] at h
  rw [← h, List.map_map]
  conv => lhs; rw [← List.map_id (Lib.splitB ⟨#[32]⟩ 0 (Lib.countB s ⟨#[32]⟩) s)]
  congr 1
theorem splitB_count (s : ByteArray) : Lib.countB s ⟨#[32]⟩ + 1 = (splitSp s.data.toList).length := by
  have key : ∀ (n : Nat) (s : List UInt8), s.length ≤ n → Lib.count s [32] + 1 = (splitSp s).length := by
    intro n
    induction n with
    | zero =>
      intro s hs
      have : s = [] := List.eq_nil_of_length_eq_zero (by omega)
      subst this; rfl
    | succ n ih =>
      intro s hs
      rcases Lib.index_spec s [32] with ⟨h1, h2⟩ | ⟨i, h1, h2, h3, h4⟩
      · rw [Lib.count_miss h1, splitSp_all s (fun j c hc e => by
          subst e
          have hj := (List.getElem?_eq_some_iff.1 hc).1
          have := h2 j (by omega)
          rw [occ_one, hc] at this; simp at this)]
        rfl
      · have hi : s[i]? = some 32 := by rw [occ_one] at h3; simpa using h3
        have hlt := (List.getElem?_eq_some_iff.1 hi).1
        rw [Lib.count_hit (by simp) h1, splitSp_cut s i (fun j c hj hc e => by
          subst e
          have := h4 j hj
          rw [occ_one, hc] at this; simp at this) hi]
        have := ih (s.drop (i + 1)) (by rw [List.length_drop]; omega)
        simp only [List.length_cons, List.length_nil, Nat.zero_add]; omega
  exact key _ s.data.toList (Nat.le_refl _)
/-- The library's variable MaxLen holds an int. -/
def ML (w : World) : Prop := ∃ m, w.cell? ⟨0, 0, none⟩ = some (.int .i64 m)
theorem ML.keep {F : Nat → Prop} {w w' : World} (h : ML w) (hc : Chg F w w') (hn : ¬ F 0) : ML w' := by
  obtain ⟨m, hm⟩ := h
  exact ⟨m, hc.cell hm hn⟩
theorem ML.lt {w : World} (h : ML w) : 0 < w.heap.size := by
  obtain ⟨m, hm⟩ := h
  exact World.block_lt_of_cell? w _ hm
/-- Blocks from B on. -/
def Ge (B : Nat) : Nat → Prop := fun k => B ≤ k
theorem Chg.ge {w w' : World} (h : Chg NoB w w') (B : Nat) : Chg (Ge B) w w' := h.mono (fun _ _ e => e.elim)
theorem Chg.of_ge {w w' : World} (h : Chg (Ge w.heap.size) w w') : Chg NoB w w' := h.mono (fun i hi e => by have : w.heap.size ≤ i := e; omega)
theorem Chg.ge_of {B : Nat} {F : Nat → Prop} {w w' : World} (h : Chg F w w') (hF : ∀ k, F k → B ≤ k) : Chg (Ge B) w w' := h.mono (fun k _ e => hF k e)
theorem ML.keepGe {B : Nat} {w w' : World} (h : ML w) (hc : Chg (Ge B) w w') (hB : 0 < B) : ML w' := h.keep hc (fun e => by have : B ≤ 0 := e; omega)
/-- .. but one. -/
def GeX (B S : Nat) : Nat → Prop := fun k => B ≤ k ∧ k ≠ S
theorem Chg.of_gex {S : Nat} {w w' : World} (h : Chg (GeX w.heap.size S) w w') : Chg NoB w w' := h.mono (fun i hi e => by have : w.heap.size ≤ i := e.1; omega)
/-- A row of texts. -/
def strsC (ls : List (List UInt8)) : List Value := ls.map (fun l => .string (str l))
theorem strsC_length (ls : List (List UInt8)) : (strsC ls).length = ls.length := by simp [strsC]
theorem strsC_append (a b : List (List UInt8)) : strsC (a ++ b) = strsC a ++ strsC b := by simp [strsC]
theorem strsC_get {ls : List (List UInt8)} {i : Nat} {l : List UInt8} (h : ls[i]? = some l) : (strsC ls)[i]? = some (.string (str l)) := by simp [strsC, h]
theorem strsC_one (ls : List (List UInt8)) : ∀ v ∈ strsC ls, v.oneCell' = true := by
  intro v hv
  simp only [strsC, List.mem_map] at hv
  obtain ⟨b, _, rfl⟩ := hv
  rfl
theorem strsC_last (d : List (List UInt8)) (c c' : List UInt8) : (strsC (d ++ [c])).set d.length (.string (str c')) = strsC (d ++ [c']) := by
  rw [strsC_append, strsC_append, List.set_append_right _ _ (by rw [strsC_length]; exact Nat.le_refl _), strsC_length, Nat.sub_self]
  rfl
theorem info_str : (Tryd.prog.info? 9).map (fun i => (i.zero, i.size, i.bytes)) = some (some (.string ⟨#[]⟩), 1, 16) := by kernel_rfl
/-- The lines that have been laid, in the captured variable. -/
def LinesAt (w : World) (B S L n : Nat) (s : List (List UInt8) × List UInt8) : Prop :=
  n = s.1.length + 1 ∧ (B ≤ L ∧ L ≠ S) ∧ ∃ g c, Blk w L #[.slice (some ⟨g, 0, none⟩) n c] 48 ∧ Own w 9 1 (some ⟨g, 0, none⟩) n c (strsC (s.1 ++ [s.2])) ∧ (B ≤ g ∧ g ≠ S) ∧ g ≠ L
theorem LinesAt.lt {w : World} {B S L n : Nat} {s : List (List UInt8) × List UInt8} (h : LinesAt w B S L n s) : L < w.heap.size := by
  obtain ⟨_, _, g, c, hb, _⟩ := h
  exact hb.lt
theorem LinesAt.keep {w w' : World} {B S L n : Nat} {s : List (List UInt8) × List UInt8} (h : LinesAt w B S L n s) (hc : Chg NoB w w') : LinesAt w' B S L n s := by
  obtain ⟨h1, h2, g, c, hb, ho, hg, hne⟩ := h
  exact ⟨h1, h2, g, c, hb.keep hc not_false, ho.keep hc (fun _ _ => not_false), hg, hne⟩
theorem space_str (wd : ByteArray) : (⟨#[32]⟩ : ByteArray) ++ wd = str (32 :: wd.data.toList) := by
  rw [← str_data wd]
  show str [32] ++ str _ = _
  rw [str_add, str_data]; rfl
set_option maxRecDepth 100000 in
set_option maxHeartbeats 4000000 in
theorem put_new (w : World) (B S L n : Nat) (s : List (List UInt8) × List UInt8) (wd : ByteArray) (h : LinesAt w B S L n s) (hn : n ≤ 3000000) (hs : s.2.length ≤ 3000000) (hw : wd.size ≤ 1000001) (hS : S < w.heap.size)
    (h1 : wd.size ≠ 0) (h2 : 78 < s.2.length + 1 + wd.size) :
    Calls Tryd.prog 33 #[.string wd, .bool false, .pointer (some ⟨L, 0, none⟩)] w fun e w' => e = .returned (.tuple #[]) ∧ LinesAt w' B S L (n + 1) (s.1 ++ [s.2], 32 :: wd.data.toList) ∧ Chg (GeX B S) w w' := by
  obtain ⟨e0, e1, g, c, hb, ho, hg, hne⟩ := h
  have c0 : w.cell? ⟨L, 0, none⟩ = some (.slice (some ⟨g, 0, none⟩) n c) := hb.cell 0
  have f0 : w.frozen? ⟨L, 0, none⟩ = false := hb.frozen 0
  obtain ⟨q, hq⟩ : ∃ q, q = str s.2 := ⟨_, rfl⟩
  have c1 : w.cell? ⟨g, n - 1, none⟩ = some (.string q) := ho.cell rfl (n - 1) _ (by rw [hq]; exact strsC_get (by rw [e0]; simp))
  have qs : q.size = s.2.length := by rw [hq, str_size]
  have i0 : (0 : Int) ≤ (n : Int) - 1 := by omega
  have i1 : (n : Int) - 1 < (n : Int) := by omega
  have t1 : wd.toList.isEmpty = false := by
    rw [ByteArray.toList_eq, ← Bool.not_eq_true, List.isEmpty_iff]; intro e; exact h1 (by rw [← len_data, e]; rfl)
  have t1' : (wd.toList == []) = false := by
    rw [ByteArray.toList_eq, beq_eq_false_iff_ne]; intro e; exact h1 (by rw [← len_data, e]; rfl)
  have t2 : decide (78 < (q.size : Int) + 1 + (wd.size : Int)) = true := decide_eq_true (by omega)
  have qb : q.size ≤ 3000000 := by omega
  have HO := hid ho
  have HB := hid hb
  have HN := hid e0
  have hsz : ((⟨#[32]⟩ : ByteArray) ++ wd).size = 1 + wd.size := ByteArray.size_append
  clear ho hb e0 hq qs h1 h2
  go_enter Tryd.func33, Tryd.ntmps33
  have m1 : n + 1 ≤ maxLen := by unfold maxLen; omega
  have m2 : (n + 1) * 16 ≤ 140737488355328 := by omega
  have hLlt := HB.out.lt
  have hws := hid hLlt
  clear hLlt
  go_wp2_with (first
    | ((with_reducible refine wpList_append_all rfl (.tmp 28) (.tmp 31) 48 48 rfl 9 (.string ⟨#[]⟩) 1 16 rfl info_str rfl (some ⟨g, 0, none⟩) n c rfl _ (HO.out.alloc _) (.slice (some ⟨w.heap.size, 0, none⟩) 1 1) rfl 1 [.string ((⟨#[32]⟩ : ByteArray) ++ wd)] ((Blk.new _ _ _).srcOf (e' := 9) rfl rfl (by simp [Value.oneCell'])) m1 m2 ?_); intro A' c' w2 ho2 hc2 hb2;
        have HB2 := hid ((HB.out.alloc _).keep hc2 (fun e => hne (by simpa [FA, blkOf] using e))); have k0 := HB2.out.cell 0; have k1 := HB2.out.frozen 0; simp only [List.getElem?_toArray, List.getElem?_cons_zero] at k0; have HO2 := hid ho2; have HC2 := hid hc2; have HG2 := hid hb2; clear ho2 hc2 hb2))
  obtain ⟨g2, rfl, hg2⟩ := HO2.out.addr (by omega)
  have hg3 : g2 = g ∨ g2 = w.heap.size + 1 := by
    have := HG2.out
    simpa [blkOf] using this
  have hLw := hws.out
  have hgw : g < w.heap.size := HO.out.lt rfl
  have hne2 : g2 ≠ L := by omega
  refine bodyPost_ret (results_none rfl _ _ _) rfl ?_
  refine ⟨rfl, ⟨by have := HN.out; simp only [List.length_append, List.length_cons, List.length_nil]; omega, e1, g2, c', HB2.out.set 0 _, ?_, ⟨by have := hg.1; omega, by have := hg.2; omega⟩, hne2⟩, ?_⟩
  · have := HO2.out.setOther ⟨L, 0, none⟩ (.slice (some ⟨g2, 0, none⟩) (n + 1) c') (fun e => hne2 (by simpa [blkOf] using e))
    rw [space_str] at this
    rw [strsC_append]
    exact this
  · exact ((((Chg.refl (GeX B S) w).alloc _).trans HC2.out (fun i hi e => (show g = i by simpa [FA, blkOf] using e) ▸ hg)).setCell ⟨L, 0, none⟩ _ (fun _ => e1))
set_option maxRecDepth 100000 in
set_option maxHeartbeats 4000000 in
theorem put_same (w : World) (B S L n : Nat) (s : List (List UInt8) × List UInt8) (first : Bool) (wd : ByteArray) (h : LinesAt w B S L n s) (hn : n ≤ 3000000) (hs : s.2.length ≤ 3000000) (hw : wd.size ≤ 1000001) (hS : S < w.heap.size)
    (h1 : first = true ∨ (first = false ∧ wd.size = 0) ∨ (first = false ∧ wd.size ≠ 0 ∧ ¬ 78 < s.2.length + 1 + wd.size)) :
    Calls Tryd.prog 33 #[.string wd, .bool first, .pointer (some ⟨L, 0, none⟩)] w fun e w' => e = .returned (.tuple #[]) ∧ LinesAt w' B S L n (s.1, s.2 ++ 32 :: wd.data.toList) ∧ Chg (GeX B S) w w' := by
  obtain ⟨e0, e1, g, c, hb, ho, hg, hne⟩ := h
  have c0 : w.cell? ⟨L, 0, none⟩ = some (.slice (some ⟨g, 0, none⟩) n c) := hb.cell 0
  obtain ⟨q, hq⟩ : ∃ q, q = str s.2 := ⟨_, rfl⟩
  have c1 : w.cell? ⟨g, n - 1, none⟩ = some (.string q) := ho.cell rfl (n - 1) _ (by rw [hq]; exact strsC_get (by rw [e0]; simp))
  have f1 : w.frozen? ⟨g, n - 1, none⟩ = false := ho.frozen rfl (n - 1) (by have := ho.cap.1; omega)
  have qs : q.size = s.2.length := by rw [hq, str_size]
  have i0 : (0 : Int) ≤ (n : Int) - 1 := by omega
  have i1 : (n : Int) - 1 < (n : Int) := by omega
  have qb : q.size ≤ 3000000 := by omega
  have hsz : ((⟨#[32]⟩ : ByteArray) ++ wd).size = 1 + wd.size := ByteArray.size_append
  have HF : Hid (q ++ (⟨#[32]⟩ ++ wd) = str (s.2 ++ 32 :: wd.data.toList)) := hid (by rw [hq, space_str, str_add])
  have HO := hid ho
  have HB := hid hb
  have HN := hid e0
  have tests : first = true ∨ (first = false ∧ wd.toList.isEmpty = true ∧ (wd.toList == []) = true) ∨ (first = false ∧ (wd.toList.isEmpty = false ∧ (wd.toList == []) = false) ∧ decide (78 < (q.size : Int) + 1 + (wd.size : Int)) = false) := by
    have hl := len_data wd
    rcases h1 with h | ⟨h, h2⟩ | ⟨h, h2, h3⟩
    · exact .inl h
    · have : wd.toList = [] := by rw [ByteArray.toList_eq]; exact List.eq_nil_of_length_eq_zero (by omega)
      exact .inr (.inl ⟨h, by rw [this]; rfl, by rw [this]; rfl⟩)
    · have : wd.toList ≠ [] := by rw [ByteArray.toList_eq]; intro e; rw [e] at hl; exact h2 hl.symm
      exact .inr (.inr ⟨h, ⟨by simpa using this, by simpa using this⟩, decide_eq_false (by omega)⟩)
  clear ho hb e0 hq qs h1
  rcases tests with rfl | ⟨rfl, t1, t2⟩ | ⟨rfl, ⟨t1, t2⟩, t3⟩
  all_goals
    go_enter Tryd.func33, Tryd.ntmps33
    go_wp2
    go_end0
    refine ⟨rfl, ⟨HN.out, e1, g, c, HB.out.setOther _ _ (fun e => hne e.symm), ?_, hg, hne⟩, (Chg.refl (GeX B S) w).setCell _ _ (fun _ => hg)⟩
    have := HO.out.set (n - 1) (.string (str (s.2 ++ 32 :: wd.data.toList)))
    rw [show n - 1 = s.1.length by have := HN.out; omega, strsC_last] at this
    rw [HF.out, show n - 1 = s.1.length by have := HN.out; omega]
    exact this
/-- A word laid, as the document says. -/
theorem put_any (w : World) (B S L n : Nat) (s : List (List UInt8) × List UInt8) (first : Bool) (wd : ByteArray) (h : LinesAt w B S L n s) (hn : n ≤ 3000000) (hs : s.2.length ≤ 3000000) (hw : wd.size ≤ 1000001) (hS : S < w.heap.size) :
    Calls Tryd.prog 33 #[.string wd, .bool first, .pointer (some ⟨L, 0, none⟩)] w fun e w' => e = .returned (.tuple #[]) ∧ (∃ n', n' ≤ n + 1 ∧ LinesAt w' B S L n' (putW first s wd.data.toList)) ∧ Chg (GeX B S) w w' := by
  have hl := len_data wd
  by_cases hc : first = false ∧ wd.data.toList ≠ [] ∧ 78 < s.2.length + 1 + wd.data.toList.length
  · have hp : putW first s wd.data.toList = (s.1 ++ [s.2], 32 :: wd.data.toList) := by unfold putW; rw [if_pos hc]
    rw [hp]
    obtain ⟨rfl, h2, h3⟩ := hc
    refine (put_new w B S L n s wd h hn hs hw hS (fun e => h2 (List.eq_nil_of_length_eq_zero (by omega))) (by rw [hl] at h3; exact h3)).mono fun e w' ⟨h1, h2, h3⟩ => ⟨h1, ⟨n + 1, Nat.le_refl _, h2⟩, h3⟩
  · have hp : putW first s wd.data.toList = (s.1, s.2 ++ 32 :: wd.data.toList) := by unfold putW; rw [if_neg hc]
    rw [hp]
    refine (put_same w B S L n s first wd h hn hs hw hS ?_).mono fun e w' ⟨h1, h2, h3⟩ => ⟨h1, ⟨n, Nat.le_succ _, h2⟩, h3⟩
    cases first
    · by_cases h0 : wd.size = 0
      · exact .inr (.inl ⟨rfl, h0⟩)
      · exact .inr (.inr ⟨rfl, h0, fun h => hc ⟨rfl, fun e => h0 (by rw [← hl, e]; rfl), by rw [hl]; exact h⟩⟩)
    · exact .inl rfl
end Go.Proofs.YtkphllolghlmeaaDoor
