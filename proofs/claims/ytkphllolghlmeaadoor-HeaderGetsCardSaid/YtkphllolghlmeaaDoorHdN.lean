/- header.folded: a field's lines. -/
import Derived.Test.YtkphllolghlmeaaDoorHdM
import Derived.Deep.LoopGhost
namespace Go.Proofs.YtkphllolghlmeaaDoor
open Go.RowKit

/-- What folded's loop keeps. -/
def FoldK (x : Fld) (i n : Nat) (s : List (List UInt8) × List UInt8) : Prop :=
  foldW (decide (i = 0)) s ((splitSp x.body.data.toList).drop i) = foldW true ([], headL x) (splitSp x.body.data.toList) ∧
  s.2.length + (((splitSp x.body.data.toList).drop i).map List.length).sum + ((splitSp x.body.data.toList).drop i).length ≤ x.name.size + x.body.size + 2 ∧ n ≤ i + 1
theorem FoldK.zero (x : Fld) : FoldK x 0 1 ([], headL x) := by
  refine ⟨by simp, ?_, Nat.le_refl _⟩
  have := splitSp_sum x.body.data.toList
  rw [len_data] at this
  have h0 := headL_len x
  simp only [List.drop_zero]; omega
theorem FoldK.bound {x : Fld} {i n : Nat} {s : List (List UInt8) × List UInt8} (h : FoldK x i n s) : s.2.length ≤ x.name.size + x.body.size + 2 := by have := h.2.1; omega
theorem FoldK.succ {x : Fld} {i n n' : Nat} {s : List (List UInt8) × List UInt8} {l : List UInt8} (h : FoldK x i n s) (hl : (splitSp x.body.data.toList)[i]? = some l) (hn : n' ≤ n + 1) : FoldK x (i + 1) n' (putW (decide (i = 0)) s l) := by
  obtain ⟨hi, rfl⟩ := List.getElem?_eq_some_iff.1 hl
  obtain ⟨h1, h2, h3⟩ := h
  rw [List.drop_eq_getElem_cons hi] at h1 h2
  rw [foldW] at h1
  refine ⟨by rw [decide_eq_false (Nat.succ_ne_zero i)]; exact h1, ?_, by omega⟩
  have := putW_len (decide (i = 0)) s (splitSp x.body.data.toList)[i]
  simp only [List.map_cons, List.sum_cons, List.length_cons] at h2
  omega
theorem FoldK.done {x : Fld} {i n : Nat} {s : List (List UInt8) × List UInt8} (h : FoldK x i n s) (hi : (splitSp x.body.data.toList).length ≤ i) (hb : x.body.size ≠ 0) : s.1 ++ [s.2] = linesF x := by
  have h1 := h.1
  rw [List.drop_of_length_le hi, foldW] at h1
  have hb2 : x.body.data.toList ≠ [] := fun e => hb (by rw [← len_data, e]; rfl)
  unfold linesF
  rw [if_neg hb2, h1]
theorem splitSp_len (l : List UInt8) : (splitSp l).length ≤ l.length + 1 := by
  have := splitSp_sum l; omega
theorem len_le_sum {ls : List (List UInt8)} {w : List UInt8} (h : w ∈ ls) : w.length ≤ (ls.map List.length).sum := by
  induction ls with
  | nil => cases h
  | cons a r ih =>
    simp only [List.map_cons, List.sum_cons]
    rcases List.mem_cons.1 h with rfl | h
    · omega
    · have := ih h; omega
theorem head_str (x : Fld) : x.name ++ ⟨#[58]⟩ = str (headL x) := by
  show x.name ++ str [58] = _
  rw [← str_data x.name, str_add]; simp [headL, str]
theorem one_own {w : World} {g : Nat} {x : Fld} (h : Blk w g #[.string (x.name ++ ⟨#[58]⟩)] 9) : Own w 9 1 (some ⟨g, 0, none⟩) 1 1 (strsC [headL x]) := by
  rw [head_str] at h
  exact Own.of_blk h rfl (Nat.le_refl _) (by unfold maxLen; omega) rfl rfl
theorem linesF_nil {x : Fld} (h : x.body.size = 0) : linesF x = [headL x] := by
  have hb : x.body.data.toList = [] := List.eq_nil_of_length_eq_zero (by rw [len_data, h])
  unfold linesF; rw [if_pos hb]
theorem LinesAt.first {w w1 : World} {x : Fld} {S : Nat} (h : Chg NoB (((w.alloc (.cells #[.string x.name, .string x.body] 38)).alloc (.cells #[.string (x.name ++ ⟨#[58]⟩)] 9)).alloc (.cells #[.slice (some ⟨w.heap.size + 1, 0, none⟩) 1 1] 48)) w1)
    (hS : S = (((w.alloc (.cells #[.string x.name, .string x.body] 38)).alloc (.cells #[.string (x.name ++ ⟨#[58]⟩)] 9)).alloc (.cells #[.slice (some ⟨w.heap.size + 1, 0, none⟩) 1 1] 48)).heap.size) :
    LinesAt w1 w.heap.size S (w.heap.size + 1 + 1) 1 ([], headL x) := by
  have hs : S = w.heap.size + 1 + 1 + 1 := by rw [hS]; simp
  have b1 := Blk.new2 w (.cells #[.string x.name, .string x.body] 38) #[.string (x.name ++ ⟨#[58]⟩)] 9
  have b2 := Blk.new2 (w.alloc (.cells #[.string x.name, .string x.body] 38)) (.cells #[.string (x.name ++ ⟨#[58]⟩)] 9) #[.slice (some ⟨w.heap.size + 1, 0, none⟩) 1 1] 48
  rw [World.size_alloc] at b2
  refine ⟨rfl, ⟨by omega, by omega⟩, w.heap.size + 1, 1, b2.keep h not_false, one_own ((b1.alloc _).keep h not_false), ⟨by omega, by omega⟩, by omega⟩
theorem splitSp_at {l w : List UInt8} {i : Nat} (h : (splitSp l)[i]? = some w) : w.length ≤ l.length + 1 := by
  have := splitSp_sum l
  have h2 : w.length ≤ ((splitSp l).map List.length).sum := len_le_sum (List.mem_of_getElem? h)
  omega
theorem split_any (w : World) (s : ByteArray) (hs : s.size ≤ 1000000) (hm : ML w) :
    Calls Tryd.prog 34 #[.string s, .string ⟨#[32]⟩] w fun e w' => ∃ S N, e = .returned (.slice (some ⟨S, 0, none⟩) N N) ∧ Hid (N = (splitSp s.data.toList).length) ∧ N ≤ s.size + 1 ∧ Hid (S = w.heap.size) ∧
      Hid (Blk w' S (strsC (splitSp s.data.toList)).toArray 9) ∧ Hid (Chg NoB w w') := by
  obtain ⟨m, hm⟩ := hm
  refine (Tryd.strings_Split s ⟨#[32]⟩ m w (by omega) hm (by decide)).mono fun e w' h => ?_
  rw [splitB_sp, splitB_count] at h
  obtain ⟨h1, h2⟩ := h
  refine ⟨w.heap.size, _, h1, hid rfl, by have := splitSp_len s.data.toList; rw [len_data] at this; exact this, hid rfl, hid ?_, hid ?_⟩
  · rw [h2, List.map_map]
    exact Blk.new w _ _
  · rw [h2]; exact (Chg.refl NoB w).alloc _
set_option maxRecDepth 100000 in
set_option maxHeartbeats 4000000 in
theorem hd_folded (w : World) (x : Fld) (hn : x.name.size ≤ 1000000) (hb : x.body.size ≤ 1000000) (hm : ML w) :
    Calls Tryd.prog 22 #[.agg #[.string x.name, .string x.body]] w fun e w' => ∃ A c, e = .returned (.slice A (linesF x).length c) ∧ Own w' 9 1 A (linesF x).length c (strsC (linesF x)) ∧ Chg NoB w w' := by
  have hsz : (x.name ++ ⟨#[58]⟩ : ByteArray).size = x.name.size + 1 := ByteArray.size_append
  by_cases hz : x.body.size = 0
  · have t1 : (x.body.toList == []) = true := by rw [ByteArray.toList_eq, beq_iff_eq]; exact List.eq_nil_of_length_eq_zero (by rw [len_data, hz])
    have t1' : x.body.toList.isEmpty = true := by rw [List.isEmpty_iff]; simpa using t1
    go_enter Tryd.func22, Tryd.ntmps22
    have HL := hid (linesF_nil hz)
    go_wp2
    refine bodyPost_ret (results_tmp rfl _ _ _) rfl ?_
    rw [HL.out]
    refine ⟨some ⟨w.heap.size + 1, 0, none⟩, 1, rfl, ?_, (((Chg.refl NoB w).alloc _).alloc _).alloc _⟩
    exact one_own ((Blk.new2 w (.cells #[.string x.name, .string x.body] 38) #[.string (x.name ++ ⟨#[58]⟩)] 9).alloc _)
  · have t1 : (x.body.toList == []) = false := by
      rw [ByteArray.toList_eq, beq_eq_false_iff_ne]; intro e; have := congrArg List.length e; rw [len_data, List.length_nil] at this; omega
    have t1' : x.body.toList.isEmpty = false := by rw [← Bool.not_eq_true, List.isEmpty_iff]; simpa using t1
    go_enter Tryd.func22, Tryd.ntmps22
    have HM : Hid (ML (((w.alloc (.cells #[.string x.name, .string x.body] 38)).alloc (.cells #[.string (x.name ++ ⟨#[58]⟩)] 9)).alloc (.cells #[.slice (some ⟨w.heap.size + 1, 0, none⟩) 1 1] 48))) :=
      hid (hm.keep ((((Chg.refl NoB w).alloc _).alloc _).alloc _) not_false)
    have HX : Hid (∀ (i : Nat) (l : List UInt8), (splitSp x.body.data.toList)[i]? = some l → l.length ≤ 1000001) := hid (fun i l h => by have := splitSp_at h; rw [len_data] at this; omega)
    go_wp2_with (first
      | ((with_reducible (go_at_call 34; refine (split_any _ x.body hb HM.out).mono ?_)); rintro e w1 ⟨S, N, rfl, hNE, hNb, hS, hB1, hC1⟩; have HL1 := hid (LinesAt.first hC1.out hS.out); have HS1 := hid (hB1.out.lt); have HC1 : Hid (Chg NoB w w1) := hid (((((Chg.refl NoB w).alloc _).alloc _).alloc _).trans hC1.out (fun _ _ h => h)); clear hC1 hS HM hm))
    generalize w.heap.size + 1 + 1 = Lq at HL1 ⊢
    go_loopg [5, 6, 19] N (fun gk _ _ v wr => ∃ (i n : Nat) (s : List (List UInt8) × List UInt8), v = .int .i64 i ∧ i + gk = N ∧ n ≤ 3000000 ∧ Hid (FoldK x i n s) ∧ Hid (LinesAt wr w.heap.size S Lq n s) ∧ Hid (Blk wr S (strsC (splitSp x.body.data.toList)).toArray 9) ∧ Hid (Chg NoB w wr))
    case atStart => exact ⟨0, 1, _, rfl, by omega, by omega, hid (FoldK.zero x), HL1, hB1, HC1⟩
    case round =>
      obtain ⟨i, n, s, rfl, hik, hn3, HK, HL, HB, HC⟩ := hrel
      clear HL1 hB1 HC1 HS1
      by_cases hlt : i < N
      · have t2 : decide ((i : Int) < (N : Int)) = true := decide_eq_true (by omega)
        have t3 : decide (i < N) = true := decide_eq_true hlt
        have i0 : (0 : Int) ≤ (i : Int) := by omega
        have i1 : (i : Int) < (N : Int) := by omega
        obtain ⟨l, hl⟩ : ∃ l, (splitSp x.body.data.toList)[i]? = some l := ⟨_, List.getElem?_eq_getElem (by rw [← hNE.out]; exact hlt)⟩
        have HLW := hid hl
        have hlen := HX.out i l hl
        have kc : wr.cell? ⟨S, i, none⟩ = some (.string (str l)) := by rw [HB.out.cell]; simpa using strsC_get hl
        have hls : (str l).size ≤ 1000001 := by rw [str_size]; exact hlen
        clear hl
        have hnN : n ≤ 2000000 := by have := HK.out.2.2; omega
        have hsb : s.2.length ≤ 3000000 := by have := HK.out.bound; omega
        by_cases h0 : i = 0
        · have t4 : ((i : Int) == 0) = true := by rw [beq_iff_eq]; omega
          have HD := hid (decide_eq_true h0)
          clear h0
          go_wp2_with (first
            | ((with_reducible (go_at_call 33; refine (put_any wr _ S _ n s true (str l) HL.out hn3 hsb hls HB.out.lt).mono ?_)); rintro e w1 ⟨rfl, ⟨n', hn', HL'⟩, HC'⟩))
          go_roundg (gk - 1)
          case measure => omega
          case rel =>
            have hk := HK.out.succ HLW.out hn'
            rw [HD.out] at hk
            rw [str_toList] at HL'
            exact ⟨i + 1, n', _, by go_num, by omega, by omega, hid hk, hid HL', hid (HB.out.keep HC' (fun e => e.2 rfl)), hid (HC.out.trans HC' (fun i hi e => by have : w.heap.size ≤ i := e.1; omega))⟩
        · have t4 : ((i : Int) == 0) = false := by rw [beq_eq_false_iff_ne]; omega
          have HD := hid (decide_eq_false h0)
          clear h0
          go_wp2_with (first
            | ((with_reducible (go_at_call 33; refine (put_any wr _ S _ n s false (str l) HL.out hn3 hsb hls HB.out.lt).mono ?_)); rintro e w1 ⟨rfl, ⟨n', hn', HL'⟩, HC'⟩))
          go_roundg (gk - 1)
          case measure => omega
          case rel =>
            have hk := HK.out.succ HLW.out hn'
            rw [HD.out] at hk
            rw [str_toList] at HL'
            exact ⟨i + 1, n', _, by go_num, by omega, by omega, hid hk, hid HL', hid (HB.out.keep HC' (fun e => e.2 rfl)), hid (HC.out.trans HC' (fun i hi e => by have : w.heap.size ≤ i := e.1; omega))⟩
      · have t2 : decide ((i : Int) < (N : Int)) = false := decide_eq_false (by omega)
        have t3 : decide (i < N) = false := decide_eq_false hlt
        obtain ⟨e0, e1, g, c, hb0, ho, hg, hne⟩ := HL.out
        have c0 : wr.cell? ⟨Lq, 0, none⟩ = some (.slice (some ⟨g, 0, none⟩) n c) := hb0.cell 0
        have HO := hid ho
        have HD := hid (HK.out.done (by rw [← hNE.out]; omega) hz)
        have HE := hid e0
        clear ho e0 hb0
        go_wp2
        refine bodyPost_ret (results_tmp rfl _ _ _) rfl ?_
        refine ⟨some ⟨g, 0, none⟩, c, ?_, ?_, HC.out⟩
        · rw [← HD.out, List.length_append, ← show n = s.1.length + [s.2].length from HE.out]; rfl
        · rw [← HD.out, List.length_append, ← show n = s.1.length + [s.2].length from HE.out]; exact HO.out
end Go.Proofs.YtkphllolghlmeaaDoor
