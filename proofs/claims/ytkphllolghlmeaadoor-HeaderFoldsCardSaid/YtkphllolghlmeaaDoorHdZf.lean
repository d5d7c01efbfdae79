/- HeaderFolds: the walk. -/
import Derived.Test.YtkphllolghlmeaaDoorHdZb
namespace Go.Proofs.YtkphllolghlmeaaDoor
open Go.RowKit
set_option linter.unusedVariables false

def foldT (x : Fld) (k : Nat) : List UInt8 := (headL x ++ x.body.data.toList.take k) ++ 13 :: 10 :: (x.body.data.toList.drop k ++ 13 :: 10 :: 13 :: 10 :: [])
theorem foldT_parse {x : Fld} {k : Nat} (h : right x = true) (hk : k < x.body.size) (hb : x.body.size ≤ 300) {c : UInt8} (hc : x.body.data.toList[k]? = some c) (hbl : isBlank c = true) :
    parseE (foldT x k) = 0 ∧ parseL (foldT x k) = [x] ∧ parseR (foldT x k) = [] := by
  obtain ⟨hnm, h2, h3, h4⟩ := right_parts h
  have hlen := len_data x.body
  have hd : x.body.data.toList.drop k = c :: x.body.data.toList.drop (k + 1) := by
    obtain ⟨hi, rfl⟩ := List.getElem?_eq_some_iff.1 hc
    exact List.drop_eq_getElem_cons hi
  have hne : x.body.data.toList ≠ [] := by intro e; rw [e] at hlen; simp at hlen; omega
  have nocr1 : NoCR (headL x ++ x.body.data.toList.take k) := by
    intro d hd2
    have := text_nocr h d
    unfold textF at this
    rw [if_neg hne] at this
    refine this ?_
    rcases List.mem_append.1 hd2 with hd2 | hd2
    · exact List.mem_append.2 (.inl hd2)
    · exact List.mem_append.2 (.inr (List.mem_cons.2 (.inr (List.mem_of_mem_take hd2))))
  have nocr2 : NoCR (x.body.data.toList.drop k) := fun d hd2 => (bodyC_parts (h3 d (List.mem_of_mem_drop hd2))).1
  have hs : scan [] (foldT x k) = some ([headL x ++ x.body.data.toList.take k, x.body.data.toList.drop k], []) := by
    have := scan_lines [headL x ++ x.body.data.toList.take k, x.body.data.toList.drop k] [] (fun l hl => by
      simp only [List.mem_cons, List.not_mem_nil, or_false] at hl
      rcases hl with rfl | rfl
      · exact ⟨by simp [headL], nocr1⟩
      · exact ⟨by rw [hd]; simp, nocr2⟩)
    rw [← this]
    unfold foldT
    simp [crlf]
  have hg : groups [headL x ++ x.body.data.toList.take k, x.body.data.toList.drop k] = [headL x ++ x.body.data.toList] := by
    rw [groups_join _ _ _ (by rw [hd]; exact hbl), groups_one, List.append_assoc, List.take_append_drop]
  have ht := text_fld h x.body.data.toList (trim_same h4)
  have := parse_ok hs (by
      rw [List.any_eq_false]
      intro l hl
      unfold long1
      simp only [decide_eq_true_eq]
      simp only [List.mem_cons, List.not_mem_nil, or_false] at hl
      rcases hl with rfl | rfl
      · rw [List.length_append, headL_len, List.length_take]; omega
      · rw [List.length_drop]; omega) (first_blank h _) (by rw [hg]; simp [ht.2]) (by rw [hg]; simp)
  rw [hg] at this
  simp only [List.map_cons, List.map_nil, ht.1] at this
  exact this
theorem foldT_str (x : Fld) (k : Nat) (hk : k ≤ x.body.size) : x.name ++ ⟨#[58]⟩ ++ x.body.extract 0 k ++ ⟨#[13, 10]⟩ ++ x.body.extract k x.body.size ++ ⟨#[13, 10, 13, 10]⟩ = str (foldT x k) := by
  rw [head_str, extract_str, extract_str]
  show str _ ++ str _ ++ str [13, 10] ++ str _ ++ str [13, 10, 13, 10] = _
  rw [str_add, str_add, str_add, str_add]
  congr 1
  unfold foldT
  rw [List.drop_zero, Nat.sub_zero, List.take_of_length_le (l := x.body.data.toList.drop k) (by rw [List.length_drop, len_data]; exact Nat.le_refl _)]
  simp
theorem foldT_len (x : Fld) (k : Nat) : (foldT x k).length ≤ x.name.size + 2 * x.body.size + 7 := by
  have := headL_len x
  have := len_data x.body
  unfold foldT
  simp only [List.length_append, List.length_cons, List.length_nil, List.length_take, List.length_drop]
  omega
set_option maxRecDepth 100000 in
set_option maxHeartbeats 16000000 in
theorem folds_walk (w : World) (x : Fld) (at_ : Int) (hn : x.name.size ≤ maxLen) (hb : x.body.size ≤ maxLen) (hm : ML w) :
    Calls Tryd.prog 8 #[.agg #[.string x.name, .string x.body], .int .i64 at_] w fun e w' => e = .returned (.bool true) ∧ Chg NoB w w' := by
  have HB := hid (Blk.new w #[.string x.name, .string x.body] 38)
  have HM0 := hid (hm.keep ((Chg.refl NoB w).alloc (.cells #[.string x.name, .string x.body] 38)) not_false)
  have haw := awake_true _ HM0.out
  have HAW := hid haw
  have hR : ∀ W, Calls Tryd.prog 17 #[.agg #[.string x.name, .string x.body]] W fun e w' => e = .returned (.bool (right x)) ∧ Chg NoB W w' := fun W => hd_right W x hn hb
  unfold maxLen at hn hb
  clear haw hm
  by_cases hok : right x = true ∧ x.body.size ≤ 300 ∧ 1 ≤ at_ ∧ at_ < x.body.size
  case neg =>
    have tests : right x = false ∨ (right x = true ∧ decide (300 < (x.body.size : Int)) = true) ∨ (right x = true ∧ decide (300 < (x.body.size : Int)) = false ∧ decide (at_ < 1) = true) ∨ (right x = true ∧ decide (300 < (x.body.size : Int)) = false ∧ decide (at_ < 1) = false ∧ decide ((x.body.size : Int) ≤ at_) = true) := by
      cases hr : right x
      · exact .inl rfl
      · by_cases h1 : x.body.size ≤ 300
        · by_cases h2 : at_ < 1
          · exact .inr (.inr (.inl ⟨rfl, decide_eq_false (by omega), decide_eq_true h2⟩))
          · exact .inr (.inr (.inr ⟨rfl, decide_eq_false (by omega), decide_eq_false h2, decide_eq_true (by by_cases h3 : at_ < x.body.size; exact absurd ⟨hr, h1, by omega, h3⟩ hok; omega)⟩))
        · exact .inr (.inl ⟨rfl, decide_eq_true (by omega)⟩)
    clear hok
    rcases tests with hr | ⟨hr, t1⟩ | ⟨hr, t1, t2⟩ | ⟨hr, t1, t2, t3⟩
    all_goals
      rw [hr] at hR
      have HR := hid hR
      clear hR
      go_enter Tryd.func8, Tryd.ntmps8
      go_wp2_with (first
        | ((with_reducible (go_at_call 9; refine HAW.out.mono ?_)); rintro e w1 ⟨rfl, hc1⟩; have hb1 := HB.out.keep hc1 not_false; have HB1 := hid hb1; have q0 := hb1.cell 0; have q1 := hb1.cell 1; simp only [List.getElem?_toArray, List.getElem?_cons_succ, List.getElem?_cons_zero] at q0 q1; have HC1 := hid hc1; clear hc1 hb1)
        | ((with_reducible (go_at_call 17; refine (HR.out w1).mono ?_)); rintro e w2 ⟨rfl, hc2⟩; have HC2 := hid (hc2.then (((Chg.refl NoB w).alloc (.cells #[.string x.name, .string x.body] 38)).trans HC1.out (fun _ _ h => h))); have hb2 := HB1.out.keep hc2 not_false; have p0 := hb2.cell 0; have p1 := hb2.cell 1; simp only [List.getElem?_toArray, List.getElem?_cons_succ, List.getElem?_cons_zero] at p0 p1; clear hc2 hb2))
      go_ret
      exact ⟨rfl, HC2.out⟩
  obtain ⟨hr, h3, h1, h2⟩ := hok
  obtain ⟨k, rfl⟩ : ∃ k : Nat, at_ = (k : Int) := ⟨at_.toNat, by omega⟩
  have t1 : decide (300 < (x.body.size : Int)) = false := decide_eq_false (by omega)
  have t2 : decide ((k : Int) < 1) = false := decide_eq_false (by omega)
  have t3 : decide ((x.body.size : Int) ≤ (k : Int)) = false := decide_eq_false (by omega)
  have t2' : decide (k < 1) = false := decide_eq_false (by omega)
  have t3' : decide (x.body.size ≤ k) = false := decide_eq_false (by omega)
  have i0 : (0 : Int) ≤ (k : Int) := by omega
  have i1 : (k : Int) < (x.body.size : Int) := h2
  have i2 : (k : Int) ≤ (x.body.size : Int) := by omega
  have hkn : k < x.body.size := by omega
  obtain ⟨b, hbx, hbl⟩ := byte_at x.body k hkn
  have HR := hid (by rw [hr] at hR; exact hR)
  clear hR
  cases hbb : isBlank b
  · have hq := hbb
    rw [isBlank_eq, Bool.or_eq_false_iff] at hq
    have e1 : ((b.toNat : Int) != 32) = true := by rw [bne, hq.1]; rfl
    have e2 : ((b.toNat : Int) != 9) = true := by rw [bne, hq.2]; rfl
    clear hq hbb hbl hr h1 h2
    go_enter Tryd.func8, Tryd.ntmps8
    go_wp2_with (first
      | ((with_reducible (go_at_call 9; refine HAW.out.mono ?_)); rintro e w1 ⟨rfl, hc1⟩; have hb1 := HB.out.keep hc1 not_false; have HB1 := hid hb1; have q0 := hb1.cell 0; have q1 := hb1.cell 1; simp only [List.getElem?_toArray, List.getElem?_cons_succ, List.getElem?_cons_zero] at q0 q1; have HC1 := hid hc1; clear hc1 hb1)
      | ((with_reducible (go_at_call 17; refine (HR.out w1).mono ?_)); rintro e w2 ⟨rfl, hc2⟩; have HC2 := hid (hc2.then (((Chg.refl NoB w).alloc (.cells #[.string x.name, .string x.body] 38)).trans HC1.out (fun _ _ h => h))); have hb2 := HB1.out.keep hc2 not_false; have p0 := hb2.cell 0; have p1 := hb2.cell 1; simp only [List.getElem?_toArray, List.getElem?_cons_succ, List.getElem?_cons_zero] at p0 p1; clear hc2 hb2))
    go_ret
    exact ⟨rfl, HC2.out⟩
  · have hfp := foldT_parse hr hkn h3 hbl hbb
    have hfl := foldT_len x k
    have hnm := (right_parts hr).1
    have hfs := foldT_str x k (Nat.le_of_lt hkn)
    have hP : ∀ W, ML W → Calls Tryd.prog 13 #[.string (x.name ++ ⟨#[58]⟩ ++ x.body.extract 0 k ++ ⟨#[13, 10]⟩ ++ x.body.extract k x.body.size ++ ⟨#[13, 10, 13, 10]⟩)] W fun e w' => ∃ g c, e = .returned (.tuple #[.slice (some ⟨g, 0, none⟩) 1 c, .string ⟨#[]⟩, .int .i64 0]) ∧ Own w' 38 2 (some ⟨g, 0, none⟩) 1 c (fldsC [x]) ∧ Chg NoB W w' := fun W hW => by
      rw [hfs]
      refine (hd_parse W (str (foldT x k)) (by rw [str_size]; omega) hW).mono fun e w' ⟨A, c, g1, g2, g3⟩ => ?_
      rw [str_toList, hfp.2.1] at g1 g2
      rw [hfp.1, hfp.2.2] at g1
      obtain ⟨g, rfl, _⟩ := g2.addr (show 0 < [x].length from Nat.succ_pos _)
      exact ⟨g, c, g1, g2, g3⟩
    have HP := hid hP
    have hee := fun wx => run_eql_fld wx x x
    rw [(eqF_iff x x).2 rfl] at hee
    have tests : ((b.toNat : Int) != 32) = false ∨ (((b.toNat : Int) != 32) = true ∧ ((b.toNat : Int) != 9) = false) := by
      have hq := hbb
      rw [isBlank_eq, Bool.or_eq_true] at hq
      by_cases e : ((b.toNat : Int) == 32) = true
      · exact .inl (by rw [bne, e]; rfl)
      · rcases hq with hq | hq
        · exact absurd hq e
        · exact .inr ⟨by rw [bne, show ((b.toNat : Int) == 32) = false by simpa using e]; rfl, by rw [bne, hq]; rfl⟩
    have z1 : (x.name ++ ⟨#[58]⟩).size = x.name.size + 1 := ByteArray.size_append
    have z2 : (x.body.extract 0 k).size = k := by rw [extract_size _ _ _ (Nat.le_of_lt hkn)]; omega
    have z3 : (x.body.extract k x.body.size).size = x.body.size - k := extract_size _ _ _ (Nat.le_refl _)
    have z4 : (x.name ++ ⟨#[58]⟩ ++ x.body.extract 0 k).size = x.name.size + 1 + k := by rw [ByteArray.size_append, z1, z2]
    have z5 : (x.name ++ ⟨#[58]⟩ ++ x.body.extract 0 k ++ ⟨#[13, 10]⟩).size = x.name.size + 1 + k + 2 := by rw [ByteArray.size_append, z4]; rfl
    have z6 : (x.name ++ ⟨#[58]⟩ ++ x.body.extract 0 k ++ ⟨#[13, 10]⟩ ++ x.body.extract k x.body.size).size = x.name.size + 1 + k + 2 + (x.body.size - k) := by rw [ByteArray.size_append, z5, z3]
    have hn64 := hnm.2
    clear hP hfp hfl hfs hbb hbl hr h1 h2 hnm
    rcases tests with e1 | ⟨e1, e2⟩
    all_goals
      go_enter Tryd.func8, Tryd.ntmps8
      go_wp2_with (first
        | ((with_reducible (go_at_call 9; refine HAW.out.mono ?_)); rintro e w1 ⟨rfl, hc1⟩; have hb1 := HB.out.keep hc1 not_false; have HB1 := hid hb1; have q0 := hb1.cell 0; have q1 := hb1.cell 1; simp only [List.getElem?_toArray, List.getElem?_cons_succ, List.getElem?_cons_zero] at q0 q1; have HC1 := hid hc1; clear hc1 hb1)
        | ((with_reducible (go_at_call 17; refine (HR.out w1).mono ?_)); rintro e w2 ⟨rfl, hc2⟩; have HC2 := hid (hc2.then (((Chg.refl NoB w).alloc (.cells #[.string x.name, .string x.body] 38)).trans HC1.out (fun _ _ h => h))); have HM2 := hid (HM0.out.keep (hc2.then HC1.out) not_false); have hb2 := HB1.out.keep hc2 not_false; have p0 := hb2.cell 0; have p1 := hb2.cell 1; simp only [List.getElem?_toArray, List.getElem?_cons_succ, List.getElem?_cons_zero] at p0 p1; have HB2 := hid hb2; clear hc2 hb2))
      go_quiet (fail)
      have HM3 := hid (HM2.out.keep ((Chg.refl NoB w2).drewN nq) not_false)
      go_wp2_with (first
        | ((with_reducible (go_at_call 13; refine (HP.out _ HM3.out).mono ?_)); rintro e w4 ⟨g, c, rfl, ho4, hc4⟩; have HC4 := hid (hc4.then (HC2.out.drewN nq)); have hb4 := (HB2.out.drewN nq).keep hc4 not_false; have r0 := hb4.cell 0; have r1 := hb4.cell 1; simp only [List.getElem?_toArray, List.getElem?_cons_succ, List.getElem?_cons_zero] at r0 r1; have s0 := ho4.cell rfl 0 (.string x.name) rfl; have s1 := ho4.cell rfl 1 (.string x.body) rfl; clear hc4 hb4 ho4))
      go_quiet (fail)
      go_wp2
      go_ret
      exact ⟨rfl, HC4.out.drewN _⟩
end Go.Proofs.YtkphllolghlmeaaDoor
