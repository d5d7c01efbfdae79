/- HeaderMore: the walk. -/
import Derived.Test.YtkphllolghlmeaaDoorHdZb
namespace Go.Proofs.YtkphllolghlmeaaDoor
open Go.RowKit

theorem more_bad {a b : List Fld} (hl : a.length + b.length ≤ 64) (h : printE a ≠ 0 ∨ printE b ≠ 0) : printE (a ++ b) ≠ 0 := by
  intro e
  obtain ⟨h1, h2, h3⟩ := printE_zero e
  rw [List.any_append, Bool.or_eq_false_iff] at h3
  have ha : printE a = 0 := printE_ok (List.all_eq_true.2 (fun x hx => h1 x (List.mem_append.2 (.inl hx)))) (by omega) h3.1
  have hb : printE b = 0 := printE_ok (List.all_eq_true.2 (fun x hx => h1 x (List.mem_append.2 (.inr hx)))) (by omega) h3.2
  rcases h with h | h
  · exact h ha
  · exact h hb
theorem more_ok {a b : List Fld} (hl : a.length + b.length ≤ 64) (ha : printE a = 0) (hb : printE b = 0) : printE (a ++ b) = 0 ∧ str (printS (a ++ b)) = (str (printS a)).extract 0 ((printS a).length - 2) ++ str (printS b) ∧ 2 ≤ (printS a).length := by
  obtain ⟨a1, a2, a3⟩ := printE_zero ha
  obtain ⟨b1, b2, b3⟩ := printE_zero hb
  have h0 : printE (a ++ b) = 0 := printE_ok (List.all_eq_true.2 (fun x hx => by
    rcases List.mem_append.1 hx with hx | hx
    · exact a1 x hx
    · exact b1 x hx)) (by rw [List.length_append]; omega) (by rw [List.any_append, a3, b3]; rfl)
  refine ⟨h0, ?_, ?_⟩
  · rw [extract_str, str_toList, str_add, printS_ok h0, printS_ok ha, printS_ok hb, List.flatMap_append, List.append_assoc]
    congr 1
    rw [List.drop_zero, Nat.sub_zero, List.length_append]
    show _ = List.take ((a.flatMap foldS).length + 2 - 2) _ ++ _
    rw [Nat.add_sub_cancel, List.take_left]
  · rw [printS_ok ha, List.length_append]; simp
/-- Fields that are read, appended. -/
theorem FldsAt.src {w : World} {A : Option Addr} {n : Nat} {l : List Fld} (h : FldsAt w A n l) {tx e' : TypeId} (hk : Tryd.prog.underlying tx = some (.slice e')) (c : Nat) : Src Tryd.prog 2 tx (.slice A n c) n (fldsC l) w ∨ (n = 0 ∧ A ≠ none) := by
  by_cases hn : 0 < n
  · left
    obtain ⟨b, o, rfl, hb, hc⟩ := h.2 hn
    refine Src.ofSlice w hk _ n c _ (by rw [fldsC_length, h.1]) (fun j u hj => ?_) (fun u hu => ?_)
    · rw [addr_add]
      have hjl := (List.getElem?_eq_some_iff.1 hj).1
      rw [fldsC_length] at hjl
      have hx : l[j / 2]? = some (l[j / 2]'(by omega)) := List.getElem?_eq_getElem _
      obtain ⟨k0, k1⟩ := hc _ _ hx
      obtain ⟨g0, g1⟩ := fldsC_get _ _ _ hx
      rcases Nat.mod_two_eq_zero_or_one j with hm | hm
      · rw [show j / 2 * 2 = j by omega] at k0 g0
        rw [hj] at g0; injection g0 with g0
        rw [g0]; exact k0
      · rw [show j / 2 * 2 + 1 = j by omega] at g1
        rw [show o + j / 2 * 2 + 1 = o + j by omega] at k1
        rw [hj] at g1; injection g1 with g1
        rw [g1]; exact k1
    · unfold fldsC at hu
      obtain ⟨x, _, hx⟩ := List.mem_flatMap.1 hu
      simp only [fldC, List.mem_cons, List.not_mem_nil, or_false] at hx
      rcases hx with rfl | rfl <;> rfl
  · have hn0 : n = 0 := by omega
    subst hn0
    have : l = [] := List.eq_nil_of_length_eq_zero h.1
    subst this
    cases A with
    | none => exact .inl (Src.ofNil w hk c)
    | some a => exact .inl (Src.ofSlice w hk a 0 c [] rfl (fun j u hj => by simp at hj) (fun u hu => by cases hu))
theorem FldsAt.src' {w : World} {A : Option Addr} {n : Nat} {l : List Fld} (h : FldsAt w A n l) {tx e' : TypeId} (hk : Tryd.prog.underlying tx = some (.slice e')) (c : Nat) : Src Tryd.prog 2 tx (.slice A n c) n (fldsC l) w := by
  rcases h.src hk c with h1 | ⟨h1, h2⟩
  · exact h1
  · subst h1
    have : l = [] := List.eq_nil_of_length_eq_zero h.1
    subst this
    cases A with
    | none => exact absurd rfl h2
    | some a => exact Src.ofSlice w hk a 0 c [] rfl (fun j u hj => by simp at hj) (fun u hu => by cases hu)
set_option maxRecDepth 100000 in
set_option maxHeartbeats 16000000 in
theorem more_walk (w : World) (A B : Option Addr) (n c m d : Nat) (l k : List Fld) (h : FldsAt w A n l) (hn : n ≤ maxLen) (hz : MaxF l) (h' : FldsAt w B m k) (hn' : m ≤ maxLen) (hz' : MaxF k) (hm : ML w) :
    Calls Tryd.prog 7 #[.slice A n c, .slice B m d] w fun e w' => e = .returned (.bool true) ∧ Chg NoB w w' := by
  have HM := hid hm
  have HA := hid h
  have HB := hid h'
  have hF : ∀ W, FldsAt W A n l → Calls Tryd.prog 10 #[.slice A n c] W fun e w' => e = .returned (.bool (fewF l)) ∧ Chg NoB W w' := fun W hW => few_call W A n c l hW hn hz
  have hG : ∀ W, FldsAt W B m k → Calls Tryd.prog 10 #[.slice B m d] W fun e w' => e = .returned (.bool (fewF k)) ∧ Chg NoB W w' := fun W hW => few_call W B m d k hW hn' hz'
  have haw := awake_true w hm
  have HAW := hid haw
  unfold maxLen at hn hn'
  clear haw h h' hm hz hz'
  by_cases hok : fewF l = true ∧ fewF k = true ∧ n + m ≤ 64
  case neg =>
    cases hf : fewF l
    · rw [hf] at hF
      have HF := hid hF
      clear hF hG hok
      go_enter Tryd.func7, Tryd.ntmps7
      go_wp2_with (first
        | ((with_reducible (go_at_call 9; refine HAW.out.mono ?_)); rintro e w1 ⟨rfl, hc1⟩; have HA1 := hid (HA.out.keep hc1))
        | ((with_reducible (go_at_call 10; refine (HF.out _ HA1.out).mono ?_)); rintro e w2 ⟨rfl, hc2⟩; have HC2 := hid (hc2.then hc1); clear hc1 hc2))
      go_ret
      exact ⟨rfl, HC2.out⟩
    · rw [hf] at hF
      have HF := hid hF
      cases hg : fewF k
      · rw [hg] at hG
        have HG := hid hG
        clear hF hG hok
        by_cases hsame : False
        · exact hsame.elim
        go_enter Tryd.func7, Tryd.ntmps7
        go_wp2_with (first
          | ((with_reducible (go_at_call 9; refine HAW.out.mono ?_)); rintro e w1 ⟨rfl, hc1⟩; have HA1 := hid (HA.out.keep hc1); have HC1 := hid hc1; clear hc1)
          | ((with_reducible (go_at_call 10; refine (HF.out w1 HA1.out).mono ?_)); rintro e w2 ⟨rfl, hc2⟩; have HC2 := hid (hc2.then HC1.out); have HB2 := hid (HB.out.keep HC2.out); clear hc2 HA1)
          | ((with_reducible (go_at_call 10; refine (HG.out w2 HB2.out).mono ?_)); rintro e w3 ⟨rfl, hc3⟩; have HC3 := hid (hc3.then HC2.out); clear hc3))
        go_ret
        exact ⟨rfl, HC3.out⟩
      · rw [hg] at hG
        have HG := hid hG
        have t1 : decide (64 < (n : Int) + (m : Int)) = true := decide_eq_true (by by_cases h2 : n + m ≤ 64; exact absurd ⟨hf, hg, h2⟩ hok; omega)
        have z1 := fewF_sized hf
        have z2 := fewF_sized hg
        have z3 := HA.out.1
        have z4 := HB.out.1
        have z5 : n ≤ 100 := by omega
        have z6 : m ≤ 100 := by omega
        clear hF hG hok z1 z2 z3 z4
        go_enter Tryd.func7, Tryd.ntmps7
        go_wp2_with (first
          | ((with_reducible (go_at_call 9; refine HAW.out.mono ?_)); rintro e w1 ⟨rfl, hc1⟩; have HA1 := hid (HA.out.keep hc1); have HC1 := hid hc1; clear hc1)
          | ((with_reducible (go_at_call 10; refine (HF.out w1 HA1.out).mono ?_)); rintro e w2 ⟨rfl, hc2⟩; have HC2 := hid (hc2.then HC1.out); have HB2 := hid (HB.out.keep HC2.out); clear hc2 HA1)
          | ((with_reducible (go_at_call 10; refine (HG.out w2 HB2.out).mono ?_)); rintro e w3 ⟨rfl, hc3⟩; have HC3 := hid (hc3.then HC2.out); clear hc3))
        go_ret
        exact ⟨rfl, HC3.out⟩
  obtain ⟨hf, hg, h64⟩ := hok
  have t1 : decide (64 < (n : Int) + (m : Int)) = false := decide_eq_false (by omega)
  obtain ⟨hsz, hn1⟩ := few_le hf HA.out.1
  obtain ⟨hsz2, hn2⟩ := few_le hg HB.out.1
  have hln : l.length + k.length ≤ 64 := by have := HA.out.1; have := HB.out.1; omega
  have hfs := fewF_sum hf
  have hgs := fewF_sum hg
  have hpl := printS_len l
  have hpk := printS_len k
  rw [hf] at hF
  rw [hg] at hG
  have HF := hid hF
  have HG := hid hG
  have HSZ := hid hsz
  have HSZ2 := hid hsz2
  have hszz : Sized (l ++ k) := fun x hx => by
    rcases List.mem_append.1 hx with hx | hx
    · exact hsz x hx
    · exact hsz2 x hx
  have HSZZ := hid hszz
  have hn6 : n ≤ 1000000 := by omega
  have hm6 : m ≤ 1000000 := by omega
  have hps : (str (printS l)).size ≤ 56000 := by rw [str_size]; omega
  have hpt : (str (printS k)).size ≤ 56000 := by rw [str_size]; omega
  have ways : (printE l ≠ 0) ∨ (printE l = 0 ∧ printE k ≠ 0) ∨ (printE l = 0 ∧ printE k = 0) := by
    by_cases h1 : printE l = 0
    · by_cases h2 : printE k = 0
      · exact .inr (.inr ⟨h1, h2⟩)
      · exact .inr (.inl ⟨h1, h2⟩)
    · exact .inl h1
  have hP1 : ∀ (W : World), FldsAt W A n l → ML W → Calls Tryd.prog 11 #[.slice A n c] W fun e w' => e = .returned (.tuple #[.string (str (printS l)), .int .i64 (printE l)]) ∧ Chg NoB W w' := fun W hW hM => hd_print W A n c l hW hn6 HSZ.out hM
  have hP2 : ∀ (W : World), FldsAt W B m k → ML W → Calls Tryd.prog 11 #[.slice B m d] W fun e w' => e = .returned (.tuple #[.string (str (printS k)), .int .i64 (printE k)]) ∧ Chg NoB W w' := fun W hW hM => hd_print W B m d k hW hm6 HSZ2.out hM
  have hP3 : ∀ (W : World) (C : Option Addr) (e : Nat), FldsAt W C (n + m) (l ++ k) → ML W → Calls Tryd.prog 11 #[.slice C (n + m) e] W fun e w' => e = .returned (.tuple #[.string (str (printS (l ++ k))), .int .i64 (printE (l ++ k))]) ∧ Chg NoB W w' := fun W C e hW hM => hd_print W C (n + m) e (l ++ k) hW (by omega) HSZZ.out hM
  have m1 : 0 + n ≤ maxLen := by unfold maxLen; omega
  have m2 : (0 + n) * 32 ≤ 140737488355328 := by omega
  have m3 : n + m ≤ maxLen := by unfold maxLen; omega
  have m4 : (n + m) * 32 ≤ 140737488355328 := by omega
  have hnew : ∀ W : World, Own (W.alloc (.cells #[] 38)) 38 2 (some ⟨W.heap.size, 0, none⟩) 0 0 [] := fun W => Own.of_blk (Blk.new W #[] 38) rfl (Nat.le_refl _) (Nat.zero_le _) rfl rfl
  have HNEW := hid hnew
  have hsA : ∀ W, FldsAt W A n l → Src Tryd.prog 2 22 (.slice A n c) n (fldsC l) W := fun W hW => hW.src' (e' := 38) rfl c
  have hsB : ∀ W, FldsAt W B m k → Src Tryd.prog 2 22 (.slice B m d) m (fldsC k) W := fun W hW => hW.src' (e' := 38) rfl d
  have HSA := hid hsA
  have HSB := hid hsB
  have hps2 := str_size (printS l)
  have HEE : Hid (∀ n' : Nat, n' ≠ 0 → ((n' : Int) != 0) = true) := hid (fun n' h => by simp only [bne_iff_ne, ne_eq]; omega)
  have HPOK := fun h1 h2 => more_ok (a := l) (b := k) hln h1 h2
  have HPBAD := fun h => more_bad (a := l) (b := k) hln h
  obtain ⟨q, hq⟩ : ∃ q, q = str (printS l) := ⟨_, rfl⟩
  obtain ⟨t, ht⟩ : ∃ t, t = str (printS k) := ⟨_, rfl⟩
  have hqs : q.size = (printS l).length := by rw [hq, str_size]
  rw [← hq] at hP1 hps
  rw [← ht] at hP2 hpt
  have HP2 := hid hP2
  clear hF hG hf hg hsz hsz2 hszz hfs hgs hpl hpk hln hnew hsA hsB hps2 hP2
  rcases ways with hl | ⟨hl, hk⟩ | ⟨hl, hk⟩
  · have e1 := HEE.out _ hl
    have e3 := HEE.out _ (HPBAD (.inl hl))
    have HP1 := hid hP1
    have HP3 := hid hP3
    clear hP1 hP3 HPOK HPBAD hl hq ht hqs
    go_enter Tryd.func7, Tryd.ntmps7
    go_wp2_with (first
      | ((with_reducible (go_at_call 9; refine HAW.out.mono ?_)); rintro e w1 ⟨rfl, hc1⟩; have HA1 := hid (HA.out.keep hc1); have HC1 := hid hc1; clear hc1)
      | ((with_reducible (go_at_call 10; refine (HF.out w1 HA1.out).mono ?_)); rintro e w2 ⟨rfl, hc2⟩; have HC2 := hid (hc2.then HC1.out); have HB2 := hid (HB.out.keep HC2.out); clear hc2 HA1)
      | ((with_reducible (go_at_call 10; refine (HG.out w2 HB2.out).mono ?_)); rintro e w3 ⟨rfl, hc3⟩; have HC3 := hid (hc3.then HC2.out); have HA3 := hid (HA.out.keep HC3.out); have HM3 := hid (HM.out.keep HC3.out not_false); clear hc3)
      | ((with_reducible (go_at_call 11; refine (HP1.out w3 HA3.out HM3.out).mono ?_)); rintro e w4 ⟨rfl, hc4⟩; have HC4 := hid (hc4.then HC3.out); have HB4 := hid (HB.out.keep HC4.out); have HM4 := hid (HM.out.keep HC4.out not_false); clear hc4 HA3)
      | ((with_reducible (go_at_call 11; refine (HP2.out w4 HB4.out HM4.out).mono ?_)); rintro e w5 ⟨rfl, hc5⟩; have HC5 := hid (hc5.then HC4.out); have HS5 := hid (HSA.out _ (HA.out.keep (HC5.out.alloc (.cells #[] 38)))); clear hc5 HB4)
      | ((with_reducible refine wpList_append_all rfl (.tmp 40) (.tmp 41) 22 22 rfl 38 (.agg #[.string ⟨#[]⟩, .string ⟨#[]⟩]) 2 32 rfl info_fld rfl (some ⟨w5.heap.size, 0, none⟩) 0 0 rfl [] (HNEW.out w5) (.slice A n c) rfl n (fldsC l) HS5.out m1 m2 ?_); intro A6 c6 w6 ho6 hc6 hb6; rw [Nat.zero_add, List.nil_append] at ho6; have HO6 := hid ho6; have HB6 := hid hb6; have HC6 := hid ((HC5.out.alloc (.cells #[] 38)).trans hc6 (fun i hi e => by have e2 : w5.heap.size = i := (by simpa [FA, blkOf] using e); have := HC5.out.size; omega)); have HS6 := hid (HSB.out _ (HB.out.keep HC6.out)); clear ho6 hc6 hb6)
      | ((with_reducible refine wpList_append_all rfl (.tmp 42) (.tmp 43) 22 22 rfl 38 (.agg #[.string ⟨#[]⟩, .string ⟨#[]⟩]) 2 32 rfl info_fld rfl A6 n c6 rfl (fldsC l) HO6.out (.slice B m d) rfl m (fldsC k) HS6.out m3 m4 ?_); intro A7 c7 w7 ho7 hc7 hb7; rw [← fldsC_append] at ho7; have HF7 := hid (FldsAt.of_own ho7); have HC7 := hid (HC6.out.trans hc7 (fun i hi e => by have h5 := HC5.out.size; rcases HB6.out with h | h <;> (have e2 : some i = _ := (show blkOf A6 = some i from e).symm.trans h; simp [blkOf] at e2; omega))); have HM7 := hid (HM.out.keep HC7.out not_false); clear ho7 hc7 hb7)
      | ((with_reducible (go_at_call 11; refine (HP3.out w7 A7 c7 HF7.out HM7.out).mono ?_)); rintro e w8 ⟨rfl, hc8⟩; have HC8 := hid (hc8.then HC7.out); clear hc8))
    go_ret
    exact ⟨rfl, HC8.out⟩
  · have e1 : ((printE l : Int) != 0) = false := by rw [hl]; decide
    have e2 := HEE.out _ hk
    have e3 := HEE.out _ (HPBAD (.inr hk))
    have HP1 := hid hP1
    have HP3 := hid hP3
    clear hP1 hP3 HPOK HPBAD hl hk hq ht hqs
    go_enter Tryd.func7, Tryd.ntmps7
    go_wp2_with (first
      | ((with_reducible (go_at_call 9; refine HAW.out.mono ?_)); rintro e w1 ⟨rfl, hc1⟩; have HA1 := hid (HA.out.keep hc1); have HC1 := hid hc1; clear hc1)
      | ((with_reducible (go_at_call 10; refine (HF.out w1 HA1.out).mono ?_)); rintro e w2 ⟨rfl, hc2⟩; have HC2 := hid (hc2.then HC1.out); have HB2 := hid (HB.out.keep HC2.out); clear hc2 HA1)
      | ((with_reducible (go_at_call 10; refine (HG.out w2 HB2.out).mono ?_)); rintro e w3 ⟨rfl, hc3⟩; have HC3 := hid (hc3.then HC2.out); have HA3 := hid (HA.out.keep HC3.out); have HM3 := hid (HM.out.keep HC3.out not_false); clear hc3)
      | ((with_reducible (go_at_call 11; refine (HP1.out w3 HA3.out HM3.out).mono ?_)); rintro e w4 ⟨rfl, hc4⟩; have HC4 := hid (hc4.then HC3.out); have HB4 := hid (HB.out.keep HC4.out); have HM4 := hid (HM.out.keep HC4.out not_false); clear hc4 HA3)
      | ((with_reducible (go_at_call 11; refine (HP2.out w4 HB4.out HM4.out).mono ?_)); rintro e w5 ⟨rfl, hc5⟩; have HC5 := hid (hc5.then HC4.out); have HS5 := hid (HSA.out _ (HA.out.keep (HC5.out.alloc (.cells #[] 38)))); clear hc5 HB4)
      | ((with_reducible refine wpList_append_all rfl (.tmp 40) (.tmp 41) 22 22 rfl 38 (.agg #[.string ⟨#[]⟩, .string ⟨#[]⟩]) 2 32 rfl info_fld rfl (some ⟨w5.heap.size, 0, none⟩) 0 0 rfl [] (HNEW.out w5) (.slice A n c) rfl n (fldsC l) HS5.out m1 m2 ?_); intro A6 c6 w6 ho6 hc6 hb6; rw [Nat.zero_add, List.nil_append] at ho6; have HO6 := hid ho6; have HB6 := hid hb6; have HC6 := hid ((HC5.out.alloc (.cells #[] 38)).trans hc6 (fun i hi e => by have e2 : w5.heap.size = i := (by simpa [FA, blkOf] using e); have := HC5.out.size; omega)); have HS6 := hid (HSB.out _ (HB.out.keep HC6.out)); clear ho6 hc6 hb6)
      | ((with_reducible refine wpList_append_all rfl (.tmp 42) (.tmp 43) 22 22 rfl 38 (.agg #[.string ⟨#[]⟩, .string ⟨#[]⟩]) 2 32 rfl info_fld rfl A6 n c6 rfl (fldsC l) HO6.out (.slice B m d) rfl m (fldsC k) HS6.out m3 m4 ?_); intro A7 c7 w7 ho7 hc7 hb7; rw [← fldsC_append] at ho7; have HF7 := hid (FldsAt.of_own ho7); have HC7 := hid (HC6.out.trans hc7 (fun i hi e => by have h5 := HC5.out.size; rcases HB6.out with h | h <;> (have e2 : some i = _ := (show blkOf A6 = some i from e).symm.trans h; simp [blkOf] at e2; omega))); have HM7 := hid (HM.out.keep HC7.out not_false); clear ho7 hc7 hb7)
      | ((with_reducible (go_at_call 11; refine (HP3.out w7 A7 c7 HF7.out HM7.out).mono ?_)); rintro e w8 ⟨rfl, hc8⟩; have HC8 := hid (hc8.then HC7.out); clear hc8))
    go_ret
    exact ⟨rfl, HC8.out⟩
  · have e1 : ((printE l : Int) != 0) = false := by rw [hl]; decide
    have e2 : ((printE k : Int) != 0) = false := by rw [hk]; decide
    obtain ⟨o1, o2, o3⟩ := HPOK hl hk
    have e3 : ((printE (l ++ k) : Int) == 0) = true := by rw [o1]; decide
    rw [← hq, ← ht, ← hqs] at o2
    rw [← hqs] at o3
    have s0 : (0 : Int) ≤ (q.size : Int) - 2 := by omega
    have s1 : (q.size : Int) - 2 ≤ (q.size : Int) := by omega
    have z1 : (q.extract 0 (q.size - 2)).size = q.size - 2 := by rw [extract_size _ _ _ (by omega)]; omega
    rw [o2] at hP3
    have HP1 := hid hP1
    have HP3 := hid hP3
    clear hP1 hP3 HPOK HPBAD hl hk hq ht hqs o1 o2
    go_enter Tryd.func7, Tryd.ntmps7
    go_wp2_with (first
      | ((with_reducible (go_at_call 9; refine HAW.out.mono ?_)); rintro e w1 ⟨rfl, hc1⟩; have HA1 := hid (HA.out.keep hc1); have HC1 := hid hc1; clear hc1)
      | ((with_reducible (go_at_call 10; refine (HF.out w1 HA1.out).mono ?_)); rintro e w2 ⟨rfl, hc2⟩; have HC2 := hid (hc2.then HC1.out); have HB2 := hid (HB.out.keep HC2.out); clear hc2 HA1)
      | ((with_reducible (go_at_call 10; refine (HG.out w2 HB2.out).mono ?_)); rintro e w3 ⟨rfl, hc3⟩; have HC3 := hid (hc3.then HC2.out); have HA3 := hid (HA.out.keep HC3.out); have HM3 := hid (HM.out.keep HC3.out not_false); clear hc3)
      | ((with_reducible (go_at_call 11; refine (HP1.out w3 HA3.out HM3.out).mono ?_)); rintro e w4 ⟨rfl, hc4⟩; have HC4 := hid (hc4.then HC3.out); have HB4 := hid (HB.out.keep HC4.out); have HM4 := hid (HM.out.keep HC4.out not_false); clear hc4 HA3)
      | ((with_reducible (go_at_call 11; refine (HP2.out w4 HB4.out HM4.out).mono ?_)); rintro e w5 ⟨rfl, hc5⟩; have HC5 := hid (hc5.then HC4.out); have HS5 := hid (HSA.out _ (HA.out.keep (HC5.out.alloc (.cells #[] 38)))); clear hc5 HB4)
      | ((with_reducible refine wpList_append_all rfl (.tmp 40) (.tmp 41) 22 22 rfl 38 (.agg #[.string ⟨#[]⟩, .string ⟨#[]⟩]) 2 32 rfl info_fld rfl (some ⟨w5.heap.size, 0, none⟩) 0 0 rfl [] (HNEW.out w5) (.slice A n c) rfl n (fldsC l) HS5.out m1 m2 ?_); intro A6 c6 w6 ho6 hc6 hb6; rw [Nat.zero_add, List.nil_append] at ho6; have HO6 := hid ho6; have HB6 := hid hb6; have HC6 := hid ((HC5.out.alloc (.cells #[] 38)).trans hc6 (fun i hi e => by have e2 : w5.heap.size = i := (by simpa [FA, blkOf] using e); have := HC5.out.size; omega)); have HS6 := hid (HSB.out _ (HB.out.keep HC6.out)); clear ho6 hc6 hb6)
      | ((with_reducible refine wpList_append_all rfl (.tmp 42) (.tmp 43) 22 22 rfl 38 (.agg #[.string ⟨#[]⟩, .string ⟨#[]⟩]) 2 32 rfl info_fld rfl A6 n c6 rfl (fldsC l) HO6.out (.slice B m d) rfl m (fldsC k) HS6.out m3 m4 ?_); intro A7 c7 w7 ho7 hc7 hb7; rw [← fldsC_append] at ho7; have HF7 := hid (FldsAt.of_own ho7); have HC7 := hid (HC6.out.trans hc7 (fun i hi e => by have h5 := HC5.out.size; rcases HB6.out with h | h <;> (have e2 : some i = _ := (show blkOf A6 = some i from e).symm.trans h; simp [blkOf] at e2; omega))); have HM7 := hid (HM.out.keep HC7.out not_false); clear ho7 hc7 hb7)
      | ((with_reducible (go_at_call 11; refine (HP3.out w7 A7 c7 HF7.out HM7.out).mono ?_)); rintro e w8 ⟨rfl, hc8⟩; have HC8 := hid (hc8.then HC7.out); clear hc8))
    go_ret
    exact ⟨rfl, HC8.out⟩
end Go.Proofs.YtkphllolghlmeaaDoor
