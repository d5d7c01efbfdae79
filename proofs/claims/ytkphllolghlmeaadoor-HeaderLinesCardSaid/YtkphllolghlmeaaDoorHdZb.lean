/- HeaderBack: the walk. -/
import Derived.Test.YtkphllolghlmeaaDoorHdX
import Derived.Test.YtkphllolghlmeaaDoorHdY
namespace Go.Proofs.YtkphllolghlmeaaDoor
open Go.RowKit

def sumF (l : List Fld) : Nat := (l.map fun x => x.name.size + x.body.size).sum
theorem flat_len2 : ∀ l : List Fld, (l.flatMap foldS).length ≤ 3 * sumF l + 6 * l.length
  | [] => Nat.zero_le _
  | x :: l => by
    have h1 := foldS_len x
    have h2 := flat_len2 l
    unfold sumF at *
    simp only [List.flatMap_cons, List.length_append, List.map_cons, List.sum_cons, List.length_cons]; omega
theorem fewN_sum : ∀ (l : List Fld) (i n : Nat), n ≤ 8000 → fewN l i n = true → n + sumF l + l.length ≤ 8000
  | [], i, n, hn, _ => by simp [sumF]; omega
  | x :: l, i, n, hn, h => by
    unfold fewN at h
    simp only at h
    split at h
    · cases h
    · rename_i hc
      have ih := fewN_sum l (i + 1) _ (by omega) h
      unfold sumF at *
      simp only [List.map_cons, List.sum_cons, List.length_cons]; omega
theorem fewF_sum {l : List Fld} (h : fewF l = true) : sumF l + l.length ≤ 8000 := by have := fewN_sum l 0 0 (by omega) h; omega
theorem sumF_mem {l : List Fld} {x : Fld} (h : x ∈ l) : x.name.size + x.body.size ≤ sumF l := by
  induction l with
  | nil => cases h
  | cons y r ih =>
    unfold sumF at *
    simp only [List.map_cons, List.sum_cons]
    rcases List.mem_cons.1 h with rfl | h
    · omega
    · have := ih h; omega
theorem fld_len (w : List UInt8) : (fldOf w).name.size + (fldOf w).body.size ≤ w.length := by
  have h1 := (nameOf_at w).2.2.2
  have h2 := trimS_len (w.drop ((nameOf w).length + 1)) [32, 9]
  rw [List.length_drop] at h2
  show (str (nameOf w)).size + (str (bodyOf w)).size ≤ _
  rw [str_size, str_size]
  unfold bodyOf
  omega
theorem map_sum : ∀ ws : List (List UInt8), sumF (ws.map fldOf) ≤ (ws.map List.length).sum
  | [] => Nat.le_refl _
  | w :: ws => by
    have h1 := fld_len w
    have h2 := map_sum ws
    unfold sumF at *
    simp only [List.map_cons, List.sum_cons]; omega
theorem parse_sum (s : List UInt8) : sumF (parseL s) ≤ s.length := by
  unfold parseL
  split
  · cases hs : scan [] s with
    | none => simp [sumF]
    | some p =>
      simp only
      have h1 := scan_len s [] p.1 p.2 hs
      have h2 := map_sum (groups p.1)
      rw [groups_sum] at h2
      simp only [List.length_nil] at h1
      omega
  · simp [sumF]
theorem printS_len (l : List Fld) : (printS l).length ≤ 3 * sumF l + 6 * l.length + 2 := by
  have := flat_len2 l
  unfold printS
  split
  · simp only [List.length_append, List.length_cons, List.length_nil]; omega
  · simp
theorem parseL_len (s : List UInt8) : (parseL s).length ≤ 64 := by
  unfold parseL
  split
  · rename_i h
    unfold parseE at h
    cases hs : scan [] s with
    | none => simp
    | some p =>
      rw [hs] at h
      simp only at h ⊢
      rw [List.length_map]
      repeat (split at h; · cases h)
      omega
  · simp
theorem zero_tests (k : Nat) : (k = 0 ∧ ((k : Int) == 0) = true ∧ ((k : Int) != 0) = false) ∨ (k ≠ 0 ∧ ((k : Int) == 0) = false ∧ ((k : Int) != 0) = true) := by
  by_cases h : k = 0
  · subst h; exact .inl ⟨rfl, by decide, by decide⟩
  · refine .inr ⟨h, ?_, ?_⟩
    · rw [beq_eq_false_iff_ne]; omega
    · simp only [bne_iff_ne, ne_eq]; omega
set_option maxRecDepth 100000 in
set_option maxHeartbeats 16000000 in
theorem back_walk (w : World) (A : Option Addr) (n c : Nat) (l : List Fld) (s more : ByteArray) (h : FldsAt w A n l) (hn : n ≤ maxLen) (hz : MaxF l) (hs : s.size ≤ maxLen) (hmo : more.size ≤ maxLen) (hm : ML w) :
    Calls Tryd.prog 4 #[.slice A n c, .string s, .string more] w fun e w' => e = .returned (.bool true) ∧ Chg NoB w w' := by
  unfold maxLen at hs hmo
  have HM := hid hm
  have HA := hid h
  have hF : ∀ W, FldsAt W A n l → Calls Tryd.prog 10 #[.slice A n c] W fun e w' => e = .returned (.bool (fewF l)) ∧ Chg NoB W w' := fun W hW => few_call W A n c l hW hn hz
  have haw := awake_true w hm
  have HAW := hid haw
  clear haw h hm hz
  by_cases hok : fewF l = true ∧ s.size ≤ 8000 ∧ more.size ≤ 2000
  case neg =>
    have tests : fewF l = false ∨ (fewF l = true ∧ decide (8000 < (s.size : Int)) = true) ∨ (fewF l = true ∧ decide (8000 < (s.size : Int)) = false ∧ decide (2000 < (more.size : Int)) = true) := by
      cases hf : fewF l
      · exact .inl rfl
      · by_cases h1 : s.size ≤ 8000
        · exact .inr (.inr ⟨rfl, decide_eq_false (by omega), decide_eq_true (by by_cases h2 : more.size ≤ 2000; exact absurd ⟨hf, h1, h2⟩ hok; omega)⟩)
        · exact .inr (.inl ⟨rfl, decide_eq_true (by omega)⟩)
    clear hok
    rcases tests with hf | ⟨hf, t1⟩ | ⟨hf, t1, t2⟩
    all_goals
      rw [hf] at hF
      have HF := hid hF
      clear hF
      go_enter Tryd.func4, Tryd.ntmps4
      go_wp2_with (first
        | ((with_reducible (go_at_call 9; refine HAW.out.mono ?_)); rintro e w1 ⟨rfl, hc1⟩; have HA1 := hid (HA.out.keep hc1))
        | ((with_reducible (go_at_call 10; refine (HF.out _ HA1.out).mono ?_)); rintro e w2 ⟨rfl, hc2⟩; have HC2 := hid (hc2.then hc1); clear hc1 hc2))
      go_ret
      exact ⟨rfl, HC2.out⟩
  obtain ⟨hf, h8, h2⟩ := hok
  have t1 : decide (8000 < (s.size : Int)) = false := decide_eq_false (by omega)
  have t2 : decide (2000 < (more.size : Int)) = false := decide_eq_false (by omega)
  rw [hf] at hF
  have HF := hid hF
  obtain ⟨hsz, hn1⟩ := few_le hf HA.out.1
  have HSZ := hid hsz
  have hs6 : s.size ≤ 1000000 := by omega
  have hn6 : n ≤ 1000000 := by omega
  have hfs := fewF_sum hf
  have hpl := printS_len l
  have hps : (str (printS l)).size ≤ 56000 := by rw [str_size]; omega
  have hpm : (str (printS l) ++ more).size ≤ 1000000 := by rw [ByteArray.size_append]; omega
  have hadd : (str (printS l) ++ more).size = (str (printS l)).size + more.size := ByteArray.size_append
  have hx1 := parse_sum s.data.toList
  rw [len_data] at hx1
  have hx2 := parseL_len s.data.toList
  have HXS : Hid (Sized (parseL s.data.toList)) := hid (fun x hx => by have := sumF_mem hx; omega)
  have hx3 := printS_len (parseL s.data.toList)
  have hpx : (str (printS (parseL s.data.toList))).size ≤ 1000000 := by rw [str_size]; omega
  have HL2 := hid hx2
  have HPX := hid hpx
  clear hF hf hsz hfs hpl hx1 hx2 hx3 hpx
  have hP1 := fun W hW => parse_call W s hs6 hW
  have hP2 : ∀ (W : World) (B : Option Addr) (m d : Nat), FldsAt W B m (parseL s.data.toList) → m ≤ 64 → ML W → Calls Tryd.prog 11 #[.slice B m d] W fun e w' => e = .returned (.tuple #[.string (str (printS (parseL s.data.toList))), .int .i64 (printE (parseL s.data.toList))]) ∧ Chg NoB W w' :=
    fun W B m d hB hm2 hM => hd_print W B m d _ hB (by omega) HXS.out hM
  have hP3 : ∀ (W : World), ML W → Calls Tryd.prog 13 #[.string (str (printS (parseL s.data.toList)))] W fun e w' => ∃ A n c, e = .returned (.tuple #[.slice A n c, .string (str (parseR (printS (parseL s.data.toList)))), .int .i64 (parseE (printS (parseL s.data.toList)))]) ∧ n ≤ 64 ∧
    Hid (FldsAt w' A n (parseL (printS (parseL s.data.toList)))) ∧ Chg NoB W w' := fun W hM => by
    have := parse_call W _ HPX.out hM
    rw [str_toList] at this
    exact this
  have hP4 : ∀ (W : World), ML W → Calls Tryd.prog 13 #[.string (str (printS l) ++ more)] W fun e w' => ∃ A n c, e = .returned (.tuple #[.slice A n c, .string (str (parseR (printS l ++ more.data.toList))), .int .i64 (parseE (printS l ++ more.data.toList))]) ∧ n ≤ 64 ∧
    Hid (FldsAt w' A n (parseL (printS l ++ more.data.toList))) ∧ Chg NoB W w' := fun W hM => by
    have := parse_call W _ hpm hM
    rw [show (str (printS l) ++ more).data.toList = printS l ++ more.data.toList by
      conv => lhs; rw [← str_data more]
      rw [str_add, str_toList]] at this
    exact this
  have hB1 : ∀ x : List Fld, printE x = 0 → parseE (printS x) = 0 ∧ parseL (printS x) = x ∧ parseR (printS x) = [] := fun x hx => by
    have := parse_print hx []
    rw [List.append_nil] at this; exact this
  have HB1 := hid hB1
  have HB2 : Hid (printE l = 0 → parseE (printS l ++ more.data.toList) = 0 ∧ parseL (printS l ++ more.data.toList) = l ∧ parseR (printS l ++ more.data.toList) = more.data.toList) := hid (fun h => parse_print h _)
  have HP1 := hid hP1
  have HP2 := hid hP2
  have HP3 := hid hP3
  have HP4 := hid hP4
  clear hP1 hP2 hP3 hP4 hB1
  have hPl : ∀ (W : World), FldsAt W A n l → ML W → Calls Tryd.prog 11 #[.slice A n c] W fun e w' => e = .returned (.tuple #[.string (str (printS l)), .int .i64 (printE l)]) ∧ Chg NoB W w' :=
    fun W hW hM => hd_print W A n c l hW hn6 HSZ.out hM
  have HPl := hid hPl
  clear hPl
  have ways : parseE s.data.toList ≠ 0 ∨ (parseE s.data.toList = 0 ∧ printE (parseL s.data.toList) ≠ 0) ∨ (parseE s.data.toList = 0 ∧ printE (parseL s.data.toList) = 0) := by
    by_cases h1 : parseE s.data.toList = 0
    · by_cases h2 : printE (parseL s.data.toList) = 0
      · exact .inr (.inr ⟨h1, h2⟩)
      · exact .inr (.inl ⟨h1, h2⟩)
    · exact .inl h1
  have HPA : Hid (∀ W : World, ML W → Calls Tryd.prog 13 #[.string s] W fun e w' => ∃ A n c, e = .returned (.tuple #[.slice A n c, .string (str (parseR s.data.toList)), .int .i64 (parseE s.data.toList)]) ∧ n ≤ 64 ∧ Hid (FldsAt w' A n (parseL s.data.toList)) ∧ Chg NoB W w') := HP1
  by_cases hl0 : printE l = 0
  · obtain ⟨b1, b2, b3⟩ := HB2.out hl0
    have hPl2 : ∀ (W : World), FldsAt W A n l → ML W → Calls Tryd.prog 11 #[.slice A n c] W fun e w' => e = .returned (.tuple #[.string (str (printS l)), .int .i64 0]) ∧ Chg NoB W w' := fun W hW hM => by
      have := HPl.out W hW hM
      rw [hl0] at this; exact this
    have hP42 : ∀ (W : World), ML W → Calls Tryd.prog 13 #[.string (str (printS l) ++ more)] W fun e w' => ∃ A n c, e = .returned (.tuple #[.slice A n c, .string more, .int .i64 0]) ∧ n ≤ 64 ∧ Hid (FldsAt w' A n l) ∧ Chg NoB W w' := fun W hM => by
      have := HP4.out W hM
      rw [b1, b2, b3, str_data] at this; exact this
    have HPL := hid hPl2
    have HP5 := hid hP42
    clear hPl2 hP42 b1 b2 b3 hl0 HPl HP4 HB2
    rcases ways with hp | ⟨hp, hq⟩ | ⟨hp, hq⟩
    · have e1 : ((parseE s.data.toList : Int) == 0) = false := by rw [beq_eq_false_iff_ne]; omega
      clear hp HP3 HP2 HB1
      go_enter Tryd.func4, Tryd.ntmps4
      go_wp2_with (first
        | ((with_reducible (go_at_call 9; refine HAW.out.mono ?_)); rintro e w1 ⟨rfl, hc1⟩; have HA1 := hid (HA.out.keep hc1))
        | ((with_reducible (go_at_call 10; refine (HF.out _ HA1.out).mono ?_)); rintro e w2 ⟨rfl, hc2⟩; have HC2 := hid (hc2.then hc1); have HM2 := hid (HM.out.keep HC2.out not_false); clear hc1 hc2)
        | ((with_reducible (go_at_call 13; refine (HPA.out w2 HM2.out).mono ?_)); rintro e w3 ⟨A3, n3, c3, rfl, hn3, HX3, hc3⟩; have HC3 := hid (hc3.then HC2.out); have HA3 := hid (HA.out.keep HC3.out); have HM3 := hid (HM.out.keep HC3.out not_false); clear hc3 HM2)
        | ((with_reducible (go_at_call 11; refine (HPL.out w3 HA3.out HM3.out).mono ?_)); rintro e v4 ⟨rfl, hc4⟩; have HC14 := hid (hc4.then HC3.out); have HM14 := hid (HM.out.keep HC14.out not_false); clear hc4)
        | ((with_reducible (go_at_call 13; refine (HP5.out v4 HM14.out).mono ?_)); rintro e v5 ⟨A5, n5, c5, rfl, hn5, HX5, hc5⟩; have HC15 := hid (hc5.then HC14.out); have HA15 := hid (HA.out.keep HC15.out); have HFD := hid (fields_call v5 A5 A n5 n c5 c _ _ HX5.out HA15.out (by omega) hn6 rfl); clear hc5)
        | ((with_reducible (go_at_call 21; refine HFD.out.mono ?_)); rintro e v6 ⟨rfl, hc6⟩; have HC16 := hid (hc6.then HC15.out); clear hc6))
      go_ret
      exact ⟨rfl, HC16.out⟩
    · have e1 : ((parseE s.data.toList : Int) == 0) = true := by rw [hp]; decide
      have e2 : ((printE (parseL s.data.toList) : Int) == 0) = false := by rw [beq_eq_false_iff_ne]; omega
      clear hp hq HP3 HB1
      go_enter Tryd.func4, Tryd.ntmps4
      go_wp2_with (first
        | ((with_reducible (go_at_call 9; refine HAW.out.mono ?_)); rintro e w1 ⟨rfl, hc1⟩; have HA1 := hid (HA.out.keep hc1))
        | ((with_reducible (go_at_call 10; refine (HF.out _ HA1.out).mono ?_)); rintro e w2 ⟨rfl, hc2⟩; have HC2 := hid (hc2.then hc1); have HM2 := hid (HM.out.keep HC2.out not_false); clear hc1 hc2)
        | ((with_reducible (go_at_call 13; refine (HPA.out w2 HM2.out).mono ?_)); rintro e w3 ⟨A3, n3, c3, rfl, hn3, HX3, hc3⟩; have HC3 := hid (hc3.then HC2.out); have HA3 := hid (HA.out.keep HC3.out); have HM3 := hid (HM.out.keep HC3.out not_false); clear hc3 HM2)
        | ((with_reducible (go_at_call 11; refine (HP2.out w3 A3 n3 c3 HX3.out hn3 HM3.out).mono ?_)); rintro e w4 ⟨rfl, hc4⟩; have HC4 := hid (hc4.then HC3.out); have HA4 := hid (HA.out.keep HC4.out); have HM4 := hid (HM.out.keep HC4.out not_false); have HX4 := hid (HX3.out.keep hc4); clear hc4)
        | ((with_reducible (go_at_call 11; refine (HPL.out w4 HA4.out HM4.out).mono ?_)); rintro e v4 ⟨rfl, hc4⟩; have HC14 := hid (hc4.then HC4.out); have HM14 := hid (HM.out.keep HC14.out not_false); clear hc4)
        | ((with_reducible (go_at_call 13; refine (HP5.out v4 HM14.out).mono ?_)); rintro e v5 ⟨A5, n5, c5, rfl, hn5, HX5, hc5⟩; have HC15 := hid (hc5.then HC14.out); have HA15 := hid (HA.out.keep HC15.out); have HFD := hid (fields_call v5 A5 A n5 n c5 c _ _ HX5.out HA15.out (by omega) hn6 rfl); clear hc5)
        | ((with_reducible (go_at_call 21; refine HFD.out.mono ?_)); rintro e v6 ⟨rfl, hc6⟩; have HC16 := hid (hc6.then HC15.out); clear hc6))
      go_ret
      exact ⟨rfl, HC16.out⟩
    · have e1 : ((parseE s.data.toList : Int) == 0) = true := by rw [hp]; decide
      have e2 : ((printE (parseL s.data.toList) : Int) == 0) = true := by rw [hq]; decide
      have hP3z : ∀ (W : World), ML W → Calls Tryd.prog 13 #[.string (str (printS (parseL s.data.toList)))] W fun e w' => ∃ A n c, e = .returned (.tuple #[.slice A n c, .string ⟨#[]⟩, .int .i64 0]) ∧ n ≤ 64 ∧ Hid (FldsAt w' A n (parseL s.data.toList)) ∧ Chg NoB W w' := fun W hM => by
        have := HP3.out W hM
        obtain ⟨b1, b2, b3⟩ := HB1.out _ hq
        rw [b1, b2, b3] at this; exact this
      have HP3z := hid hP3z
      clear hP3z HP3 HB1
      clear hp hq
      go_enter Tryd.func4, Tryd.ntmps4
      go_wp2_with (first
        | ((with_reducible (go_at_call 9; refine HAW.out.mono ?_)); rintro e w1 ⟨rfl, hc1⟩; have HA1 := hid (HA.out.keep hc1))
        | ((with_reducible (go_at_call 10; refine (HF.out _ HA1.out).mono ?_)); rintro e w2 ⟨rfl, hc2⟩; have HC2 := hid (hc2.then hc1); have HM2 := hid (HM.out.keep HC2.out not_false); clear hc1 hc2)
        | ((with_reducible (go_at_call 13; refine (HPA.out w2 HM2.out).mono ?_)); rintro e w3 ⟨A3, n3, c3, rfl, hn3, HX3, hc3⟩; have HC3 := hid (hc3.then HC2.out); have HA3 := hid (HA.out.keep HC3.out); have HM3 := hid (HM.out.keep HC3.out not_false); clear hc3 HM2)
        | ((with_reducible (go_at_call 11; refine (HP2.out w3 A3 n3 c3 HX3.out hn3 HM3.out).mono ?_)); rintro e w4 ⟨rfl, hc4⟩; have HC4 := hid (hc4.then HC3.out); have HA4 := hid (HA.out.keep HC4.out); have HM4 := hid (HM.out.keep HC4.out not_false); have HX4 := hid (HX3.out.keep hc4); clear hc4)
        | ((with_reducible (go_at_call 13; refine (HP3z.out w4 HM4.out).mono ?_)); rintro e w5 ⟨A5, n5, c5, rfl, hn5, HX5, hc5⟩; have HC5 := hid (hc5.then HC4.out); have HX45 := hid (HX4.out.keep hc5); have HFD1 := hid (fields_call w5 A3 A5 n3 n5 c3 c5 _ _ HX45.out HX5.out (by omega) (by omega) rfl); clear hc5)
        | ((with_reducible (go_at_call 21; refine HFD1.out.mono ?_)); rintro e w6 ⟨rfl, hc6⟩; have HC6 := hid (hc6.then HC5.out); have HA6 := hid (HA.out.keep HC6.out); have HM6 := hid (HM.out.keep HC6.out not_false); clear hc6 HFD1)
        | ((with_reducible (go_at_call 11; refine (HPL.out w6 HA6.out HM6.out).mono ?_)); rintro e v4 ⟨rfl, hc4⟩; have HC14 := hid (hc4.then HC6.out); have HM14 := hid (HM.out.keep HC14.out not_false); clear hc4)
        | ((with_reducible (go_at_call 13; refine (HP5.out v4 HM14.out).mono ?_)); rintro e v5 ⟨A5, n5, c5, rfl, hn5, HX5, hc5⟩; have HC15 := hid (hc5.then HC14.out); have HA15 := hid (HA.out.keep HC15.out); have HFD := hid (fields_call v5 A5 A n5 n c5 c _ _ HX5.out HA15.out (by omega) hn6 rfl); clear hc5)
        | ((with_reducible (go_at_call 21; refine HFD.out.mono ?_)); rintro e v6 ⟨rfl, hc6⟩; have HC16 := hid (hc6.then HC15.out); clear hc6))
      go_ret
      exact ⟨rfl, HC16.out⟩
  · have hPl2 : ∀ (W : World), FldsAt W A n l → ML W → Calls Tryd.prog 11 #[.slice A n c] W fun e w' => e = .returned (.tuple #[.string ⟨#[]⟩, .int .i64 (printE l)]) ∧ Chg NoB W w' := fun W hW hM => by
      have := HPl.out W hW hM
      rw [printS_bad rfl hl0] at this; exact this
    have HPL := hid hPl2
    have e3 : ((printE l : Int) != 0) = true := by simp only [bne_iff_ne, ne_eq]; omega
    clear hPl2 hl0 HPl HP4 HB2
    rcases ways with hp | ⟨hp, hq⟩ | ⟨hp, hq⟩
    · have e1 : ((parseE s.data.toList : Int) == 0) = false := by rw [beq_eq_false_iff_ne]; omega
      clear hp HP3 HP2 HB1
      go_enter Tryd.func4, Tryd.ntmps4
      go_wp2_with (first
        | ((with_reducible (go_at_call 9; refine HAW.out.mono ?_)); rintro e w1 ⟨rfl, hc1⟩; have HA1 := hid (HA.out.keep hc1))
        | ((with_reducible (go_at_call 10; refine (HF.out _ HA1.out).mono ?_)); rintro e w2 ⟨rfl, hc2⟩; have HC2 := hid (hc2.then hc1); have HM2 := hid (HM.out.keep HC2.out not_false); clear hc1 hc2)
        | ((with_reducible (go_at_call 13; refine (HPA.out w2 HM2.out).mono ?_)); rintro e w3 ⟨A3, n3, c3, rfl, hn3, HX3, hc3⟩; have HC3 := hid (hc3.then HC2.out); have HA3 := hid (HA.out.keep HC3.out); have HM3 := hid (HM.out.keep HC3.out not_false); clear hc3 HM2)
        | ((with_reducible (go_at_call 11; refine (HPL.out w3 HA3.out HM3.out).mono ?_)); rintro e v4 ⟨rfl, hc4⟩; have HC14 := hid (hc4.then HC3.out); clear hc4))
      go_ret
      exact ⟨rfl, HC14.out⟩
    · have e1 : ((parseE s.data.toList : Int) == 0) = true := by rw [hp]; decide
      have e2 : ((printE (parseL s.data.toList) : Int) == 0) = false := by rw [beq_eq_false_iff_ne]; omega
      clear hp hq HP3 HB1
      go_enter Tryd.func4, Tryd.ntmps4
      go_wp2_with (first
        | ((with_reducible (go_at_call 9; refine HAW.out.mono ?_)); rintro e w1 ⟨rfl, hc1⟩; have HA1 := hid (HA.out.keep hc1))
        | ((with_reducible (go_at_call 10; refine (HF.out _ HA1.out).mono ?_)); rintro e w2 ⟨rfl, hc2⟩; have HC2 := hid (hc2.then hc1); have HM2 := hid (HM.out.keep HC2.out not_false); clear hc1 hc2)
        | ((with_reducible (go_at_call 13; refine (HPA.out w2 HM2.out).mono ?_)); rintro e w3 ⟨A3, n3, c3, rfl, hn3, HX3, hc3⟩; have HC3 := hid (hc3.then HC2.out); have HA3 := hid (HA.out.keep HC3.out); have HM3 := hid (HM.out.keep HC3.out not_false); clear hc3 HM2)
        | ((with_reducible (go_at_call 11; refine (HP2.out w3 A3 n3 c3 HX3.out hn3 HM3.out).mono ?_)); rintro e w4 ⟨rfl, hc4⟩; have HC4 := hid (hc4.then HC3.out); have HA4 := hid (HA.out.keep HC4.out); have HM4 := hid (HM.out.keep HC4.out not_false); have HX4 := hid (HX3.out.keep hc4); clear hc4)
        | ((with_reducible (go_at_call 11; refine (HPL.out w4 HA4.out HM4.out).mono ?_)); rintro e v4 ⟨rfl, hc4⟩; have HC14 := hid (hc4.then HC4.out); clear hc4))
      go_ret
      exact ⟨rfl, HC14.out⟩
    · have e1 : ((parseE s.data.toList : Int) == 0) = true := by rw [hp]; decide
      have e2 : ((printE (parseL s.data.toList) : Int) == 0) = true := by rw [hq]; decide
      have hP3z : ∀ (W : World), ML W → Calls Tryd.prog 13 #[.string (str (printS (parseL s.data.toList)))] W fun e w' => ∃ A n c, e = .returned (.tuple #[.slice A n c, .string ⟨#[]⟩, .int .i64 0]) ∧ n ≤ 64 ∧ Hid (FldsAt w' A n (parseL s.data.toList)) ∧ Chg NoB W w' := fun W hM => by
        have := HP3.out W hM
        obtain ⟨b1, b2, b3⟩ := HB1.out _ hq
        rw [b1, b2, b3] at this; exact this
      have HP3z := hid hP3z
      clear hP3z HP3 HB1
      clear hp hq
      go_enter Tryd.func4, Tryd.ntmps4
      go_wp2_with (first
        | ((with_reducible (go_at_call 9; refine HAW.out.mono ?_)); rintro e w1 ⟨rfl, hc1⟩; have HA1 := hid (HA.out.keep hc1))
        | ((with_reducible (go_at_call 10; refine (HF.out _ HA1.out).mono ?_)); rintro e w2 ⟨rfl, hc2⟩; have HC2 := hid (hc2.then hc1); have HM2 := hid (HM.out.keep HC2.out not_false); clear hc1 hc2)
        | ((with_reducible (go_at_call 13; refine (HPA.out w2 HM2.out).mono ?_)); rintro e w3 ⟨A3, n3, c3, rfl, hn3, HX3, hc3⟩; have HC3 := hid (hc3.then HC2.out); have HA3 := hid (HA.out.keep HC3.out); have HM3 := hid (HM.out.keep HC3.out not_false); clear hc3 HM2)
        | ((with_reducible (go_at_call 11; refine (HP2.out w3 A3 n3 c3 HX3.out hn3 HM3.out).mono ?_)); rintro e w4 ⟨rfl, hc4⟩; have HC4 := hid (hc4.then HC3.out); have HA4 := hid (HA.out.keep HC4.out); have HM4 := hid (HM.out.keep HC4.out not_false); have HX4 := hid (HX3.out.keep hc4); clear hc4)
        | ((with_reducible (go_at_call 13; refine (HP3z.out w4 HM4.out).mono ?_)); rintro e w5 ⟨A5, n5, c5, rfl, hn5, HX5, hc5⟩; have HC5 := hid (hc5.then HC4.out); have HX45 := hid (HX4.out.keep hc5); have HFD1 := hid (fields_call w5 A3 A5 n3 n5 c3 c5 _ _ HX45.out HX5.out (by omega) (by omega) rfl); clear hc5)
        | ((with_reducible (go_at_call 21; refine HFD1.out.mono ?_)); rintro e w6 ⟨rfl, hc6⟩; have HC6 := hid (hc6.then HC5.out); have HA6 := hid (HA.out.keep HC6.out); have HM6 := hid (HM.out.keep HC6.out not_false); clear hc6 HFD1)
        | ((with_reducible (go_at_call 11; refine (HPL.out w6 HA6.out HM6.out).mono ?_)); rintro e v4 ⟨rfl, hc4⟩; have HC14 := hid (hc4.then HC6.out); clear hc4))
      go_ret
      exact ⟨rfl, HC14.out⟩
end Go.Proofs.YtkphllolghlmeaaDoor
