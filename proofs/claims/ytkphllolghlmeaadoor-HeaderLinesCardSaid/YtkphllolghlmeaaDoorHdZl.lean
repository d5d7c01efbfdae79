/- HeaderLines: the walk. -/
import Derived.Test.YtkphllolghlmeaaDoorHdZb
namespace Go.Proofs.YtkphllolghlmeaaDoor
open Go.RowKit

def offL (L : List (List UInt8)) (k : Nat) : Nat := ((L.take k).flatMap crlf).length
theorem offL_succ {L : List (List UInt8)} {k : Nat} {ln : List UInt8} (h : L[k]? = some ln) : offL L (k + 1) = offL L k + ln.length + 2 := by
  unfold offL
  rw [crlf_flat_succ h]; simp; omega
theorem offL_all {L : List (List UInt8)} {k : Nat} (h : L.length ≤ k) : offL L k = (L.flatMap crlf).length := by
  unfold offL; rw [List.take_of_length_le h]
theorem drop_off {L : List (List UInt8)} {k : Nat} {ln : List UInt8} (h : L[k]? = some ln) : ∃ r, (L.flatMap crlf).drop (offL L k) = ln ++ 13 :: 10 :: r := by
  obtain ⟨hk, rfl⟩ := List.getElem?_eq_some_iff.1 h
  refine ⟨(L.drop (k + 1)).flatMap crlf, ?_⟩
  have e : L.flatMap crlf = (L.take k).flatMap crlf ++ (L.drop k).flatMap crlf := by rw [← List.flatMap_append, List.take_append_drop]
  rw [e]
  unfold offL
  rw [List.drop_left]
  conv => lhs; rw [List.drop_eq_getElem_cons hk, List.flatMap_cons]
  rw [show crlf L[k] = L[k] ++ [13, 10] from rfl, List.append_assoc]; rfl
theorem at_off {L : List (List UInt8)} {k : Nat} {ln : List UInt8} (h : L[k]? = some ln) (j : Nat) : (L.flatMap crlf)[offL L k + j]? = if j < ln.length then ln[j]? else if j = ln.length then some 13 else if j = ln.length + 1 then some 10 else (L.flatMap crlf)[offL L k + j]? := by
  obtain ⟨r, hr⟩ := drop_off h
  by_cases h1 : j < ln.length
  · rw [if_pos h1, ← List.getElem?_drop, hr, List.getElem?_append_left h1]
  · rw [if_neg h1]
    by_cases h2 : j = ln.length
    · rw [if_pos h2, ← List.getElem?_drop, hr, h2, List.getElem?_append_right (Nat.le_refl _), Nat.sub_self]; rfl
    · rw [if_neg h2]
      by_cases h3 : j = ln.length + 1
      · rw [if_pos h3, ← List.getElem?_drop, hr, h3, List.getElem?_append_right (Nat.le_succ _), Nat.succ_sub (Nat.le_refl _), Nat.sub_self]; rfl
      · rw [if_neg h3]
def LinesI (L : List (List UInt8)) (k f i : Nat) : Prop := f = offL L k ∧ f ≤ i + 1 ∧ k ≤ L.length ∧ ∀ ln, L[k]? = some ln → i ≤ f + ln.length
theorem LinesI.zero (L : List (List UInt8)) : LinesI L 0 0 0 := ⟨rfl, by omega, Nat.zero_le _, fun _ _ => Nat.zero_le _⟩
theorem LinesI.lt {L : List (List UInt8)} {k f i : Nat} (h : LinesI L k f i) (hi : i + 1 < (L.flatMap crlf).length) : k < L.length := by
  obtain ⟨h1, h2, h3, _⟩ := h
  rcases Nat.lt_or_ge k L.length with h | h
  · exact h
  · rw [offL_all h] at h1; omega
theorem LinesI.end {L : List (List UInt8)} {k f i : Nat} (h : LinesI L k f i) (hi : (L.flatMap crlf).length ≤ i + 1) : f = (L.flatMap crlf).length := by
  obtain ⟨h1, h2, h3, h4⟩ := h
  rcases Nat.lt_or_ge k L.length with hk | hk
  · exfalso
    have e := List.getElem?_eq_getElem hk
    have h5 := h4 _ e
    have h6 := at_off e (L[k].length + 1)
    rw [if_neg (by omega), if_neg (by omega), if_pos rfl] at h6
    have := (List.getElem?_eq_some_iff.1 h6).1
    omega
  · rw [h1, offL_all hk]
theorem LinesI.step {L : List (List UInt8)} {k f i : Nat} {a b : UInt8} (h : LinesI L k f i) (hc : ∀ l ∈ L, NoCR l) (h1 : (L.flatMap crlf)[i]? = some a) (h2 : (L.flatMap crlf)[i + 1]? = some b) :
    (a ≠ 13 ∧ LinesI L k f (i + 1)) ∨ (a = 13 ∧ b = 10 ∧ f ≤ i ∧ ∃ ln, L[k]? = some ln ∧ ((L.flatMap crlf).drop f).take (i - f) = ln ∧ LinesI L (k + 1) (i + 2) (i + 1)) := by
  have hk := h.lt (List.getElem?_eq_some_iff.1 h2).1
  obtain ⟨e1, e2, e3, e4⟩ := h
  have hln := List.getElem?_eq_getElem hk
  have hle := e4 _ hln
  generalize hL : L[k] = ln at hln hle
  by_cases hb : i + 1 = f
  · left
    refine ⟨?_, e1, by omega, e3, fun l hl => by rw [hln] at hl; injection hl with hl; subst hl; omega⟩
    cases k with
    | zero => simp [offL] at e1; omega
    | succ k =>
      have hk2 := List.getElem?_eq_getElem (show k < L.length by omega)
      have ho := offL_succ hk2
      have := at_off hk2 (L[k].length + 1)
      rw [if_neg (by omega), if_neg (by omega), if_pos rfl, show offL L k + (L[k].length + 1) = i by omega, h1] at this
      injection this with this
      rw [this]; decide
  · by_cases hlt : i < f + ln.length
    · left
      have := at_off hln (i - f)
      rw [if_pos (by omega), ← e1, show f + (i - f) = i by omega, h1] at this
      refine ⟨hc ln (List.mem_of_getElem? hln) a (List.mem_of_getElem? this.symm), e1, by omega, e3, fun l hl => by rw [hln] at hl; injection hl with hl; subst hl; omega⟩
    · right
      have hi : i = f + ln.length := by omega
      have x1 := at_off hln ln.length
      have x2 := at_off hln (ln.length + 1)
      rw [if_neg (by omega), if_pos rfl, ← e1, ← hi, h1] at x1
      rw [if_neg (by omega), if_neg (by omega), if_pos rfl, ← e1, ← Nat.add_assoc, ← hi, h2] at x2
      injection x1 with x1
      injection x2 with x2
      obtain ⟨r, hr⟩ := drop_off hln
      refine ⟨x1, x2, by omega, ln, hln, ?_, ?_, by omega, hk, fun l hl => by omega⟩
      · rw [e1, hr, show i - offL L k = ln.length by omega, List.take_left]
      · rw [offL_succ hln, ← e1]; omega
/-- A printed header's lines, the empty one too. -/
def linesT (l : List Fld) : List (List UInt8) := l.flatMap linesF ++ [[]]
theorem printS_lines {l : List Fld} (h : printE l = 0) : printS l = (linesT l).flatMap crlf := by
  rw [printS_ok h, flat_lines]; unfold linesT; simp [crlf]
theorem linesT_ok {l : List Fld} (h : printE l = 0) : (∀ ln ∈ linesT l, NoCR ln) ∧ (∀ ln ∈ linesT l, ln.length ≤ 998) ∧ ∀ (k : Nat) (ln : List UInt8), (linesT l)[k]? = some ln → (ln = [] ↔ offL (linesT l) (k + 1) = (printS l).length) := by
  obtain ⟨h1, h2, h3⟩ := printE_zero h
  have ha := all_lines h1
  have hs := all_short h3
  refine ⟨fun ln hl => ?_, fun ln hl => ?_, fun k ln hk => ?_⟩
  · rcases List.mem_append.1 hl with hl | hl
    · exact (ha ln hl).2
    · simp at hl; subst hl; intro c hc; cases hc
  · rcases List.mem_append.1 hl with hl | hl
    · exact hs ln hl
    · simp at hl; subst hl; simp
  · have hlt := (List.getElem?_eq_some_iff.1 hk).1
    have hlen : (linesT l).length = (l.flatMap linesF).length + 1 := by unfold linesT; simp
    rw [printS_lines h]
    by_cases he : k < (l.flatMap linesF).length
    · have h5 : (l.flatMap linesF)[k]? = some ln := by
        unfold linesT at hk; rw [List.getElem?_append_left he] at hk; exact hk
      constructor
      · intro e; exact absurd e (ha ln (List.mem_of_getElem? h5)).1
      · intro e
        exfalso
        have hk2 := List.getElem?_eq_getElem (show k + 1 < (linesT l).length by omega)
        have h6 := at_off hk2 ((linesT l)[k + 1].length + 1)
        rw [if_neg (by omega), if_neg (by omega), if_pos rfl] at h6
        have := (List.getElem?_eq_some_iff.1 h6).1
        omega
    · have hk3 : k = (l.flatMap linesF).length := by omega
      have h5 : ln = [] := by
        unfold linesT at hk; rw [hk3, List.getElem?_append_right (Nat.le_refl _), Nat.sub_self] at hk
        simpa using hk.symm
      constructor
      · intro _; exact offL_all (by omega)
      · intro _; exact h5
set_option maxRecDepth 100000 in
set_option maxHeartbeats 16000000 in
theorem lines_walk (w : World) (A : Option Addr) (n c : Nat) (l : List Fld) (h : FldsAt w A n l) (hn : n ≤ maxLen) (hz : MaxF l) (hm : ML w) :
    Calls Tryd.prog 5 #[.slice A n c] w fun e w' => e = .returned (.bool true) ∧ Chg NoB w w' := by
  have HM := hid hm
  have HA := hid h
  have hF : ∀ W, FldsAt W A n l → Calls Tryd.prog 10 #[.slice A n c] W fun e w' => e = .returned (.bool (fewF l)) ∧ Chg NoB W w' := fun W hW => few_call W A n c l hW hn hz
  have haw := awake_true w hm
  have HAW := hid haw
  clear haw h hm hz
  cases hf : fewF l
  · rw [hf] at hF
    have HF := hid hF
    clear hF hf
    go_enter Tryd.func5, Tryd.ntmps5
    go_wp2_with (first
      | ((with_reducible (go_at_call 9; refine HAW.out.mono ?_)); rintro e w1 ⟨rfl, hc1⟩; have HA1 := hid (HA.out.keep hc1))
      | ((with_reducible (go_at_call 10; refine (HF.out _ HA1.out).mono ?_)); rintro e w2 ⟨rfl, hc2⟩; have HC2 := hid (hc2.then hc1); clear hc1 hc2))
    go_ret
    exact ⟨rfl, HC2.out⟩
  obtain ⟨hsz, hn1⟩ := few_le hf HA.out.1
  have HSZ := hid hsz
  have hn6 : n ≤ 1000000 := by omega
  have hfs := fewF_sum hf
  have hpl := printS_len l
  have hqs : (str (printS l)).size = (printS l).length := str_size _
  rw [hf] at hF
  have HF := hid hF
  have hPl : ∀ (W : World), FldsAt W A n l → ML W → Calls Tryd.prog 11 #[.slice A n c] W fun e w' => e = .returned (.tuple #[.string (str (printS l)), .int .i64 (printE l)]) ∧ Chg NoB W w' :=
    fun W hW hM => hd_print W A n c l hW hn6 HSZ.out hM
  have HPl := hid hPl
  clear hF hf hsz hPl
  by_cases hl0 : printE l = 0
  case neg =>
    have e3 : ((printE l : Int) != 0) = true := by simp only [bne_iff_ne, ne_eq]; omega
    clear hl0
    go_enter Tryd.func5, Tryd.ntmps5
    go_wp2_with (first
      | ((with_reducible (go_at_call 9; refine HAW.out.mono ?_)); rintro e w1 ⟨rfl, hc1⟩; have HA1 := hid (HA.out.keep hc1))
      | ((with_reducible (go_at_call 10; refine (HF.out _ HA1.out).mono ?_)); rintro e w2 ⟨rfl, hc2⟩; have HC2 := hid (hc2.then hc1); have HA2 := hid (HA.out.keep HC2.out); have HM2 := hid (HM.out.keep HC2.out not_false); clear hc1 hc2)
      | ((with_reducible (go_at_call 11; refine (HPl.out w2 HA2.out HM2.out).mono ?_)); rintro e w4 ⟨rfl, hc4⟩; have HC4 := hid (hc4.then HC2.out); clear hc4))
    go_ret
    exact ⟨rfl, HC4.out⟩
  have hT := printS_lines hl0
  obtain ⟨ok1, ok2, ok3⟩ := linesT_ok hl0
  have hPl2 : ∀ (W : World), FldsAt W A n l → ML W → Calls Tryd.prog 11 #[.slice A n c] W fun e w' => e = .returned (.tuple #[.string (str (printS l)), .int .i64 0]) ∧ Chg NoB W w' := fun W hW hM => by
    have := HPl.out W hW hM
    rw [hl0] at this; exact this
  obtain ⟨q, hq⟩ : ∃ q, q = str (printS l) := ⟨_, rfl⟩
  have hqd : q.data.toList = (linesT l).flatMap crlf := by rw [hq, str_toList, hT]
  have hqsz : q.size = ((linesT l).flatMap crlf).length := by rw [hq, str_size, hT]
  have hqb : q.size ≤ 56000 := by rw [hq]; omega
  rw [← hq] at hPl2
  rw [hT] at ok3
  generalize linesT l = L at hqd hqsz ok1 ok2 ok3
  have HPL := hid hPl2
  have HQD := hid hqd
  have HQS := hid hqsz
  have OK1 := hid ok1
  have OK2 := hid ok2
  have OK3 := hid ok3
  clear hPl2 hq hT hl0 HPl hqd hqsz ok1 ok2 ok3 hqs hpl hfs
  go_enter Tryd.func5, Tryd.ntmps5
  go_wp2_with (first
    | ((with_reducible (go_at_call 9; refine HAW.out.mono ?_)); rintro e w1 ⟨rfl, hc1⟩; have HA1 := hid (HA.out.keep hc1))
    | ((with_reducible (go_at_call 10; refine (HF.out _ HA1.out).mono ?_)); rintro e w2 ⟨rfl, hc2⟩; have HC2 := hid (hc2.then hc1); have HA2 := hid (HA.out.keep HC2.out); have HM2 := hid (HM.out.keep HC2.out not_false); clear hc1 hc2)
    | ((with_reducible (go_at_call 11; refine (HPL.out w2 HA2.out HM2.out).mono ?_)); rintro e w4 ⟨rfl, hc4⟩; have HC4 := hid (hc4.then HC2.out); clear hc4))
  go_loop [5, 6, 7] (fun v5 v6 _ => ∃ f i k : Nat, v5 = .int .i64 f ∧ v6 = .int .i64 i ∧ i ≤ q.size ∧ f ≤ q.size ∧ Hid (LinesI L k f i)) (fun _ v6 _ => q.size - (intOf v6).toNat)
  case atStart => exact ⟨0, 0, 0, rfl, rfl, Nat.zero_le _, Nat.zero_le _, hid (LinesI.zero L)⟩
  case round =>
    obtain ⟨f, i, k, rfl, rfl, hi, hfq, HI⟩ := hrel
    by_cases hlt : i + 1 < q.size
    · have t1 : decide ((i : Int) + 1 < (q.size : Int)) = true := decide_eq_true (by omega)
      have i0 : (0 : Int) ≤ (i : Int) := by omega
      have i1 : (i : Int) < (q.size : Int) := by omega
      have i2 : (0 : Int) ≤ (i : Int) + 1 := by omega
      have i3 : (i : Int) + 1 < (q.size : Int) := by omega
      obtain ⟨x, hx, hxl⟩ := byte_at q i (by omega)
      obtain ⟨y, hy, hyl⟩ := byte_at q (i + 1) hlt
      rw [HQD.out] at hxl hyl
      rcases HI.out.step OK1.out hxl hyl with ⟨ha, hI⟩ | ⟨rfl, rfl, hfi, ln, hln, htk, hI⟩
      · have d1 : ((x.toNat : Int) != 13) = true := by
          simp only [bne_iff_ne, ne_eq]; intro e; exact ha (UInt8.toNat_inj.1 (by show x.toNat = 13; omega))
        have HI2 := hid hI
        clear hxl hyl ha hI
        go_wp2
        go_round
        case rel => exact ⟨f, i + 1, k, rfl, by go_num, by omega, hfq, HI2⟩
        case measure => simp [intOf]; omega
      · have hI1 := hI.1
        have h3 := OK3.out k ln hln
        rw [← hI1, ← HQS.out] at h3
        have h2 := OK2.out ln (List.mem_of_getElem? hln)
        have hex : (q.extract f i).data.toList = ln := by rw [extract_str, str_toList, HQD.out]; exact htk
        have hes : (q.extract f i).size = i - f := extract_size q f i (by omega)
        have hll : i - f = ln.length := by rw [← hes, ← hex, len_data]
        have u1 : decide (998 < (((q.extract f i).size : Nat) : Int)) = false := decide_eq_false (by omega)
        have u2 : decide (998 < ((i - f : Nat) : Int)) = false := decide_eq_false (by omega)
        have u3 : decide (998 < i - f) = false := decide_eq_false (by omega)
        have f0 : (0 : Int) ≤ (f : Int) := by omega
        have f1 : (f : Int) ≤ (i : Int) := by omega
        have hq2 : i + 2 ≤ q.size := by omega
        have HI2 := hid hI
        have HEX := hid hex
        by_cases hne : ln = []
        · have v1 : ((q.extract f i).toList == []) = true := by rw [ByteArray.toList_eq, hex, hne]; rfl
          have v2 : (q.extract f i).toList.isEmpty = true := by rw [ByteArray.toList_eq, hex, hne]; rfl
          have v3 : (((i : Int) + 2) == (q.size : Int)) = true := by rw [beq_iff_eq]; have := h3.1 hne; omega
          clear hxl hyl hI hI1 h3 h2 hex hll hne htk hln
          go_wp2
          go_round
          case rel => exact ⟨i + 2, i + 1, k + 1, by go_num, by go_num, by omega, by omega, HI2⟩
          case measure => simp [intOf]; omega
        · have v1 : ((q.extract f i).toList == []) = false := by rw [ByteArray.toList_eq, hex, beq_eq_false_iff_ne]; exact hne
          have v2 : (q.extract f i).toList.isEmpty = false := by rw [ByteArray.toList_eq, hex, ← Bool.not_eq_true, List.isEmpty_iff]; exact hne
          have v3 : (((i : Int) + 2) == (q.size : Int)) = false := by rw [beq_eq_false_iff_ne]; intro e; exact hne (h3.2 (by omega))
          clear hxl hyl hI hI1 h3 h2 hex hll hne htk hln
          go_wp2
          go_round
          case rel => exact ⟨i + 2, i + 1, k + 1, by go_num, by go_num, by omega, by omega, HI2⟩
          case measure => simp [intOf]; omega
    · have t1 : decide ((i : Int) + 1 < (q.size : Int)) = false := decide_eq_false (by omega)
      have he : f = q.size := by rw [HQS.out]; exact HI.out.end (by rw [← HQS.out]; omega)
      have v3 : ((f : Int) == (q.size : Int)) = true := by rw [he]; exact beq_self_eq_true _
      clear he
      go_wp2
      go_ret
      exact ⟨rfl, HC4.out⟩
end Go.Proofs.YtkphllolghlmeaaDoor
