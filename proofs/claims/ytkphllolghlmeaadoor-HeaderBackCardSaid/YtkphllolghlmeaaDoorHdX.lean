/- HeaderTells: the walk. -/
import Derived.Test.YtkphllolghlmeaaDoorHdW
import Derived.Test.YtkphllolghlmeaaDoorHdD
import Derived.Deep.RegionHeld3
namespace Go.Proofs.YtkphllolghlmeaaDoor
open Go.RowKit
set_option linter.unusedVariables false

theorem Chg.then {a b c : World} (k : Chg NoB b c) (h : Chg NoB a b) : Chg NoB a c := h.trans k (fun _ _ h => h)
/-- All fields are of a size that a string may have. -/
def MaxF (l : List Fld) : Prop := ∀ x ∈ l, x.name.size ≤ maxLen ∧ x.body.size ≤ maxLen
theorem few_call (w : World) (A : Option Addr) (n c : Nat) (l : List Fld) (h : FldsAt w A n l) (hn : n ≤ maxLen) (hz : MaxF l) :
    Calls Tryd.prog 10 #[.slice A n c] w fun e w' => e = .returned (.bool (fewF l)) ∧ Chg NoB w w' :=
  (few_any w A n c l h hn hz).mono fun _ _ h => ⟨h.1, h.2.chg NoB⟩
theorem ref_get_call (w : World) (A : Option Addr) (n c : Nat) (l : List Fld) (nm : ByteArray) (h : FldsAt w A n l) (hn : n ≤ 1000000) (hl : Sized l) :
    Calls Tryd.prog 16 #[.slice A n c, .string nm] w fun e w' => e = .returned (.tuple #[.string (getV l nm), .bool (getB l nm)]) ∧ Chg NoB w w' :=
  (ref_get w A n c l nm h hn hl).mono fun _ _ h => ⟨h.1, h.2.chg NoB⟩
theorem fields_call (w : World) (A B : Option Addr) (n m c d : Nat) (l k : List Fld) (h : FldsAt w A n l) (h' : FldsAt w B m k) (hn : n ≤ 1000000) (hm : m ≤ 1000000) (he : l = k) :
    Calls Tryd.prog 21 #[.slice A n c, .slice B m d] w fun e w' => e = .returned (.bool true) ∧ Chg NoB w w' :=
  (ref_fields w A B n m c d l k h h' hn hm).mono fun _ _ h => ⟨by rw [h.1, (eqFlds_iff l k).2 he], h.2.chg NoB⟩
/-- Parse, as the law's walk wants it. -/
theorem parse_call (w : World) (s : ByteArray) (hs : s.size ≤ 1000000) (hm : ML w) : Calls Tryd.prog 13 #[.string s] w fun e w' => ∃ A n c, e = .returned (.tuple #[.slice A n c, .string (str (parseR s.data.toList)), .int .i64 (parseE s.data.toList)]) ∧ n ≤ 64 ∧
    Hid (FldsAt w' A n (parseL s.data.toList)) ∧ Chg NoB w w' := by
  refine (hd_parse w s hs hm).mono fun e w' ⟨A, c, h1, h2, h3⟩ => ⟨A, _, c, h1, ?_, hid (FldsAt.of_own h2), h3⟩
  unfold parseL
  split
  · rename_i h
    unfold parseE at h
    cases hsc : scan [] s.data.toList with
    | none => rw [hsc] at h; cases h
    | some p =>
      rw [hsc] at h
      simp only at h ⊢
      rw [List.length_map]
      split at h
      · cases h
      split at h
      · cases h
      split at h
      · cases h
      split at h
      · cases h
      · omega
  · simp
theorem ref_parse_call (w : World) (s : ByteArray) (hs : s.size ≤ 1000000) : Calls Tryd.prog 14 #[.string s] w fun e w' => ∃ A n c, e = .returned (.tuple #[.slice A n c, .string (str (parseR s.data.toList)), .int .i64 (parseE s.data.toList)]) ∧ n = (parseL s.data.toList).length ∧
    Hid (FldsAt w' A n (parseL s.data.toList)) ∧ Chg NoB w w' :=
  (ref_parse w s hs).mono fun e w' ⟨A, c, h1, h2, h3⟩ => ⟨A, _, c, h1, rfl, hid (FldsAt.of_own h2), h3⟩
theorem few_le {l : List Fld} {n : Nat} (h : fewF l = true) (hl : l.length = n) : Sized l ∧ n ≤ 100 := by rw [← hl]; exact fewF_sized h
set_option maxRecDepth 100000 in
set_option maxHeartbeats 16000000 in
theorem tells_walk (w : World) (A : Option Addr) (n c : Nat) (l : List Fld) (s nm : ByteArray) (h : FldsAt w A n l) (hn : n ≤ maxLen) (hz : MaxF l) (hs : s.size ≤ maxLen) (hnm : nm.size ≤ maxLen) (hm : ML w) :
    Calls Tryd.prog 3 #[.slice A n c, .string s, .string nm] w fun e w' => e = .returned (.bool true) ∧ Chg NoB w w' := by
  unfold maxLen at hs hnm
  have HM := hid hm
  have HA := hid h
  have hF : ∀ W, FldsAt W A n l → Calls Tryd.prog 10 #[.slice A n c] W fun e w' => e = .returned (.bool (fewF l)) ∧ Chg NoB W w' := fun W hW => few_call W A n c l hW hn hz
  have haw := awake_true w hm
  have HAW := hid haw
  clear haw h hm hz
  by_cases hok : fewF l = true ∧ s.size ≤ 8000 ∧ nm.size ≤ 200
  case neg =>
    have tests : fewF l = false ∨ (fewF l = true ∧ decide (8000 < (s.size : Int)) = true) ∨ (fewF l = true ∧ decide (8000 < (s.size : Int)) = false ∧ decide (200 < (nm.size : Int)) = true) := by
      cases hf : fewF l
      · exact .inl rfl
      · by_cases h1 : s.size ≤ 8000
        · exact .inr (.inr ⟨rfl, decide_eq_false (by omega), decide_eq_true (by by_cases h2 : nm.size ≤ 200; exact absurd ⟨hf, h1, h2⟩ hok; omega)⟩)
        · exact .inr (.inl ⟨rfl, decide_eq_true (by omega)⟩)
    clear hok
    rcases tests with hf | ⟨hf, t1⟩ | ⟨hf, t1, t2⟩
    all_goals
      rw [hf] at hF
      have HF := hid hF
      clear hF
      go_enter Tryd.func3, Tryd.ntmps3
      go_wp2_with (first
        | ((with_reducible (go_at_call 9; refine HAW.out.mono ?_)); rintro e w1 ⟨rfl, hc1⟩; have HA1 := hid (HA.out.keep hc1))
        | ((with_reducible (go_at_call 10; refine (HF.out _ HA1.out).mono ?_)); rintro e w2 ⟨rfl, hc2⟩; have HC2 := hid (hc2.then hc1); clear hc1 hc2))
      go_ret
      exact ⟨rfl, HC2.out⟩
  obtain ⟨hf, h8, h2⟩ := hok
  have t1 : decide (8000 < (s.size : Int)) = false := decide_eq_false (by omega)
  have t2 : decide (200 < (nm.size : Int)) = false := decide_eq_false (by omega)
  rw [hf] at hF
  have HF := hid hF
  obtain ⟨hsz, hn1⟩ := few_le hf HA.out.1
  have HSZ := hid hsz
  have hs6 : s.size ≤ 1000000 := by omega
  have hn6 : n ≤ 1000000 := by omega
  have hnmm : nm.size ≤ maxLen := by unfold maxLen; omega
  clear hF hf hsz
  go_enter Tryd.func3, Tryd.ntmps3
  go_wp2_with (first
    | ((with_reducible (go_at_call 9; refine HAW.out.mono ?_)); rintro e w1 ⟨rfl, hc1⟩; have HA1 := hid (HA.out.keep hc1))
    | ((with_reducible (go_at_call 10; refine (HF.out _ HA1.out).mono ?_)); rintro e w2 ⟨rfl, hc2⟩; have HC2 := hid (hc2.then hc1); have HA2 := hid (HA.out.keep HC2.out); have HM2 := hid (HM.out.keep HC2.out not_false); clear hc1 hc2)
    | ((with_reducible (go_at_call 11; refine (hd_print w2 A n c l HA2.out hn6 HSZ.out HM2.out).mono ?_)); rintro e w3 ⟨rfl, hc3⟩; have HC3 := hid (hc3.then HC2.out); have HA3 := hid (HA.out.keep HC3.out); clear hc3)
    | ((with_reducible (go_at_call 12; refine (ref_print w3 A n c l HA3.out hn6 HSZ.out).mono ?_)); rintro e w4 ⟨rfl, hc4⟩; have HC4 := hid (hc4.then HC3.out); have HM4 := hid (HM.out.keep HC4.out not_false); clear hc4)
    | ((with_reducible (go_at_call 13; refine (parse_call w4 s hs6 HM4.out).mono ?_)); rintro e w5 ⟨A5, n5, c5, rfl, hn5, HX5, hc5⟩; have HC5 := hid (hc5.then HC4.out); clear hc5)
    | ((with_reducible (go_at_call 14; refine (ref_parse_call w5 s hs6).mono ?_)); rintro e w6 ⟨A6, n6, c6, rfl, hn6', HX6, hc6⟩; have HN6 := hid hn6'; have HC6 := hid (hc6.then HC5.out); have HX5' := hid (HX5.out.keep hc6); have HA6 := hid (HA.out.keep HC6.out); clear hc6 HX5 hn6')
    | ((with_reducible (go_at_call 15; refine (hd_get w6 A n c l nm HA6.out hn6 HSZ.out hnmm).mono ?_)); rintro e w7 ⟨rfl, hc7⟩; have HC7 := hid (hc7.then HC6.out); have HX57 := hid (HX5'.out.keep hc7); have HX67 := hid (HX6.out.keep hc7); have HA7 := hid (HA.out.keep HC7.out); clear hc7)
    | ((with_reducible (go_at_call 16; refine (ref_get_call w7 A n c l nm HA7.out hn6 HSZ.out).mono ?_)); rintro e w8 ⟨rfl, hc8⟩; have HC8 := hid (hc8.then HC7.out); have HX58 := hid (HX57.out.keep hc8); have HX68 := hid (HX67.out.keep hc8); clear hc8))
  have hN6 : n6 ≤ 1000000 := by
    have h1 := HX5'.out.1
    have h2 := HX6.out.1
    omega
  go_loopg [21] n (fun gk v wr => ∃ i : Nat, v = .int .i64 i ∧ i + gk = n ∧ Hid (Chg NoB w8 wr))
  case atStart => exact ⟨0, rfl, by omega, hid (Chg.refl _ _)⟩
  case round =>
    obtain ⟨i, rfl, hi, HC⟩ := hrel
    by_cases hlt : i < n
    · have u1 : decide ((i : Int) < (n : Int)) = true := decide_eq_true (by omega)
      have u2 : decide (i < n) = true := decide_eq_true hlt
      have i0 : (0 : Int) ≤ (i : Int) := by omega
      have i1 : (i : Int) < (n : Int) := by omega
      have hcw := HC.out.then HC8.out
      obtain ⟨b, o, x, rfl, hb, hx, k0, k1⟩ := (HA.out.keep hcw).get hlt
      have hz := HSZ.out.at hx
      have hx1 := le_max hz.1
      have hx2 := le_max hz.2
      clear hx hb
      have hR1 : ∀ W, Calls Tryd.prog 17 #[.agg #[.string x.name, .string x.body]] W fun e w' => e = .returned (.bool (right x)) ∧ Chg NoB W w' := fun W => hd_right W x hx1 hx2
      have hR2 : ∀ W, Calls Tryd.prog 18 #[.agg #[.string x.name, .string x.body]] W fun e w' => e = .returned (.bool (right x)) ∧ Chg NoB W w' := fun W => ref_right W x hz.1 hz.2
      have hS1 : ∀ W, Calls Tryd.prog 19 #[.string x.name, .string nm] W fun e w' => e = .returned (.bool (same x.name nm)) ∧ Chg NoB W w' := fun W => hd_same W x.name nm hx1 hnmm
      have hS2 : ∀ W, Calls Tryd.prog 20 #[.string x.name, .string nm] W fun e w' => e = .returned (.bool (same x.name nm)) ∧ Chg NoB W w' := fun W => (ref_same W x.name nm hx1).mono fun _ _ h => ⟨h.1, h.2.chg NoB⟩
      generalize right x = rv at hR1 hR2
      generalize same x.name nm = sv at hS1 hS2
      have HR1 := hid hR1
      have HR2 := hid hR2
      have HS1 := hid hS1
      have HS2 := hid hS2
      have hc0 : Chg NoB w8 wr := HC.out
      have hc0d : Chg NoB w8 wr.drew := HC.out.drew
      clear hR1 hR2 hS1 hS2 hcw hx1 hx2 HX5' HX57 HX6 HX67 HC2 HC3 HC4 HC5 HC6 HC7 HA1 HA2 HA3 HA6 HA7 HM2 HM4
      cases rv <;> cases sv
      all_goals
        go_wp2_with fail
        go_region_held3 (fun w' => w'.cell? ⟨b, o + i * 2, none⟩ = some (.string x.name) ∧ w'.cell? ⟨b, o + i * 2 + 1, none⟩ = some (.string x.body))
          (first | (constructor <;> assumption) | (go_keep; done))
          (first
          | (go_at_call 17; refine (HR1.out _).mono ?_; rintro e v1 ⟨rfl, hc⟩; have q0 := hc.cell (p := ⟨b, o + i * 2, none⟩) (v := .string x.name) (by assumption) not_false; have q1 := hc.cell (p := ⟨b, o + i * 2 + 1, none⟩) (v := .string x.body) (by assumption) not_false; have qc := hc.then (a := w8) (by assumption); clear hc)
          | (go_at_call 18; refine (HR2.out _).mono ?_; rintro e v2 ⟨rfl, hc⟩; have q0 := hc.cell (p := ⟨b, o + i * 2, none⟩) (v := .string x.name) (by assumption) not_false; have q1 := hc.cell (p := ⟨b, o + i * 2 + 1, none⟩) (v := .string x.body) (by assumption) not_false; have qc := hc.then (a := w8) (by assumption); clear hc)
          | (go_at_call 19; refine (HS1.out _).mono ?_; rintro e v3 ⟨rfl, hc⟩; have q0 := hc.cell (p := ⟨b, o + i * 2, none⟩) (v := .string x.name) (by assumption) not_false; have q1 := hc.cell (p := ⟨b, o + i * 2 + 1, none⟩) (v := .string x.body) (by assumption) not_false; have qc := hc.then (a := w8) (by assumption); clear hc)
          | (go_at_call 20; refine (HS2.out _).mono ?_; rintro e v4 ⟨rfl, hc⟩; have q0 := hc.cell (p := ⟨b, o + i * 2, none⟩) (v := .string x.name) (by assumption) not_false; have q1 := hc.cell (p := ⟨b, o + i * 2 + 1, none⟩) (v := .string x.body) (by assumption) not_false; have qc := hc.then (a := w8) (by assumption); clear hc))
        all_goals
          go_wp2_with fail
          go_roundg (gk - 1)
          case measure => omega
          case rel => exact ⟨i + 1, by go_num, by omega, hid (by assumption)⟩
    · have u1 : decide ((i : Int) < (n : Int)) = false := decide_eq_false (by omega)
      have u2 : decide (i < n) = false := decide_eq_false hlt
      have HCF := hid (HC.out.then HC8.out)
      have HL5 := hid (HX58.out.keep HC.out)
      have HL6 := hid (HX68.out.keep HC.out)
      have hFD := fields_call wr A5 A6 n5 n6 c5 c6 _ _ HL5.out HL6.out (by omega) hN6 rfl
      have HFD := hid hFD
      clear hFD
      go_wp2_with (first
        | ((with_reducible (go_at_call 21; refine HFD.out.mono ?_)); rintro e w9 ⟨rfl, hc9⟩; have HC9 := hid (hc9.then HCF.out); clear hc9))
      go_ret
      exact ⟨rfl, HC9.out⟩
end Go.Proofs.YtkphllolghlmeaaDoor
