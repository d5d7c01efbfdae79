/- header.Right. -/
import Derived.Test.YtkphllolghlmeaaDoorHdF
namespace Go.Proofs.YtkphllolghlmeaaDoor
open Go.RowKit

theorem blanks_has (c : UInt8) : ([32, 9] : List UInt8).contains c = isBlank c := by
  unfold isBlank
  simp only [List.contains, List.elem]
  cases (c == 32) <;> cases (c == 9) <;> rfl
theorem dropWhile_le (p : UInt8 → Bool) (l : List UInt8) : (l.dropWhile p).length ≤ l.length := (List.dropWhile_sublist p).length_le
theorem dropWhile_same {p : UInt8 → Bool} {l : List UInt8} {x : UInt8} (h : l.head? = some x) (hp : p x = false) : l.dropWhile p = l := by
  cases l with
  | nil => rfl
  | cons a r => simp at h; subst h; rw [List.dropWhile_cons, hp]; simp
theorem dropWhile_less {p : UInt8 → Bool} {l : List UInt8} {x : UInt8} (h : l.head? = some x) (hp : p x = true) : (l.dropWhile p).length < l.length := by
  cases l with
  | nil => simp at h
  | cons a r =>
    simp at h; subst h; rw [List.dropWhile_cons, hp]
    simp only [if_true, List.length_cons]
    have := dropWhile_le p r
    omega
theorem trim_ends (l : List UInt8) : (Lib.trimS l [32, 9] = l) ↔ ends l = true := by
  have e : (fun c : UInt8 => ([32, 9] : List UInt8).contains c) = isBlank := funext blanks_has
  unfold Lib.trimS Lib.trimLeftS Lib.trimRightS
  rw [e]
  unfold ends
  cases hh : l.head? with
  | none =>
    have : l = [] := by simpa using hh
    subst this; simp
  | some x =>
    cases hl : l.getLast? with
    | none =>
      have : l = [] := by simpa using hl
      subst this; simp at hh
    | some y =>
      have hr : l.reverse.head? = some y := by rw [List.head?_reverse, hl]
      cases hy : isBlank y
      · rw [dropWhile_same hr hy, List.reverse_reverse]
        cases hx : isBlank x
        · rw [dropWhile_same hh hx]; simp [hx, hy]
        · have := dropWhile_less hh hx
          simp only [hx, hy, Bool.not_true, Bool.false_and, Bool.false_eq_true, iff_false]
          intro e2; rw [e2] at this; omega
      · have h1 := dropWhile_less hr hy
        simp only [hy, Bool.not_true, Bool.and_false, Bool.false_eq_true, iff_false]
        intro e2
        have h2 := dropWhile_le isBlank (l.reverse.dropWhile isBlank).reverse
        rw [e2] at h2
        simp only [List.length_reverse] at h1 h2
        omega
theorem hasAny_body (l : List UInt8) : hasAny l [0, 13, 10] = !l.all bodyC := by
  unfold hasAny
  rw [List.all_eq_not_any_not, Bool.not_not]
  congr 1
  funext c
  have h0 : c = 0 ↔ c.toNat = 0 := by rw [← UInt8.toNat_inj]; rfl
  have h1 : c = 13 ↔ c.toNat = 13 := by rw [← UInt8.toNat_inj]; rfl
  have h2 : c = 10 ↔ c.toNat = 10 := by rw [← UInt8.toNat_inj]; rfl
  rw [Bool.eq_iff_iff]
  simp only [List.contains_iff_mem, List.mem_cons, List.not_mem_nil, or_false, Bool.not_eq_true', bodyC, decide_eq_false_iff_not, h0, h1, h2]
  omega
theorem asc_cut : Asc (⟨#[0, 13, 10]⟩ : ByteArray).data.toList := ascii_of_all (by decide)
theorem asc_blanks : Asc (⟨#[32, 9]⟩ : ByteArray).data.toList := ascii_of_all (by decide)
theorem trim_neq (x : ByteArray) : (!((⟨(Lib.trimS x.data.toList [32, 9]).toArray⟩ : ByteArray).toList == x.toList)) = !ends x.data.toList := by
  congr 1
  rw [ByteArray.toList_mk, ByteArray.toList_eq, Bool.eq_iff_iff, beq_iff_eq]
  exact trim_ends _
set_option maxRecDepth 100000 in
set_option maxHeartbeats 4000000 in
theorem hd_right (w : World) (x : Fld) (hn : x.name.size ≤ maxLen) (hb : x.body.size ≤ maxLen) :
    Calls Tryd.prog 17 #[.agg #[.string x.name, .string x.body]] w fun e w' => e = .returned (.bool (right x)) ∧ Chg NoB w w' := by
  have hb' := hb
  unfold maxLen at hn hb'
  by_cases h1 : 1 ≤ x.name.size
  case neg =>
    have t1 : (x.name.toList == []) = true := by
      rw [ByteArray.toList_eq, beq_iff_eq]; exact List.eq_nil_of_length_eq_zero (by rw [len_data]; omega)
    have t1' : x.name.toList.isEmpty = true := by rw [List.isEmpty_iff]; simpa using t1
    have HR := hid (right_len (x := x) (by omega))
    go_enter Tryd.func17, Tryd.ntmps17
    go_wp2_with fail
    go_region
    go_wp2
    go_ret
    exact ⟨by rw [HR.out]; rfl, ((Chg.refl NoB w).alloc _).drew⟩
  have t1 : (x.name.toList == []) = false := by
    rw [ByteArray.toList_eq, beq_eq_false_iff_ne]; intro e; have := congrArg List.length e; rw [len_data, List.length_nil] at this; omega
  have t1' : x.name.toList.isEmpty = false := by rw [← Bool.not_eq_true, List.isEmpty_iff]; simpa using t1
  by_cases h2 : x.name.size ≤ 64
  case neg =>
    have t2 : decide (64 < (x.name.size : Int)) = true := decide_eq_true (by omega)
    have HR := hid (right_len (x := x) (fun hq => h2 hq.2))
    go_enter Tryd.func17, Tryd.ntmps17
    go_wp2_with fail
    go_region
    go_wp2
    go_ret
    exact ⟨by rw [HR.out]; rfl, ((Chg.refl NoB w).alloc _).drew⟩
  have t2 : decide (64 < (x.name.size : Int)) = false := decide_eq_false (by omega)
  have HL := hid (And.intro h1 h2)
  have hh := hasAny_body x.body.data.toList
  have HB := hid (Blk.new w #[.string x.name, .string x.body] 38)
  cases hall : x.body.data.toList.all bodyC
  · have HR := hid (right_body (x := x) hall)
    rw [hall, Bool.not_false] at hh
    have hC : ∀ w0, Calls Tryd.prog 27 #[.string x.body, .string ⟨#[0, 13, 10]⟩] w0 fun e w' => e = .returned (.bool true) ∧ Chg NoB w0 w' := fun w0 =>
      (containsAny_all w0 x.body ⟨#[0, 13, 10]⟩ (by decide) (by decide) hb asc_cut).mono fun e w' h => ⟨by rw [h.1, show hasAny x.body.data.toList (⟨#[0, 13, 10]⟩ : ByteArray).data.toList = true from hh], h.2⟩
    go_enter Tryd.func17, Tryd.ntmps17
    go_wp2_with fail
    first
      | (go_region_with (first
          | (go_at_call 27; refine (hC _).mono ?_; rintro e w1 ⟨rfl, hc1⟩)))
      | fail
    all_goals
      go_wp2
      go_ret
      exact ⟨by rw [HR.out]; rfl, (((Chg.refl NoB w).alloc _).drew).trans hc1 (fun _ _ h => h)⟩
  · rw [hall, Bool.not_true] at hh
    have hC : ∀ w0, Calls Tryd.prog 27 #[.string x.body, .string ⟨#[0, 13, 10]⟩] w0 fun e w' => e = .returned (.bool false) ∧ Chg NoB w0 w' := fun w0 =>
      (containsAny_all w0 x.body ⟨#[0, 13, 10]⟩ (by decide) (by decide) hb asc_cut).mono fun e w' h => ⟨by rw [h.1, show hasAny x.body.data.toList (⟨#[0, 13, 10]⟩ : ByteArray).data.toList = false from hh], h.2⟩
    obtain ⟨tr, htr⟩ : ∃ tr : ByteArray, tr = ⟨(Lib.trimS x.body.data.toList [32, 9]).toArray⟩ := ⟨_, rfl⟩
    have hT : ∀ w0, Calls Tryd.prog 29 #[.string x.body, .string ⟨#[32, 9]⟩] w0 fun e w' => e = .returned (.string tr) ∧ Chg NoB w0 w' := fun w0 =>
      (Tryd.strings_Trim_laid x.body ⟨#[32, 9]⟩ w0 hb' (by decide) asc_blanks).mono fun e w' h => ⟨by rw [h.1, htr], Chg.of_below h.2 NoB⟩
    have htn := trim_neq x.body
    rw [← htr] at htn
    have HA := hid hall
    clear hall hh htr
    cases he : ends x.body.data.toList
    · rw [he, Bool.not_false] at htn
      have htn' : (tr.toList == x.body.toList) = false := by simpa using htn
      clear htn
      have HR : Hid (right x = false) := hid (by unfold right okBody; rw [he]; simp)
      go_enter Tryd.func17, Tryd.ntmps17
      go_wp2_with fail
      go_region_held3 (fun w' => w'.cell? ⟨w.heap.size, 0, none⟩ = some (.string x.name) ∧ w'.cell? ⟨w.heap.size, 1, none⟩ = some (.string x.body))
        (first | (go_keep; done) | exact ⟨((HB.out.drew.keep hc1 not_false).keep hc2 not_false).cell 0, ((HB.out.drew.keep hc1 not_false).keep hc2 not_false).cell 1⟩ | exact ⟨(HB.out.drew.keep hc1 not_false).cell 0, (HB.out.drew.keep hc1 not_false).cell 1⟩)
        (first
        | (go_at_call 27; refine (hC _).mono ?_; rintro e w1 ⟨rfl, hc1⟩)
        | (go_at_call 29; refine (hT _).mono ?_; rintro e w2 ⟨rfl, hc2⟩))
      all_goals
        go_wp2
        go_ret
        exact ⟨by rw [HR.out]; rfl, ((((Chg.refl NoB w).alloc _).drew).trans hc1 (fun _ _ h => h)).trans hc2 (fun _ _ h => h)⟩
    · rw [he, Bool.not_true] at htn
      have htn' : (tr.toList == x.body.toList) = true := by simpa using htn
      clear htn
      have HE := hid he
      clear he
      go_enter Tryd.func17, Tryd.ntmps17
      go_wp2_with fail
      go_region_held3 (fun w' => w'.cell? ⟨w.heap.size, 0, none⟩ = some (.string x.name) ∧ w'.cell? ⟨w.heap.size, 1, none⟩ = some (.string x.body))
        (first | (go_keep; done) | exact ⟨((HB.out.drew.keep hc1 not_false).keep hc2 not_false).cell 0, ((HB.out.drew.keep hc1 not_false).keep hc2 not_false).cell 1⟩ | exact ⟨(HB.out.drew.keep hc1 not_false).cell 0, (HB.out.drew.keep hc1 not_false).cell 1⟩)
        (first
        | (go_at_call 27; refine (hC _).mono ?_; rintro e w1 ⟨rfl, hc1⟩)
        | (go_at_call 29; refine (hT _).mono ?_; rintro e w2 ⟨rfl, hc2⟩))
      all_goals
        have HCC := hid (((((Chg.refl NoB w).alloc (.cells #[.string x.name, .string x.body] 38)).drew).trans hc1 (fun _ _ h => h)).trans hc2 (fun _ _ h => h))
        have k0 : w2.cell? ⟨w.heap.size, 0, none⟩ = some (.string x.name) := ((HB.out.drew.keep hc1 not_false).keep hc2 not_false).cell 0
        clear hc1 hc2 hC hT
        go_wp2
        go_loop [3, 29] (fun _ v => ∃ i : Nat, v = .int .i64 i ∧ i ≤ x.name.size ∧ Hid (AllTill nameC x.name.data.toList i)) (fun _ v => x.name.size - (intOf v).toNat)
        case atStart => exact ⟨0, rfl, Nat.zero_le _, hid (AllTill.zero _ _)⟩
        case round =>
          obtain ⟨i, rfl, hi, HN⟩ := hrel
          by_cases hlt : i < x.name.size
          · have t3 : decide ((i : Int) < (x.name.size : Int)) = true := decide_eq_true (by omega)
            have t4 : decide (i < x.name.size) = true := decide_eq_true hlt
            have i0 : (0 : Int) ≤ (i : Int) := by omega
            have i1 : (i : Int) < (x.name.size : Int) := by omega
            obtain ⟨c, hc, hcl⟩ := byte_at x.name i hlt
            have HX := hid hcl
            clear hcl
            have c8 := c.toNat_lt
            by_cases hok : 33 ≤ c.toNat ∧ c.toNat ≤ 126 ∧ c.toNat ≠ 58
            · have d1 : decide ((c.toNat : Int) < 33) = false := decide_eq_false (by omega)
              have d2 : decide (126 < (c.toNat : Int)) = false := decide_eq_false (by omega)
              have d3 : ((c.toNat : Int) == 58) = false := by rw [beq_eq_false_iff_ne]; omega
              have HP : Hid (nameC c = true) := hid (decide_eq_true hok)
              clear hok
              go_wp2
              go_round
              case rel => exact ⟨i + 1, by go_num, by omega, hid (HN.out.succ HX.out HP.out)⟩
              case measure => simp [intOf]; omega
            · have HP : Hid (right x = false) := hid (right_name (all_not HX.out (decide_eq_false hok)))
              by_cases e1 : c.toNat < 33
              · have d1 : decide ((c.toNat : Int) < 33) = true := decide_eq_true (by omega)
                clear hok
                go_wp2
                go_ret
                exact ⟨by rw [HP.out]; rfl, HCC.out⟩
              · have d1 : decide ((c.toNat : Int) < 33) = false := decide_eq_false (by omega)
                by_cases e2 : 126 < c.toNat
                · have d2 : decide (126 < (c.toNat : Int)) = true := decide_eq_true (by omega)
                  clear hok
                  go_wp2
                  go_ret
                  exact ⟨by rw [HP.out]; rfl, HCC.out⟩
                · have d2 : decide (126 < (c.toNat : Int)) = false := decide_eq_false (by omega)
                  have d3 : ((c.toNat : Int) == 58) = true := by rw [beq_iff_eq]; omega
                  clear hok
                  go_wp2
                  go_ret
                  exact ⟨by rw [HP.out]; rfl, HCC.out⟩
          · have t3 : decide ((i : Int) < (x.name.size : Int)) = false := decide_eq_false (by omega)
            have t4 : decide (i < x.name.size) = false := decide_eq_false hlt
            have HR : Hid (right x = true) := hid (by rw [right_rest HL.out (HN.out.all (by rw [len_data]; omega)) HA.out]; exact HE.out)
            go_wp2
            go_ret
            exact ⟨by rw [HR.out]; rfl, HCC.out⟩
end Go.Proofs.YtkphllolghlmeaaDoor
