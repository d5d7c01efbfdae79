/- The document's fold: the walk. -/
import Derived.Test.YtkphllolghlmeaaDoorHdI
namespace Go.Proofs.YtkphllolghlmeaaDoor
open Go.RowKit

theorem int_eq {k : IntKind} {a b : Int} (h : a = b) : Value.int k a = Value.int k b := by rw [h]
theorem extract_size (s : ByteArray) (f i : Nat) (h : i ≤ s.size) : (s.extract f i).size = i - f := by rw [ByteArray.size_extract]; omega
set_option maxRecDepth 100000 in
set_option maxHeartbeats 8000000 in
theorem ref_fold (w : World) (x : Fld) (hn : x.name.size ≤ 1000000) (hb : x.body.size ≤ 1000000) :
    Calls Tryd.prog 25 #[.agg #[.string x.name, .string x.body]] w fun e w' => e = .returned (.tuple #[.string (str (foldS x)), .int .i64 (longest (linesF x))]) ∧ Chg NoB w w' := by
  have hsz : ∀ c : ByteArray, (x.name ++ c).size = x.name.size + c.size := fun c => ByteArray.size_append
  by_cases hz : x.body.size = 0
  · have t1 : (x.body.toList == []) = true := by rw [ByteArray.toList_eq, beq_iff_eq]; exact List.eq_nil_of_length_eq_zero (by rw [len_data, hz])
    have t1' : x.body.toList.isEmpty = true := by rw [List.isEmpty_iff]; simpa using t1
    have HF := hid (foldS_nil hz)
    go_enter Tryd.func25, Tryd.ntmps25
    go_wp2
    go_ret2
    refine ⟨?_, (Chg.refl NoB w).alloc _⟩
    rw [HF.out.1, HF.out.2]
    have e : (x.name ++ ⟨#[58]⟩ ++ ⟨#[13, 10]⟩ : ByteArray) = str (headL x ++ [13, 10]) := by
      show x.name ++ str [58] ++ str [13, 10] = _
      rw [← str_data x.name, str_add, str_add]; simp [headL, str]
    rw [← e]; rfl
  · have t1 : (x.body.toList == []) = false := by
      rw [ByteArray.toList_eq, beq_eq_false_iff_ne]; intro e; have := congrArg List.length e; rw [len_data, List.length_nil] at this; omega
    have t1' : x.body.toList.isEmpty = false := by rw [← Bool.not_eq_true, List.isEmpty_iff]; simpa using t1
    go_enter Tryd.func25, Tryd.ntmps25
    go_wp2
    go_loop [4, 5, 6, 7, 8, 9] (fun v4 v5 v6 v7 v8 _ => ∃ (o : ByteArray) (n m f i : Nat), v4 = .string o ∧ v5 = .int .i64 n ∧ v6 = .int .i64 m ∧ v7 = .int .i64 f ∧ v8 = .int .i64 i ∧ i ≤ x.body.size + 1 ∧ f ≤ i ∧ o.size ≤ x.name.size + 1 + 3 * f ∧ Hid (∃ s, FoldI x (foldW true ([], headL x) (splitSp x.body.data.toList)) f i n m o s))
      (fun _ _ _ _ v8 _ => x.body.size + 1 - (intOf v8).toNat)
    case atStart => exact ⟨_, x.name.size + 1, x.name.size + 1, 0, 0, rfl, by go_num, by go_num, rfl, rfl, by omega, by omega, by rw [hsz]; show x.name.size + 1 ≤ _; omega, hid ⟨_, FoldI.start x⟩⟩
    case round =>
      obtain ⟨o, n, m, f, i, rfl, rfl, rfl, rfl, rfl, hi, hfi, hos, HF⟩ := hrel
      have hnb : n ≤ 3000000 := by obtain ⟨s, hs⟩ := HF.out; have := hs.bound; omega
      clear hsz
      have e1 : (o ++ ⟨#[13, 10]⟩).size = o.size + 2 := ByteArray.size_append
      have e2 : (o ++ ⟨#[32]⟩).size = o.size + 1 := ByteArray.size_append
      have e3 : (o ++ ⟨#[13, 10]⟩ ++ ⟨#[32]⟩).size = o.size + 3 := by rw [ByteArray.size_append, e1]; rfl
      by_cases hle : i ≤ x.body.size
      · have d1 : decide ((i : Int) ≤ (x.body.size : Int)) = true := decide_eq_true (by omega)
        have d1n : decide (i ≤ x.body.size) = true := decide_eq_true hle
        have e4 : (x.body.extract f i).size = i - f := extract_size _ _ _ hle
        by_cases hlt : i < x.body.size
        · have d2 : decide ((i : Int) < (x.body.size : Int)) = true := decide_eq_true (by omega)
          have d2n : decide (i < x.body.size) = true := decide_eq_true hlt
          have i0 : (0 : Int) ≤ (i : Int) := by omega
          have i1 : (i : Int) < (x.body.size : Int) := by omega
          obtain ⟨c, hc, hcl⟩ := byte_at x.body i hlt
          have HX := hid hcl
          clear hcl
          by_cases h32 : c = 32
          · have d3 : ((c.toNat : Int) != 32) = false := by rw [h32]; rfl
            have HW : Hid (i < x.body.size → x.body.data.toList[i]? = some 32) := hid (fun _ => by rw [HX.out, h32])
            clear h32
            go_wp2
            all_goals
              go_round
              case rel =>
                first
                | exact ⟨_, 0 + 1 + (i - f), max m (0 + 1 + (i - f)), i + 1, i + 1, rfl, int_eq (by omega), int_eq (by omega), int_eq (by omega), int_eq (by omega), by omega, by omega, by rw [ByteArray.size_append, e3, e4]; omega, hid (by obtain ⟨s, hs⟩ := HF.out; exact hs.newline hle HW.out (by omega) (by omega) (by omega))⟩
                | exact ⟨_, n + 1 + (i - f), max m (n + 1 + (i - f)), i + 1, i + 1, rfl, int_eq (by omega), int_eq (by omega), int_eq (by omega), int_eq (by omega), by omega, by omega, by rw [ByteArray.size_append, e2, e4]; omega, hid (by obtain ⟨s, hs⟩ := HF.out; exact hs.same hle HW.out (by omega))⟩
              case measure => simp [intOf]; omega
          · have d3 : ((c.toNat : Int) != 32) = true := by
              simp only [bne_iff_ne, ne_eq]; intro e; exact h32 (UInt8.toNat_inj.1 (by show c.toNat = 32; omega))
            go_wp2
            go_round
            case rel => exact ⟨o, n, m, f, i + 1, rfl, rfl, rfl, rfl, by go_num, by omega, by omega, hos, hid (by obtain ⟨s, hs⟩ := HF.out; exact ⟨s, hs.skip HX.out h32⟩)⟩
            case measure => simp [intOf]; omega
        · have d2 : decide ((i : Int) < (x.body.size : Int)) = false := decide_eq_false (by omega)
          have d2n : decide (i < x.body.size) = false := decide_eq_false hlt
          have HW : Hid (i < x.body.size → x.body.data.toList[i]? = some 32) := hid (fun h => absurd h hlt)
          go_wp2
          all_goals
            go_round
            case rel =>
              first
              | exact ⟨_, 0 + 1 + (i - f), max m (0 + 1 + (i - f)), i + 1, i + 1, rfl, int_eq (by omega), int_eq (by omega), int_eq (by omega), int_eq (by omega), by omega, by omega, by rw [ByteArray.size_append, e3, e4]; omega, hid (by obtain ⟨s, hs⟩ := HF.out; exact hs.newline hle HW.out (by omega) (by omega) (by omega))⟩
              | exact ⟨_, n + 1 + (i - f), max m (n + 1 + (i - f)), i + 1, i + 1, rfl, int_eq (by omega), int_eq (by omega), int_eq (by omega), int_eq (by omega), by omega, by omega, by rw [ByteArray.size_append, e2, e4]; omega, hid (by obtain ⟨s, hs⟩ := HF.out; exact hs.same hle HW.out (by omega))⟩
            case measure => simp [intOf]; omega
      · have d1 : decide ((i : Int) ≤ (x.body.size : Int)) = false := decide_eq_false (by omega)
        have d1n : decide (i ≤ x.body.size) = false := decide_eq_false hle
        have he : i = x.body.size + 1 := by omega
        have HE : Hid (o ++ ⟨#[13, 10]⟩ = str (foldS x) ∧ m = longest (linesF x)) := hid (by obtain ⟨s, hs⟩ := HF.out; rw [he] at hs; exact foldS_some hz hs)
        clear he
        go_wp2
        go_ret2
        exact ⟨by rw [← HE.out.1, ← HE.out.2]; rfl, (Chg.refl NoB w).alloc _⟩
end Go.Proofs.YtkphllolghlmeaaDoor
