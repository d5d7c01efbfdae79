/- strings.IndexAny (whole), ContainsAny, header.Right. -/
import Derived.Test.YtkphllolghlmeaaDoorHdE
namespace Go.Proofs.YtkphllolghlmeaaDoor
open Go.RowKit

def setW (w : World) (chars : ByteArray) : World := (w.alloc (.cells (Lib.setCells chars.data.toList) 71)).alloc (.cells (Lib.setCells chars.data.toList) 71)
theorem setW_cell (w : World) (chars : ByteArray) (x : UInt8) : (setW w chars).cell? ⟨w.heap.size + 1, x.toNat, none⟩ = some (.bool (chars.data.toList.contains x)) := by
  unfold setW
  rw [World.cell?_alloc_at _ _ _ _ (by simp), Lib.setCells_at]
theorem setW_chg (w : World) (chars : ByteArray) : Chg NoB w (setW w chars) := ((Chg.refl NoB w).alloc _).alloc _
set_option maxRecDepth 100000 in
set_option maxHeartbeats 4000000 in
theorem indexAny_long (w : World) (s chars : ByteArray) (h2 : 2 ≤ chars.size) (h100 : chars.size ≤ 100) (h8 : 8 < s.size) (hs : s.size ≤ maxLen) (hac : Asc chars.data.toList) :
    Calls Tryd.prog 36 #[.string s, .string chars] w fun e w' => e = .returned (.int .i64 (Lib.indexAny s.data.toList chars.data.toList)) ∧ Chg NoB w w' := by
  have hM := Tryd.strings_makeASCIISet hv116 chars w (by omega) hac
  have HA := hid hac
  clear hac
  unfold maxLen at hs
  have hemp : chars.toList.isEmpty = false := by
    rw [ByteArray.toList_eq]
    cases h : chars.data.toList with
    | nil => have := len_data chars; rw [h, List.length_nil] at this; omega
    | cons _ _ => rfl
  have hn1 : ((chars.size : Int) == 1) = false := beq_eq_false_iff_ne.2 (by omega)
  have h8z : decide ((8 : Int) < (s.size : Int)) = true := decide_eq_true (by omega)
  have hsc : (storeCells ⟨w.heap.size + 1, 0, none⟩ (Lib.setCells chars.data.toList).toList 0).run Tryd.prog ((w.alloc (.cells (Lib.setCells chars.data.toList) 71)).alloc (.cells (Array.replicate 256 (.bool false)) 71)) = .ok () (setW w chars) := by
    have := run_storeCells_new (P := Tryd.prog) (w.alloc (.cells (Lib.setCells chars.data.toList) 71)) 71 (Array.replicate 256 (.bool false)) (Lib.setCells chars.data.toList) (by rw [Lib.setCells_size]; kernel_rfl) (by rw [Lib.setCells_size, Array.size_replicate]) (Lib.setCells_one _)
    simpa [setW] using this
  have hsz := Lib.setCells_size chars.data.toList
  have hz := hv116
  go_enter Tryd.func36, Tryd.ntmps36
  go_wp2_with (first
    | ((with_reducible (go_at_call 48; refine (Tryd.strings_shouldUseASCIISet _ _).mono ?_)); rintro e w' ⟨rfl, hw⟩; rw [hw, h8z]; clear hw)
    | ((with_reducible (go_at_call 40; refine hM.mono ?_)); rintro e w' ⟨rfl, hw⟩; rw [hw]; clear hw))
  clear hM hsc
  go_loopg [8] s.size (fun g s8 wx => ∃ i : Nat, i + g = s.size ∧ s8 = .int .i64 i ∧ wx = setW w chars ∧ Hid (Lib.NoAny s.data.toList chars.data.toList i))
  case atStart => exact ⟨0, by omega, rfl, rfl, hid (Lib.NoAny.zero _ _)⟩
  case round =>
    obtain ⟨i, hig, rfl, rfl, HN⟩ := hrel
    by_cases hi : i < s.size
    · have t1 : decide ((i : Int) < (s.size : Int)) = true := decide_eq_true (by omega)
      have t2 : decide (i < s.size) = true := decide_eq_true hi
      have i0 : (0 : Int) ≤ (i : Int) := by omega
      have i1 : (i : Int) < (s.size : Int) := by omega
      obtain ⟨x, hx, hxl⟩ := byte_at s i hi
      have HXL := hid hxl
      clear hxl
      have hcx := setW_cell w chars x
      cases hin : chars.data.toList.contains x <;> rw [hin] at hcx
      · go_wp2_with (first | ((with_reducible (go_at_call 49; refine (Tryd.asciiSet_contains _ x _ _ hcx).mono ?_)); rintro e w' ⟨rfl, hw⟩; rw [hw]; clear hw))
        go_roundg (gk - 1)
        case measure => omega
        case rel => exact ⟨i + 1, by omega, by go_num, rfl, hid (HN.out.succ HXL.out hin)⟩
      · have HR := hid (Lib.indexAny_hit HN.out HXL.out hin)
        go_wp2_with (first | ((with_reducible (go_at_call 49; refine (Tryd.asciiSet_contains _ x _ _ hcx).mono ?_)); rintro e w' ⟨rfl, hw⟩; rw [hw]; clear hw))
        go_ret
        exact ⟨by rw [HR.out]; rfl, setW_chg w chars⟩
    · have t1 : decide ((i : Int) < (s.size : Int)) = false := decide_eq_false (by omega)
      have t2 : decide (i < s.size) = false := decide_eq_false hi
      have HR := hid (Lib.indexAny_none (s := s.data.toList) (chars := chars.data.toList) (by rw [len_data]; exact (show i = s.size by omega) ▸ HN.out))
      go_wp2
      go_ret
      exact ⟨by rw [HR.out]; rfl, setW_chg w chars⟩
theorem indexAny_all (w : World) (s chars : ByteArray) (h2 : 2 ≤ chars.size) (h100 : chars.size ≤ 100) (hs : s.size ≤ maxLen) (hac : Asc chars.data.toList) :
    Calls Tryd.prog 36 #[.string s, .string chars] w fun e w' => e = .returned (.int .i64 (Lib.indexAny s.data.toList chars.data.toList)) ∧ Chg NoB w w' := by
  by_cases h8 : s.size ≤ 8
  · exact indexAny_short w s chars h2 h100 h8 hac
  · exact indexAny_long w s chars h2 h100 (by omega) hs hac
def hasAny (l cs : List UInt8) : Bool := l.any (fun x => cs.contains x)
theorem indexAny_has (l cs : List UInt8) : decide (0 ≤ Lib.indexAny l cs) = hasAny l cs := by
  by_cases h : hasAny l cs = true
  · rw [h, decide_eq_true_eq]
    have h' := h
    unfold hasAny at h'
    rw [List.any_eq_true] at h'
    obtain ⟨x, hx, hc⟩ := h'
    have hge := Lib.indexAny_ge cs l
    by_cases hneg : 0 ≤ Lib.indexAny l cs
    · exact hneg
    exfalso
    obtain ⟨j, hj⟩ := List.getElem?_of_mem hx
    have key : ∀ n ≤ l.length, Lib.NoAny l cs n := by
      intro n
      induction n with
      | zero => intro _; exact Lib.NoAny.zero _ _
      | succ n ih =>
        intro hn
        have hlt : n < l.length := by omega
        have hg : l[n]? = some l[n] := List.getElem?_eq_getElem hlt
        cases hcc : cs.contains l[n]
        · exact (ih (by omega)).succ hg hcc
        · have := Lib.indexAny_hit (ih (by omega)) hg hcc
          omega
    have := key l.length (Nat.le_refl _) j x (List.getElem?_eq_some_iff.1 hj).1 hj
    rw [hc] at this; cases this
  · have h' : hasAny l cs = false := by simpa using h
    rw [h', decide_eq_false_iff_not]
    have : Lib.indexAny l cs = -1 := Lib.indexAny_none (fun j b hj hb => by
      unfold hasAny at h'
      rw [List.any_eq_false] at h'
      simpa using h' b (List.mem_of_getElem? hb))
    omega
theorem containsAny_all (w : World) (s chars : ByteArray) (h2 : 2 ≤ chars.size) (h100 : chars.size ≤ 100) (hs : s.size ≤ maxLen) (hac : Asc chars.data.toList) :
    Calls Tryd.prog 27 #[.string s, .string chars] w fun e w' => e = .returned (.bool (hasAny s.data.toList chars.data.toList)) ∧ Chg NoB w w' := by
  have c := indexAny_all w s chars h2 h100 hs hac
  have hh := indexAny_has s.data.toList chars.data.toList
  go_enter Tryd.func27, Tryd.ntmps27
  go_wp2_with (first | ((with_reducible (go_at_call 36; refine c.mono ?_)); rintro e w' ⟨rfl, hc⟩))
  go_ret
  exact ⟨by first | rfl | (rw [← hh]; rfl), hc⟩
end Go.Proofs.YtkphllolghlmeaaDoor
