/- strings.IndexAny and ContainsAny at a cutset of two or more ASCII bytes, at every string. -/
import Derived.Test.YtkphllolghlmeaaDoorHdD
import Derived.Test.YtkphllolghlmeaaDoorShelf
import Derived.WalkMore
import Derived.Laws.RangeAny
import Derived.Laws.Runes
import Derived.Lib.IndexLaws
namespace Go.Proofs.YtkphllolghlmeaaDoor
open Go.RowKit
set_option linter.unusedVariables false

theorem get_in (s : ByteArray) (p : Nat) (h : p < s.size) : s.get! p = s[p]'h := get_at s p h
theorem decode_tail (s : ByteArray) (pos : Nat) (h : pos < s.size) : 1 ≤ (Utf8.decode s pos).2 ∧ pos + (Utf8.decode s pos).2 ≤ s.size ∧
    ∀ (j : Nat) (b : UInt8), pos < j → j < pos + (Utf8.decode s pos).2 → s.data.toList[j]? = some b → 128 ≤ b.toNat := by
  have one : 1 ≤ 1 ∧ pos + 1 ≤ s.size ∧ ∀ (j : Nat) (b : UInt8), pos < j → j < pos + 1 → s.data.toList[j]? = some b → 128 ≤ b.toNat := ⟨Nat.le_refl _, by omega, fun j b h1 h2 => by omega⟩
  have cont : ∀ k, (decide (pos + k < s.size) && (s.get! (pos + k)).toNat / 64 == 2) = true → pos + k < s.size ∧ ∀ b, s.data.toList[pos + k]? = some b → 128 ≤ b.toNat := by
    intro k hk
    simp only [Bool.and_eq_true, decide_eq_true_eq, beq_iff_eq] at hk
    refine ⟨hk.1, fun b hb => ?_⟩
    rw [Lib.data_getElem? s _ hk.1] at hb
    injection hb with hb
    have := hk.2
    rw [get_in s _ hk.1, hb] at this
    omega
  simp only [Utf8.decode]
  split
  · exact one
  · split
    · rename_i h1
      simp only [Bool.and_eq_true] at h1
      have c1 := cont 1 (by simpa using h1.2)
      split
      · refine ⟨by omega, (show pos + 2 ≤ s.size by have := c1.1; omega), fun j b h1 h2 hb => ?_⟩
        simp only at h2
        obtain rfl : j = pos + 1 := by omega
        exact c1.2 b hb
      · exact one
    · split
      · rename_i h1
        simp only [Bool.and_eq_true] at h1
        have c1 := cont 1 (by simpa using h1.1.2)
        have c2 := cont 2 (by simpa using h1.2)
        split
        · refine ⟨by omega, (show pos + 3 ≤ s.size by have := c2.1; omega), fun j b h1 h2 hb => ?_⟩
          simp only at h2
          rcases (show j = pos + 1 ∨ j = pos + 2 by omega) with rfl | rfl
          · exact c1.2 b hb
          · exact c2.2 b hb
        · exact one
      · split
        · rename_i h1
          simp only [Bool.and_eq_true] at h1
          have c1 := cont 1 (by simpa using h1.1.1.2)
          have c2 := cont 2 (by simpa using h1.1.2)
          have c3 := cont 3 (by simpa using h1.2)
          split
          · refine ⟨by omega, (show pos + 4 ≤ s.size by have := c3.1; omega), fun j b h1 h2 hb => ?_⟩
            simp only at h2
            rcases (show j = pos + 1 ∨ j = pos + 2 ∨ j = pos + 3 by omega) with rfl | rfl | rfl
            · exact c1.2 b hb
            · exact c2.2 b hb
            · exact c3.2 b hb
          · exact one
        · exact one
def Asc (l : List UInt8) : Prop := ∀ (j : Nat) (b : UInt8), l[j]? = some b → b.toNat < 128
theorem asc_no {l : List UInt8} (h : Asc l) {x : UInt8} (hx : 128 ≤ x.toNat) : l.contains x = false := by
  rw [← Bool.not_eq_true, List.contains_iff_mem]
  intro hm
  obtain ⟨j, hj⟩ := List.getElem?_of_mem hm
  have := h j x hj
  omega
theorem noAny_jump {s chars : List UInt8} {i k : Nat} (h : Lib.NoAny s chars i) (hch : Asc chars) (hall : ∀ (j : Nat) (b : UInt8), i ≤ j → j < i + k → s[j]? = some b → 128 ≤ b.toNat) : Lib.NoAny s chars (i + k) := fun j b hj hb => by
  by_cases hi : j < i
  · exact h j b hi hb
  · exact asc_no hch (hall j b (by omega) hj hb)

theorem asc_extract {s : ByteArray} (h : Asc s.data.toList) (a b : Nat) : Asc (s.extract a b).data.toList := by
  intro j x hx
  have hm : x ∈ (s.extract a b).data.toList := List.mem_of_getElem? hx
  have e : (s.extract a b).data.toList = (s.data.toList.drop a).take (b - a) := by
    have := ByteArray.extract_mk s.data.toList a b
    rw [show (ByteArray.mk s.data.toList.toArray) = s from str_data s] at this
    rw [this]
  rw [e] at hm
  obtain ⟨k, hk⟩ := List.getElem?_of_mem (List.mem_of_mem_drop (List.mem_of_mem_take hm))
  exact h k x hk
theorem indexByte_high {l : List UInt8} (h : Asc l) {x : UInt8} (hx : 128 ≤ x.toNat) : Lib.indexByte l x = -1 := by
  have h1 := Lib.contains_iff_indexByte l x
  rw [asc_no h hx] at h1
  have h2 := Lib.indexByte_ge l x
  have h3 := of_decide_eq_false h1.symm
  omega
set_option maxRecDepth 100000 in
set_option maxHeartbeats 4000000 in
/-- IndexRune of an ASCII text, at a rune of 128 or more: there is none. -/
theorem indexRune_error (w : World) (s : ByteArray) (ha : Asc s.data.toList) (hs : s.size ≤ 100) :
    Calls Tryd.prog 47 #[.string s, .int .i32 65533] w fun e w' => e = .returned (.int .i64 (-1)) ∧ Chg NoB w w' := by
  have HA := hid ha
  clear ha
  go_enter Tryd.func47, Tryd.ntmps47
  go_wp2
  go_loopg [5, 6] s.size (fun g _ _ wx => ∃ i : Nat, i + g = s.size ∧ wx = w.iter s i)
  case atStart => exact ⟨0, by omega, rfl⟩
  case round =>
    obtain ⟨i, hig, rfl⟩ := hrel
    cases gk with
    | zero =>
      obtain rfl : i = s.size := by omega
      have hnx := run_next_end (P := Tryd.prog) w s s.size
      go_wp2
      go_ret
      exact ⟨rfl, (Chg.refl NoB w).alloc _⟩
    | succ g =>
      have hi : i < s.size := by omega
      obtain ⟨x, hx, hxl⟩ := byte_at s i hi
      have hx128 : x.toNat < 128 := HA.out i x hxl
      have hnx := fun ty => run_next_ascii (P := Tryd.prog) w s i ty hi (by rw [hx]; exact hx128)
      rw [hx] at hnx
      clear hx hxl
      have t3 : ((x.toNat : Int) == 65533) = false := by rw [beq_eq_false_iff_ne]; omega
      go_wp2
      go_roundg g
      case measure => omega
      case rel => exact ⟨i + 1, by omega, rfl⟩
set_option maxRecDepth 100000 in
set_option maxHeartbeats 4000000 in
theorem indexRune_high (w : World) (s : ByteArray) (r : Int) (h1 : 128 ≤ r) (h2 : r ≤ 2147483647) (ha : Asc s.data.toList) (hs : s.size ≤ 100) :
    Calls Tryd.prog 47 #[.string s, .int .i32 r] w fun e w' => e = .returned (.int .i64 (-1)) ∧ Chg NoB w w' := by
  have HA := hid ha
  clear ha
  by_cases hre : r = 65533
  · subst hre; exact indexRune_error w s HA.out hs
  have t1 : decide ((0 : Int) ≤ r) = true := decide_eq_true (by omega)
  have t2 : decide (r < 128) = false := decide_eq_false (by omega)
  have t3 : (r == 65533) = false := by rw [beq_eq_false_iff_ne]; exact hre
  by_cases hv : Lib.validRune r = true
  case neg =>
    have hv' : Lib.validRune r = false := by simpa using hv
    go_enter Tryd.func47, Tryd.ntmps47
    go_wp2_with (first | ((with_reducible (go_at_call 58; refine (Tryd.utf8_ValidRune r _).mono ?_)); rintro e w1 ⟨rfl, hw⟩; rw [hw, hv']; clear hw))
    go_ret
    exact ⟨rfl, Chg.refl _ _⟩
  have hv2 : Utf8.valid r = true := by
    have := hv
    unfold Lib.validRune at this
    rw [decide_eq_true_eq] at this
    unfold Utf8.valid
    simp
    omega
  obtain ⟨e1, e2, e3⟩ := encode_facts r hv2 h1
  obtain ⟨rs, hrs⟩ : ∃ rs, Utf8.encode r = rs := ⟨_, rfl⟩
  rw [hrs] at e1 e2 e3
  have e4 := e3 (by omega)
  obtain ⟨y, hy, _⟩ := byte_at rs (rs.size - 1) (by omega)
  rw [hy] at e4
  obtain ⟨k, hk⟩ : ∃ k : Nat, rs.size = k + 1 := ⟨rs.size - 1, by omega⟩
  have hk1 : (rs.size : Int) - 1 = (k : Int) := by omega
  have hyk : rs[k]'(by omega) = y := by rw [← hy]; congr 1; omega
  clear hy e3 hv2
  go_enter Tryd.func47, Tryd.ntmps47
  go_wp2_with (first | ((with_reducible (go_at_call 58; refine (Tryd.utf8_ValidRune r _).mono ?_)); rintro e w1 ⟨rfl, hw⟩; rw [hw, hv]; clear hw))
  have HF := hid (And.intro e4 hyk)
  go_wp2
  go_step3
  go_wp2
  go_loop [9, 10, 11, 12] (fun a _ _ _ => a = .int .i64 k) (fun _ _ _ _ => 0)
  case atStart => rfl
  case round =>
    subst hrel
    by_cases hlt : k < s.size
    · have d1 : decide ((k : Int) < (s.size : Int)) = true := decide_eq_true (by omega)
      have d2 : decide (k < s.size) = true := decide_eq_true hlt
      have i0 : (0 : Int) ≤ (k : Int) := by omega
      have i1 : (k : Int) < (s.size : Int) := by omega
      have i2 : (k : Int) < (rs.size : Int) := by omega
      obtain ⟨x, hx, hxl⟩ := byte_at s k hlt
      have hx128 : x.toNat < 128 := HA.out k x hxl
      have d3 : ((x.toNat : Int) != (y.toNat : Int)) = true := by simp only [bne_iff_ne, ne_eq]; omega
      have i3 : (0 : Int) ≤ (k : Int) + 1 := by omega
      have i4 : (k : Int) + 1 ≤ (s.size : Int) := by omega
      clear hxl
      have hib : Lib.indexByte ((s.extract (k + 1) s.size).data.toList) y = -1 := indexByte_high (asc_extract HA.out _ _) e4
      have hwr : IntKind.i64.wrap ((k : Int) + 1) = (k : Int) + 1 := Go.wrap_small _ (by omega) (by omega)
      have htn : ((k : Int) + 1).toNat = k + 1 := by omega
      have hyb : ((y.toNat : Int)).toNat.toUInt8 = y := by simp
      go_wp2_with fail
      go_step3
      go_wp2_with fail
      go_quiet (fail)
      have hW : Chg NoB w (w.drewN nq) := (Chg.refl _ _).drewN _
      generalize w.drewN nq = w1 at hW ⊢
      go_wp2_with fail
      go_quiet (first | (go_at_call 57; exact Calls.quiet_of_same ((Tryd.strings_IndexByte _ _ _).mono fun _ _ h => ⟨by rw [h.1, hyb, hib], h.2⟩)))
      go_wp2
      rw [Exit.noGoto_ret]
      go_wp2
      go_show
      (try rw [Exit.noGoto_ret])
      go_ret
      exact ⟨rfl, hW.drewN _⟩
    · have d1 : decide ((k : Int) < (s.size : Int)) = false := decide_eq_false (by omega)
      have d2 : decide (k < s.size) = false := decide_eq_false hlt
      go_wp2
      go_ret
      exact ⟨rfl, Chg.refl _ _⟩

/-- The first place of one of some ASCII bytes, from i on. -/
theorem hv116 : ∀ w, (zeroValue 71).run Tryd.prog w = .ok (.agg (Array.replicate 256 (.bool false))) w := (zero_of_info (P := Tryd.prog) (t := 71) (v := .agg (Array.replicate 256 (.bool false))) (n := 256) (by kernel_rfl)).1
/-- An iterator over s, at block b. -/
def ItAt (w : World) (b : Nat) (s : ByteArray) (pos : Nat) : Prop := w.heap[b]? = some (.stringIter s pos)
theorem ItAt.new (w : World) (s : ByteArray) : ItAt (w.iter s 0) w.heap.size s 0 := World.iter_heap w s 0
theorem ItAt.keep {F : Nat → Prop} {a b : World} {k : Nat} {s : ByteArray} {pos : Nat} (h : ItAt a k s pos) (hc : Chg F a b) (hn : ¬ F k) : ItAt b k s pos := hc.keep hn h
def setIt (w : World) (b : Nat) (s : ByteArray) (pos : Nat) : World := { w with heap := w.heap.setIfInBounds b (.stringIter s pos) }
theorem ItAt.lt {w : World} {b : Nat} {s : ByteArray} {pos : Nat} (h : ItAt w b s pos) : b < w.heap.size := (Array.getElem?_eq_some_iff.1 h).1
theorem ItAt.set {w : World} {b : Nat} {s : ByteArray} {pos : Nat} (h : ItAt w b s pos) (pos' : Nat) : ItAt (setIt w b s pos') b s pos' := by
  have := h.lt
  unfold ItAt setIt
  simp [this]
theorem ItAt.chg {w : World} {b : Nat} {s : ByteArray} {pos : Nat} (h : ItAt w b s pos) (pos' : Nat) : Chg (F1 b) w (setIt w b s pos') :=
  ⟨rfl, rfl, rfl, by simp [setIt], fun k hk hn => by
    have : ¬ b = k := fun e => hn e.symm
    simp [setIt, this]⟩
theorem run_next_at {P : Program} {w : World} {b : Nat} {s : ByteArray} {pos : Nat} (hb : ItAt w b s pos) (ty : TypeId) (h : pos < s.size) :
    (Instr.next (.pointer (some ⟨b, 0, none⟩)) true ty).run P w = .ok (.tuple #[.bool true, .int .i64 pos, .int .i32 (Utf8.decode s pos).1]) (setIt w b s (pos + (Utf8.decode s pos).2)) := by
  have hb' : w.heap[b]? = some (.stringIter s pos) := hb
  simp only [Instr.next, getObj, setObj, Sem.run_bind, Sem.run, hb', Result.andThen, h, if_true]
  simp [goInt, setIt]
theorem run_next_stop {P : Program} {w : World} {b : Nat} {s : ByteArray} {pos : Nat} (hb : ItAt w b s pos) (ty : TypeId) (h : ¬ pos < s.size) :
    (Instr.next (.pointer (some ⟨b, 0, none⟩)) true ty).run P w = .ok (.tuple #[.bool false]) w := by
  have hb' : w.heap[b]? = some (.stringIter s pos) := hb
  simp [Instr.next, getObj, Sem.run, hb', h]
set_option maxRecDepth 100000 in
set_option maxHeartbeats 4000000 in
theorem indexAny_short (w : World) (s chars : ByteArray) (h2 : 2 ≤ chars.size) (h100 : chars.size ≤ 100) (h8 : s.size ≤ 8) (hac : Asc chars.data.toList) :
    Calls Tryd.prog 36 #[.string s, .string chars] w fun e w' => e = .returned (.int .i64 (Lib.indexAny s.data.toList chars.data.toList)) ∧ Chg NoB w w' := by
  have HA := hid hac
  clear hac
  have hemp : chars.toList.isEmpty = false := by
    rw [ByteArray.toList_eq]
    cases h : chars.data.toList with
    | nil => have := len_data chars; rw [h, List.length_nil] at this; omega
    | cons _ _ => rfl
  have hn1 : ((chars.size : Int) == 1) = false := beq_eq_false_iff_ne.2 (by omega)
  have h8z : decide ((8 : Int) < (s.size : Int)) = false := decide_eq_false (by omega)
  go_enter Tryd.func36, Tryd.ntmps36
  go_wp2_with (first | ((with_reducible (go_at_call 48; refine (Tryd.strings_shouldUseASCIISet _ _).mono ?_)); rintro e w' ⟨rfl, hw⟩; rw [hw, h8z]; clear hw))
  go_loopg [9, 10] s.size (fun g _ _ wx => ∃ i : Nat, i + g = s.size ∧ Hid (ItAt wx w.heap.size s i) ∧ Hid (Chg NoB w wx) ∧ Hid (Lib.NoAny s.data.toList chars.data.toList i))
  case atStart => exact ⟨0, by omega, hid (ItAt.new w s), hid ((Chg.refl NoB w).alloc _), hid (Lib.NoAny.zero _ _)⟩
  case round =>
    obtain ⟨i, hig, HI, HC, HN⟩ := hrel
    by_cases hi : i < s.size
    · have hnx := fun ty => run_next_at (P := Tryd.prog) HI.out ty hi
      have HD := hid (decode_tail s i hi)
      have hle := decode_le s i
      obtain ⟨x, hx, hxl⟩ := byte_at s i hi
      have HXL := hid hxl
      have HX := hid hx
      clear hxl hx
      by_cases hx128 : x.toNat < 128
      · have hde : Utf8.decode s i = (x.toNat, 1) := by rw [decode_ascii s i hi (by rw [HX.out]; exact hx128), HX.out]
        rw [hde] at hnx
        clear hde hle
        have hcon := Lib.contains_iff_indexByte chars.data.toList x
        have hback : ((x.toNat : Int)).toNat.toUInt8 = x := by simp
        cases hin : chars.data.toList.contains x
        · rw [hin] at hcon
          have hlt : decide ((0 : Int) ≤ Lib.indexByte chars.data.toList x) = false := hcon.symm
          clear hcon
          go_wp2_with (first | ((with_reducible (go_at_call 47; refine (Tryd.strings_IndexRune_ascii _ _ _ (by omega) (by omega)).mono ?_)); rintro e w' ⟨rfl, hw⟩; rw [hw, hback]; clear hw))
          go_roundg (gk - 1)
          case measure => omega
          case rel => exact ⟨i + 1, by omega, hid (HI.out.set _), hid (HC.out.trans (HI.out.chg _) (fun k hk e => by have : k = w.heap.size := e; omega)), hid (HN.out.succ HXL.out hin)⟩
        · rw [hin] at hcon
          have hge : decide ((0 : Int) ≤ Lib.indexByte chars.data.toList x) = true := hcon.symm
          clear hcon
          have HR := hid (Lib.indexAny_hit HN.out HXL.out hin)
          go_wp2_with (first | ((with_reducible (go_at_call 47; refine (Tryd.strings_IndexRune_ascii _ _ _ (by omega) (by omega)).mono ?_)); rintro e w' ⟨rfl, hw⟩; rw [hw, hback]; clear hw))
          go_ret
          exact ⟨by rw [HR.out]; rfl, HC.out.trans (HI.out.chg _) (fun k hk e => by have : k = w.heap.size := e; omega)⟩
      · have hde := decode_high s i hi (by rw [HX.out]; omega)
        obtain ⟨d1, d2⟩ := HD.out
        generalize hq : Utf8.decode s i = q at *
        obtain ⟨r, k⟩ := q
        simp only at hde d1 d2 hle hnx
        have HJ := hid (noAny_jump HN.out HA.out (k := k) (fun j b h1 h2 hb => by
          rcases Nat.lt_or_eq_of_le h1 with h | h
          · exact d2.2 j b h h2 hb
          · subst h; rw [HXL.out] at hb; injection hb with hb; subst hb; omega))
        have d3 := d2.1
        clear d2 hq HD
        go_wp2_with (first | ((with_reducible (go_at_call 47; refine (indexRune_high _ _ _ (by omega) (by omega) HA.out h100).mono ?_)); rintro e w' ⟨rfl, hc1⟩))
        go_roundg (gk - k)
        case measure => omega
        case rel => exact ⟨i + k, by omega, hid ((HI.out.set _).keep hc1 not_false), hid ((HC.out.trans (HI.out.chg _) (fun k hk e => by have : k = w.heap.size := e; omega)).trans hc1 (fun _ _ h => h)), HJ⟩
    · have hnx := fun ty => run_next_stop (P := Tryd.prog) HI.out ty hi
      have HR := hid (Lib.indexAny_none (s := s.data.toList) (chars := chars.data.toList) (by rw [len_data]; exact (show i = s.size by omega) ▸ HN.out))
      go_wp2
      go_ret
      exact ⟨by rw [HR.out]; rfl, HC.out⟩
end Go.Proofs.YtkphllolghlmeaaDoor
