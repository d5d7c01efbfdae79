/- header.cut: the lines ahead of the first empty one. -/
import Derived.Test.YtkphllolghlmeaaDoorHdN
import Derived.Test.YtkphllolghlmeaaDoorHdQ
namespace Go.Proofs.YtkphllolghlmeaaDoor
open Go.RowKit

theorem cut_call (W : World) (r sep : ByteArray) (hr : r.size ≤ 1000000) (hm : ML W) : Calls Tryd.prog 28 #[.string r, .string sep] W fun e w' =>
    e = .returned (.tuple #[.string (str (Lib.cut r.data.toList sep.data.toList).1), .string (str (Lib.cut r.data.toList sep.data.toList).2.1), .bool (Lib.cut r.data.toList sep.data.toList).2.2]) ∧ Chg NoB W w' := by
  obtain ⟨m, hm⟩ := hm
  refine (Tryd.strings_Cut r sep m W (by omega) hm).mono fun e w' ⟨h1, n, h2⟩ => ⟨h1, ?_⟩
  rw [h2]; exact (Chg.refl NoB W).drewN n
/-- What cut keeps. -/
def CutI (s : ByteArray) (L : List (List UInt8)) (r : ByteArray) : Prop := scan [] s.data.toList = (scan [] r.data.toList).map fun p => (L ++ p.1, p.2)
theorem CutI.zero (s : ByteArray) : CutI s [] s := by
  unfold CutI
  cases scan [] s.data.toList <;> rfl
theorem CutI.none {s r : ByteArray} {L : List (List UInt8)} (h : CutI s L r) (hi : Lib.index r.data.toList [13, 10] = -1) : scan [] s.data.toList = none := by
  unfold CutI at h
  rw [h, scan_none _ _ hi]; rfl
theorem CutI.done {s r : ByteArray} {L : List (List UInt8)} (h : CutI s L r) (hi : Lib.index r.data.toList [13, 10] = 0) : scan [] s.data.toList = some (L, r.data.toList.drop 2) := by
  unfold CutI at h
  rw [h, scan_some _ [] 0 hi]; simp
theorem CutI.next {s r : ByteArray} {L : List (List UInt8)} {i : Nat} (h : CutI s L r) (hi : Lib.index r.data.toList [13, 10] = i) (h0 : i ≠ 0) : CutI s (L ++ [r.data.toList.take i]) (str (r.data.toList.drop (i + 2))) := by
  unfold CutI at *
  rw [h, scan_some _ [] i hi, if_neg (fun e => h0 e.2), str_toList]
  cases scan [] (r.data.toList.drop (i + 2)) <;> simp
/-- What cut answers. -/
def CutOut (s : ByteArray) (w : World) (e : Ending) (w' : World) : Prop :=
  ((scan [] s.data.toList = none ∧ e = .returned (.tuple #[.slice none 0 0, .string ⟨#[]⟩, .bool false])) ∨
   ∃ L rest A c, scan [] s.data.toList = some (L, rest) ∧ e = .returned (.tuple #[.slice A L.length c, .string (str rest), .bool true]) ∧ Own w' 9 1 A L.length c (strsC L)) ∧ Chg NoB w w'
set_option maxRecDepth 100000 in
set_option maxHeartbeats 8000000 in
theorem hd_cut (w : World) (s : ByteArray) (hs : s.size ≤ 1000000) (hm : ML w) :
    Calls Tryd.prog 26 #[.string s] w (CutOut s w) := by
  have HM := hid hm
  clear hm
  go_enter Tryd.func26, Tryd.ntmps26
  go_wp2
  go_loopg [0, 2] s.size (fun gk v0 v2 wr => ∃ (r : ByteArray) (L : List (List UInt8)) (A : Option Addr) (n c : Nat), v0 = .string r ∧ v2 = .slice A n c ∧ r.size ≤ gk ∧ r.size ≤ 1000000 ∧ n + r.size ≤ s.size ∧ Hid (n = L.length) ∧ Hid (CutI s L r) ∧ Hid (Own wr 9 1 A n c (strsC L)) ∧ Hid (Chg NoB w wr) ∧ Hid (∀ k, blkOf A = some k → w.heap.size ≤ k))
  case atStart => exact ⟨s, [], none, 0, 0, rfl, rfl, Nat.le_refl _, hs, by omega, hid rfl, hid (CutI.zero s), hid (Own.nil _ _ _), hid (Chg.refl _ _), hid (fun k h => by cases h)⟩
  case round =>
    obtain ⟨r, L, A, n, c, rfl, rfl, h1, h2, h3, HN, HI, HO, HC, HG⟩ := hrel
    have hcall := cut_call wr r ⟨#[13, 10]⟩ h2 (HM.out.keep HC.out not_false)
    have hix := Lib.index_spec r.data.toList [13, 10]
    have hroom := Lib.index_room r.data.toList [13, 10]
    unfold Lib.cut at hcall
    rcases hix with ⟨hi, _⟩ | ⟨i, hi, _⟩
    · rw [show Lib.index r.data.toList (ByteArray.mk #[13, 10]).data.toList = -1 from hi, if_neg (by decide)] at hcall
      have HS := hid (HI.out.none hi)
      have HCC := hid hcall
      clear hcall hi hroom
      go_wp2_with ((with_reducible (go_at_call 28; refine HCC.out.mono ?_)); rintro e w1 ⟨rfl, hc1⟩)
      go_ret3
      exact ⟨.inl ⟨HS.out, rfl⟩, HC.out.trans hc1 (fun _ _ h => h)⟩
    · have hrm := hroom (by omega)
      rw [hi] at hrm
      have hlen := len_data r
      rw [show Lib.index r.data.toList (ByteArray.mk #[13, 10]).data.toList = i from hi, if_pos (by omega)] at hcall
      by_cases h0 : i = 0
      · subst h0
        have HS := hid (HI.out.done hi)
        have hcall2 : Calls Tryd.prog 28 #[.string r, .string ⟨#[13, 10]⟩] wr fun e w' => e = .returned (.tuple #[.string ⟨#[]⟩, .string (str (r.data.toList.drop 2)), .bool true]) ∧ Chg NoB wr w' := hcall
        have HCC := hid hcall2
        clear hcall hcall2 hi hroom
        go_wp2_with ((with_reducible (go_at_call 28; refine HCC.out.mono ?_)); rintro e w1 ⟨rfl, hc1⟩)
        go_ret3
        refine ⟨.inr ⟨L, _, A, c, HS.out, ?_, ?_⟩, HC.out.trans hc1 (fun _ _ h => h)⟩
        · rw [← HN.out]; rfl
        · rw [← HN.out]; exact HO.out.keep hc1 (fun _ _ => not_false)
      · obtain ⟨ln, hln⟩ : ∃ ln, ln = r.data.toList.take i := ⟨_, rfl⟩
        obtain ⟨bh, hbh⟩ : ∃ bh, bh = r.data.toList.drop (i + 2) := ⟨_, rfl⟩
        have HX := hid (HI.out.next hi h0)
        have hl1 : ln.length = i := by rw [hln, List.length_take]; simp only [List.length_cons, List.length_nil] at hrm; omega
        have hl2 : bh.length + i + 2 = r.size := by rw [hbh, List.length_drop]; simp only [List.length_cons, List.length_nil] at hrm; omega
        rw [← hln, ← hbh] at HX
        have e1 : Int.toNat (i : Int) = i := Int.toNat_natCast i
        rw [e1] at hcall
        rw [← hln, show r.data.toList.drop (i + (ByteArray.mk #[13, 10]).data.toList.length) = bh from hbh.symm] at hcall
        have t1 : ((str ln).toList == []) = false := by rw [str_toList', beq_eq_false_iff_ne]; intro e; rw [e] at hl1; exact h0 hl1.symm
        have t1' : (str ln).toList.isEmpty = false := by rw [str_toList', ← Bool.not_eq_true, List.isEmpty_iff]; intro e; rw [e] at hl1; exact h0 hl1.symm
        have HCC := hid hcall
        have hL := hid (And.intro hl1 hl2)
        have m1 : n + 1 ≤ maxLen := by unfold maxLen; omega
        have m2 : (n + 1) * 16 ≤ 140737488355328 := by omega
        clear hcall hi hroom hln hbh hrm e1 hlen hl1 hl2 h0
        go_wp2_with (first
          | ((with_reducible (go_at_call 28; refine HCC.out.mono ?_)); rintro e w1 ⟨rfl, hc1⟩; have HO1 := hid (HO.out.keep hc1 (fun _ _ => not_false)); have HC1 := hid (HC.out.trans hc1 (fun _ _ h => h)); clear hc1)
          | ((with_reducible refine wpList_append_all rfl (.tmp 20) (.tmp 22) 48 48 rfl 9 (.string ⟨#[]⟩) 1 16 rfl info_str rfl A n c rfl _ (HO1.out.alloc _) (.slice (some ⟨w1.heap.size, 0, none⟩) 1 1) rfl 1 [.string (str ln)] ((Blk.new _ _ _).srcOf (e' := 9) rfl rfl (by simp [Value.oneCell'])) m1 m2 ?_); intro A' c' w2 ho2 hc2 hb2; have HO2 := hid ho2; have HC2 := hid hc2; have HB2 := hid hb2; clear ho2 hc2 hb2))
        go_roundg bh.length
        case measure => have := hL.out; omega
        case rel =>
          have := hL.out
          refine ⟨str bh, L ++ [ln], A', n + 1, c', rfl, rfl, by rw [str_size]; omega, by rw [str_size]; omega, by rw [str_size]; omega, hid (by rw [List.length_append, ← HN.out]; rfl), HX, hid ?_, hid ?_, hid ?_⟩
          · rw [strsC_append]; exact HO2.out
          · exact ((HC1.out.alloc _).trans HC2.out (fun k hk e => by have := HG.out k e; omega))
          · intro k hk
            have h1 := (HC1.out.alloc (.cells #[.string (str ln)] 9)).size
            rcases HB2.out with e | e
            · exact HG.out k (by rw [← e]; exact hk)
            · rw [e] at hk; injection hk with hk; omega
end Go.Proofs.YtkphllolghlmeaaDoor
