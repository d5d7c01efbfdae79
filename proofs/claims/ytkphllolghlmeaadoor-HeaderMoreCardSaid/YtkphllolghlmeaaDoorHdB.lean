import Derived.Test.YtkphllolghlmeaaDoorHdA
namespace Go.Proofs.YtkphllolghlmeaaDoor
open Go.RowKit

/-! header.lower, Same, Get. -/
def lowered (l : List UInt8) (i : Nat) : List UInt8 := (l.take i).map lowc ++ l.drop i
theorem lowered_zero (l : List UInt8) : lowered l 0 = l := by simp [lowered]
theorem lowered_all (l : List UInt8) (n : Nat) (h : l.length ≤ n) : lowered l n = l.map lowc := by simp [lowered, List.take_of_length_le h, List.drop_of_length_le h]
theorem lowered_length (l : List UInt8) (i : Nat) : (lowered l i).length = l.length := by simp [lowered]; omega
theorem lowered_get (l : List UInt8) (i : Nat) : (lowered l i)[i]? = l[i]? := by
  unfold lowered
  by_cases h : i < l.length
  · rw [List.getElem?_append_right (by simp; omega)]
    simp [Nat.min_eq_left (Nat.le_of_lt h)]
  · rw [List.getElem?_eq_none (by simp; omega), List.getElem?_eq_none (by omega)]
theorem lowered_set (l : List UInt8) (i : Nat) (x : UInt8) (h : l[i]? = some x) : (lowered l i).set i (lowc x) = lowered l (i + 1) := by
  obtain ⟨hi, hx⟩ := List.getElem?_eq_some_iff.1 h
  unfold lowered
  rw [List.set_append_right _ _ (by simp; omega), List.take_add_one, h]
  simp only [List.length_map, List.length_take, Nat.min_eq_left (Nat.le_of_lt hi), Nat.sub_self, List.map_append, Option.toList_some, List.map_cons, List.map_nil, List.append_assoc]
  rw [List.drop_eq_getElem_cons hi, List.set_cons_zero]
  rfl
theorem lowered_next (l : List UInt8) (i : Nat) (x : UInt8) (h : l[i]? = some x) (hx : lowc x = x) : lowered l i = lowered l (i + 1) := by
  rw [← lowered_set l i x h, hx]
  apply List.ext_getElem?
  intro k
  rw [List.getElem?_set]
  by_cases e : i = k
  · subst e
    have hi := (List.getElem?_eq_some_iff.1 h).1
    rw [if_pos rfl, if_pos (by rw [lowered_length]; exact hi), lowered_get, h]
  · rw [if_neg e]

set_option maxHeartbeats 1000000 in
theorem hd_lower (w : World) (s : ByteArray) (hs : s.size ≤ maxLen) :
    Calls Tryd.prog 31 #[.string s] w fun e w' => e = .returned (.string (str (s.data.toList.map lowc))) ∧ Chg NoB w w' := by
  have hsl : Hid (s.data.toList.length = s.size) := hid Array.length_toList
  go_enter Tryd.func31, Tryd.ntmps31
  go_wp2_with ((with_reducible refine wpList_to_bytes rfl (.tmp 6) _ _ 5 rfl rfl rfl rfl s rfl hs ?_); intro g c w1 hg hG hc1)
  have HG := hid hG
  clear hG
  unfold maxLen at hs
  go_loopw [4, 5, 10] (fun _ _ v wr => ∃ i : Nat, v = .int .i64 i ∧ i ≤ s.size ∧ Hid (Own wr 5 1 (some ⟨g, 0, none⟩) s.size c (u8s (lowered s.data.toList i))) ∧ Hid (Chg NoB w wr)) (fun _ _ v _ => s.size - (intOf v).toNat)
  case atStart => exact ⟨0, rfl, Nat.zero_le _, hid (by rw [lowered_zero]; exact HG.out), hid hc1⟩
  case round =>
    obtain ⟨i, rfl, h1, HO, HC⟩ := hrel
    clear hc1
    by_cases hlt : i < s.size
    · have t1 : decide ((i : Int) < (s.size : Int)) = true := decide_eq_true (by omega)
      have t2 : decide (i < s.size) = true := decide_eq_true hlt
      have i0 : (0 : Int) ≤ (i : Int) := by omega
      have i1 : (i : Int) < (s.size : Int) := by omega
      obtain ⟨x, hx, hxl⟩ := byte_at s i hlt
      have kc : wr.cell? ⟨g, i, none⟩ = some (.int .u8 (x.toNat : Int)) := HO.out.cell rfl i _ (by rw [u8s_get, lowered_get, hxl]; rfl)
      have hge := HO.out.cap
      have kf : wr.frozen? ⟨g, i, none⟩ = false := HO.out.frozen rfl i (by omega)
      clear hge
      have HX := hid hxl
      clear hxl hx
      have hx8 := x.toNat_lt
      by_cases h65 : 65 ≤ x.toNat
      · have d1 : decide (65 ≤ (x.toNat : Int)) = true := decide_eq_true (by omega)
        by_cases h90 : x.toNat ≤ 90
        · have d2 : decide ((x.toNat : Int) ≤ 90) = true := decide_eq_true (by omega)
          have HL := hid (lowc_in x h65 h90)
          go_wp2
          go_roundw
          case rel =>
            refine ⟨i + 1, by go_num, by omega, hid ?_, hid (HC.out.setCell _ _ (fun h => absurd (show g < w.heap.size from h) (by omega)))⟩
            have := HO.out.set i (.int .u8 ((lowc x).toNat : Int))
            rw [show (u8s (lowered s.data.toList i)).set i (.int .u8 ((lowc x).toNat : Int)) = u8s (lowered s.data.toList (i + 1)) by rw [← lowered_set _ _ _ HX.out]; simp [u8s, List.map_set, u8v]] at this
            rw [HL.out, show ((x.toNat + 32 : Nat) : Int) = (x.toNat : Int) + 97 - 65 by omega] at this
            exact this
          case measure => simp [intOf]; omega
        · have d2 : decide ((x.toNat : Int) ≤ 90) = false := decide_eq_false (by omega)
          have HL := hid (lowc_out x (by omega))
          go_wp2
          go_roundw
          case rel => exact ⟨i + 1, by go_num, by omega, hid (by rw [← lowered_next _ _ _ HX.out HL.out]; exact HO.out), HC⟩
          case measure => simp [intOf]; omega
      · have d1 : decide (65 ≤ (x.toNat : Int)) = false := decide_eq_false (by omega)
        have HL := hid (lowc_out x (by omega))
        go_wp2
        go_roundw
        case rel => exact ⟨i + 1, by go_num, by omega, hid (by rw [← lowered_next _ _ _ HX.out HL.out]; exact HO.out), HC⟩
        case measure => simp [intOf]; omega
    · have t1 : decide ((i : Int) < (s.size : Int)) = false := decide_eq_false (by omega)
      have t2 : decide (i < s.size) = false := decide_eq_false hlt
      obtain rfl : i = s.size := by omega
      have ho2 := HO.out
      rw [lowered_all s.data.toList s.size (Nat.le_of_eq hsl.out)] at ho2
      have hcv := run_to_str (P := Tryd.prog) ho2 42 9 5 Tryd.underlying42 Tryd.underlying5 Tryd.underlying9
      clear ho2
      go_wp2
      go_ret
      exact ⟨rfl, HC.out⟩

theorem str_toList' (l : List UInt8) : (str l).toList = l := by rw [ByteArray.toList_eq, str_toList]
theorem same_beq (a b : ByteArray) : ((str (a.data.toList.map lowc)).toList == (str (b.data.toList.map lowc)).toList) = same a b := by
  rw [str_toList', str_toList']
  unfold same
  by_cases h : a.data.toList.map lowc = b.data.toList.map lowc
  · rw [decide_eq_true h]; simp [h]
  · rw [decide_eq_false h]; simp [h]
theorem hd_same (w : World) (a b : ByteArray) (ha : a.size ≤ maxLen) (hb : b.size ≤ maxLen) :
    Calls Tryd.prog 19 #[.string a, .string b] w fun e w' => e = .returned (.bool (same a b)) ∧ Chg NoB w w' := by
  have hf := same_beq a b
  go_enter Tryd.func19, Tryd.ntmps19
  go_wp2_with (first
    | ((with_reducible (go_at_call 31; refine (hd_lower w a ha).mono ?_)); rintro e w1 ⟨rfl, hc1⟩)
    | ((with_reducible (go_at_call 31; refine (hd_lower w1 b hb).mono ?_)); rintro e w2 ⟨rfl, hc2⟩))
  go_ret
  exact ⟨by first | rfl | (rw [hf]; rfl), hc1.trans hc2 (fun _ _ h => h)⟩

/-- The first field of a name. -/
def getF (l : List Fld) (n : ByteArray) : Option Fld := l.find? (fun f => same f.name n)
def getV (l : List Fld) (n : ByteArray) : ByteArray := match getF l n with | some f => f.body | none => ⟨#[]⟩
def getB (l : List Fld) (n : ByteArray) : Bool := (getF l n).isSome
theorem getF_hit {l : List Fld} {n : ByteArray} : ∀ {i : Nat} {x : Fld}, (∀ (j : Nat) (y : Fld), j < i → l[j]? = some y → same y.name n = false) → l[i]? = some x → same x.name n = true → getF l n = some x := by
  induction l with
  | nil => intro i x _ h; simp at h
  | cons a r ih =>
    intro i x hno hx hs
    unfold getF
    cases i with
    | zero => simp at hx; subst hx; rw [List.find?_cons, hs]
    | succ i =>
      rw [List.find?_cons, hno 0 a (Nat.succ_pos _) rfl]
      exact ih (i := i) (fun j y hj hy => hno (j + 1) y (by omega) (by simpa using hy)) (by simpa using hx) hs
theorem getF_none {l : List Fld} {n : ByteArray} (h : ∀ (j : Nat) (y : Fld), l[j]? = some y → same y.name n = false) : getF l n = none := by
  unfold getF
  rw [List.find?_eq_none]
  intro x hx
  obtain ⟨j, hj⟩ := List.getElem?_of_mem hx
  rw [h j x hj]; simp
def NoneTill (l : List Fld) (nm : ByteArray) (i : Nat) : Prop := ∀ (j : Nat) (y : Fld), j < i → l[j]? = some y → same y.name nm = false
theorem NoneTill.zero (l : List Fld) (nm : ByteArray) : NoneTill l nm 0 := fun _ _ h => absurd h (Nat.not_lt_zero _)
theorem NoneTill.succ {l : List Fld} {nm : ByteArray} {i : Nat} {x : Fld} (h : NoneTill l nm i) (hx : l[i]? = some x) (hs : same x.name nm = false) : NoneTill l nm (i + 1) := fun j y hj hy => by
  rcases Nat.lt_succ_iff_lt_or_eq.1 hj with h' | h'
  · exact h j y h' hy
  · subst h'; rw [hx] at hy; injection hy with hy; rw [← hy]; exact hs
theorem NoneTill.getV {l : List Fld} {nm : ByteArray} {i : Nat} (h : NoneTill l nm i) (hi : l.length ≤ i) : getV l nm = ⟨#[]⟩ ∧ getB l nm = false := by
  have := getF_none (l := l) (n := nm) (fun j y hy => h j y (by have := (List.getElem?_eq_some_iff.1 hy).1; omega) hy)
  unfold Go.Proofs.YtkphllolghlmeaaDoor.getV getB
  rw [this]; exact ⟨rfl, rfl⟩
theorem NoneTill.hit {l : List Fld} {nm : ByteArray} {i : Nat} {x : Fld} (h : NoneTill l nm i) (hx : l[i]? = some x) (hs : same x.name nm = true) : Go.Proofs.YtkphllolghlmeaaDoor.getV l nm = x.body ∧ getB l nm = true := by
  have := getF_hit h hx hs
  unfold Go.Proofs.YtkphllolghlmeaaDoor.getV getB
  rw [this]; exact ⟨rfl, rfl⟩
/-- All fields are of a size that an int holds. -/
def Sized (l : List Fld) : Prop := ∀ x ∈ l, x.name.size ≤ 1000000 ∧ x.body.size ≤ 1000000
theorem Sized.at {l : List Fld} (h : Sized l) {i : Nat} {x : Fld} (hx : l[i]? = some x) : x.name.size ≤ 1000000 ∧ x.body.size ≤ 1000000 := h x (List.mem_of_getElem? hx)
theorem le_max {n : Nat} (h : n ≤ 1000000) : n ≤ maxLen := by unfold maxLen; omega

set_option maxHeartbeats 400000 in
theorem ref_get (w : World) (A : Option Addr) (n c : Nat) (l : List Fld) (nm : ByteArray) (h : FldsAt w A n l) (hn : n ≤ 1000000) (hl : Sized l) :
    Calls Tryd.prog 16 #[.slice A n c, .string nm] w fun e w' => e = .returned (.tuple #[.string (getV l nm), .bool (getB l nm)]) ∧ Quiet w w' := by
  have HA := hid h
  clear h
  go_enter Tryd.func16, Tryd.ntmps16
  go_wp2
  go_loopw [6] (fun v wr => ∃ i : Nat, v = .int .i64 i ∧ i ≤ n ∧ Hid (NoneTill l nm i) ∧ Quiet w wr) (fun v _ => n - (intOf v).toNat)
  case atStart => exact ⟨0, rfl, Nat.zero_le _, hid (NoneTill.zero _ _), Quiet.refl w⟩
  case round =>
    obtain ⟨i, rfl, h1, HN, HQ⟩ := hrel
    by_cases hlt : i < n
    · have t1 : decide ((i : Int) < (n : Int)) = true := decide_eq_true (by omega)
      have t2 : decide (i < n) = true := decide_eq_true hlt
      have i0 : (0 : Int) ≤ (i : Int) := by omega
      have i1 : (i : Int) < (n : Int) := by omega
      have hA := HA.out.keep (HQ.chg NoB)
      obtain ⟨b, o, rfl, hb, hc⟩ := hA.2 (by omega)
      obtain ⟨x, hx⟩ : ∃ x, l[i]? = some x := ⟨l[i]'(by rw [hA.1]; exact hlt), List.getElem?_eq_getElem _⟩
      obtain ⟨k0, k1⟩ := hc i x hx
      have hz := (hl.at hx).1
      have HX := hid hx
      clear hx hc hA
      by_cases hs : same x.name nm = true
      · have HG := hid (HN.out.hit HX.out hs)
        go_wp2_with ((with_reducible (go_at_call 20; refine (ref_same wr x.name nm (le_max hz)).mono ?_)); rintro e w1 ⟨rfl, m, rfl⟩)
        go_ret2
        exact ⟨by rw [HG.out.1, HG.out.2]; rfl, HQ.drewN _⟩
      · have hs' : same x.name nm = false := by simpa using hs
        clear hs
        go_wp2_with ((with_reducible (go_at_call 20; refine (ref_same wr x.name nm (le_max hz)).mono ?_)); rintro e w1 ⟨rfl, m, rfl⟩)
        go_roundw
        case rel => exact ⟨i + 1, by go_num, by omega, hid (HN.out.succ HX.out hs'), HQ.drewN _⟩
        case measure => simp [intOf]; omega
    · have t1 : decide ((i : Int) < (n : Int)) = false := decide_eq_false (by omega)
      have t2 : decide (i < n) = false := decide_eq_false hlt
      have HG := hid (HN.out.getV (by have := HA.out.1; omega))
      go_wp2
      go_ret2
      exact ⟨by rw [HG.out.1, HG.out.2]; rfl, HQ⟩
set_option maxHeartbeats 400000 in
theorem hd_get (w : World) (A : Option Addr) (n c : Nat) (l : List Fld) (nm : ByteArray) (h : FldsAt w A n l) (hn : n ≤ 1000000) (hl : Sized l) (hnm : nm.size ≤ maxLen) :
    Calls Tryd.prog 15 #[.slice A n c, .string nm] w fun e w' => e = .returned (.tuple #[.string (getV l nm), .bool (getB l nm)]) ∧ Chg NoB w w' := by
  have HA := hid h
  clear h
  go_enter Tryd.func15, Tryd.ntmps15
  go_wp2
  go_loopw [7, 10] (fun _ v wr => ∃ i : Nat, v = .int .i64 i ∧ i ≤ n ∧ Hid (NoneTill l nm i) ∧ Hid (Chg NoB w wr)) (fun _ v _ => n - (intOf v).toNat)
  case atStart => exact ⟨0, rfl, Nat.zero_le _, hid (NoneTill.zero _ _), hid (Chg.refl NoB w)⟩
  case round =>
    obtain ⟨i, rfl, h1, HN, HQ⟩ := hrel
    by_cases hlt : i < n
    · have t1 : decide ((i : Int) < (n : Int)) = true := decide_eq_true (by omega)
      have t2 : decide (i < n) = true := decide_eq_true hlt
      have i0 : (0 : Int) ≤ (i : Int) := by omega
      have i1 : (i : Int) < (n : Int) := by omega
      have hA := HA.out.keep HQ.out
      obtain ⟨b, o, rfl, hb, hc⟩ := hA.2 (by omega)
      obtain ⟨x, hx⟩ : ∃ x, l[i]? = some x := ⟨l[i]'(by rw [hA.1]; exact hlt), List.getElem?_eq_getElem _⟩
      obtain ⟨k0, k1⟩ := hc i x hx
      have hz := (hl.at hx).1
      have HX := hid hx
      clear hx hc hA
      have HB := hid (Blk.new wr #[.string x.name, .string x.body] 38)
      cases hs : same x.name nm
      · go_wp2_with ((with_reducible (go_at_call 19; refine (hd_same _ x.name nm (le_max hz) hnm).mono ?_)); rintro e w1 ⟨rfl, hc1⟩)
        go_roundw
        case rel => exact ⟨i + 1, by go_num, by omega, hid (HN.out.succ HX.out hs), hid ((HQ.out.alloc _).trans hc1 (fun _ _ h => h))⟩
        case measure => simp [intOf]; omega
      · have HG := hid (HN.out.hit HX.out hs)
        go_wp2_with ((with_reducible (go_at_call 19; refine (hd_same _ x.name nm (le_max hz) hnm).mono ?_)); rintro e w1 ⟨rfl, hc1⟩; have q1 := (HB.out.keep hc1 not_false).cell 1; simp only [List.getElem?_toArray, List.getElem?_cons_succ, List.getElem?_cons_zero] at q1)
        go_ret2
        exact ⟨by rw [HG.out.1, HG.out.2]; rfl, (HQ.out.alloc _).trans hc1 (fun _ _ h => h)⟩
    · have t1 : decide ((i : Int) < (n : Int)) = false := decide_eq_false (by omega)
      have t2 : decide (i < n) = false := decide_eq_false hlt
      have HG := hid (HN.out.getV (by have := HA.out.1; omega))
      go_wp2
      go_ret2
      exact ⟨by rw [HG.out.1, HG.out.2]; rfl, HQ.out⟩
end Go.Proofs.YtkphllolghlmeaaDoor
