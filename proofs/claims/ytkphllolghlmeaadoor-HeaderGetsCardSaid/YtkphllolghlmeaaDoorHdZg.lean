/- HeaderGets: the walk. -/
import Derived.Test.YtkphllolghlmeaaDoorHdZm
import Derived.Deep.RegionLaw
import Derived.Deep.DeepCutAuto
namespace Go.Proofs.YtkphllolghlmeaaDoor
open Go.RowKit

def upc (c : UInt8) : UInt8 := if 97 ≤ c ∧ c ≤ 122 then c - 32 else c
theorem upc_in (c : UInt8) (h1 : 97 ≤ c.toNat) (h2 : c.toNat ≤ 122) : (upc c).toNat = c.toNat - 32 := by
  have : 97 ≤ c ∧ c ≤ 122 := ⟨by rw [UInt8.le_iff_toNat_le]; exact h1, by rw [UInt8.le_iff_toNat_le]; exact h2⟩
  unfold upc; rw [if_pos this, UInt8.toNat_sub_of_le _ _ (by rw [UInt8.le_iff_toNat_le]; show 32 ≤ c.toNat; omega)]; rfl
theorem upc_out (c : UInt8) (h : ¬ (97 ≤ c.toNat ∧ c.toNat ≤ 122)) : upc c = c := by
  have : ¬ (97 ≤ c ∧ c ≤ 122) := fun e => h ⟨by have := e.1; rw [UInt8.le_iff_toNat_le] at this; exact this, by have := e.2; rw [UInt8.le_iff_toNat_le] at this; exact this⟩
  unfold upc; rw [if_neg this]
theorem low_up (c : UInt8) : lowc (upc c) = lowc c := by
  by_cases h : 97 ≤ c.toNat ∧ c.toNat ≤ 122
  · have h1 := upc_in c h.1 h.2
    have h2 := lowc_in (upc c) (by omega) (by omega)
    rw [lowc_out c (by omega)]
    exact UInt8.toNat_inj.1 (by omega)
  · rw [upc_out c h]
def mapTill (f : UInt8 → UInt8) (l : List UInt8) (i : Nat) : List UInt8 := (l.take i).map f ++ l.drop i
theorem mapTill_zero (f : UInt8 → UInt8) (l : List UInt8) : mapTill f l 0 = l := by simp [mapTill]
theorem mapTill_all (f : UInt8 → UInt8) (l : List UInt8) (n : Nat) (h : l.length ≤ n) : mapTill f l n = l.map f := by simp [mapTill, List.take_of_length_le h, List.drop_of_length_le h]
theorem mapTill_length (f : UInt8 → UInt8) (l : List UInt8) (i : Nat) : (mapTill f l i).length = l.length := by simp [mapTill]; omega
theorem mapTill_get (f : UInt8 → UInt8) (l : List UInt8) (i : Nat) : (mapTill f l i)[i]? = l[i]? := by
  unfold mapTill
  by_cases h : i < l.length
  · rw [List.getElem?_append_right (by simp; omega)]
    simp [Nat.min_eq_left (Nat.le_of_lt h)]
  · rw [List.getElem?_eq_none (by simp; omega), List.getElem?_eq_none (by omega)]
theorem mapTill_set (f : UInt8 → UInt8) (l : List UInt8) (i : Nat) (x : UInt8) (h : l[i]? = some x) : (mapTill f l i).set i (f x) = mapTill f l (i + 1) := by
  obtain ⟨hi, hx⟩ := List.getElem?_eq_some_iff.1 h
  unfold mapTill
  rw [List.set_append_right _ _ (by simp; omega), List.take_add_one, h]
  simp only [List.length_map, List.length_take, Nat.min_eq_left (Nat.le_of_lt hi), Nat.sub_self, List.map_append, Option.toList_some, List.map_cons, List.map_nil, List.append_assoc]
  rw [List.drop_eq_getElem_cons hi, List.set_cons_zero]
  rfl
theorem mapTill_next (f : UInt8 → UInt8) (l : List UInt8) (i : Nat) (x : UInt8) (h : l[i]? = some x) (hx : f x = x) : mapTill f l i = mapTill f l (i + 1) := by
  rw [← mapTill_set f l i x h, hx]
  apply List.ext_getElem?
  intro k
  rw [List.getElem?_set]
  by_cases e : i = k
  · subst e
    have hi := (List.getElem?_eq_some_iff.1 h).1
    rw [if_pos rfl, if_pos (by rw [mapTill_length]; exact hi), mapTill_get, h]
  · rw [if_neg e]
theorem same_up (a b : ByteArray) : same a (str (b.data.toList.map upc)) = same a b := by
  unfold same
  rw [str_toList, List.map_map, show (lowc ∘ upc) = lowc from funext low_up]
theorem getF_up (l : List Fld) (nm : ByteArray) : getF l (str (nm.data.toList.map upc)) = getF l nm := by
  unfold getF
  congr 1
  funext f
  exact same_up _ _
theorem get_up (l : List Fld) (nm : ByteArray) : getV l (str (nm.data.toList.map upc)) = getV l nm ∧ getB l (str (nm.data.toList.map upc)) = getB l nm := by
  unfold getV getB
  rw [getF_up]; exact ⟨rfl, rfl⟩
theorem get_ways (l : List Fld) (x : Fld) (nm : ByteArray) :
    (getB l nm = true ∧ same x.name nm = true ∧ getV (l ++ [x]) nm = getV l nm ∧ getB (l ++ [x]) nm = true ∧ getV (x :: l) nm = x.body ∧ getB (x :: l) nm = true) ∨
    (getB l nm = true ∧ same x.name nm = false ∧ getV (l ++ [x]) nm = getV l nm ∧ getB (l ++ [x]) nm = true ∧ getV (x :: l) nm = getV l nm ∧ getB (x :: l) nm = true) ∨
    (getB l nm = false ∧ same x.name nm = true ∧ getV (l ++ [x]) nm = x.body ∧ getB (l ++ [x]) nm = true ∧ getV (x :: l) nm = x.body ∧ getB (x :: l) nm = true) ∨
    (getB l nm = false ∧ same x.name nm = false ∧ getV (l ++ [x]) nm = getV l nm ∧ getB (l ++ [x]) nm = false ∧ getV (x :: l) nm = getV l nm ∧ getB (x :: l) nm = false) := by
  unfold getV getB getF
  rw [List.find?_append]
  cases hs : same x.name nm <;> cases hf : List.find? (fun f => same f.name nm) l <;> simp [hs, hf]
theorem FldsAt.al {w : World} {A : Option Addr} {n : Nat} {l : List Fld} (h : FldsAt w A n l) (o : Obj) : FldsAt (w.alloc o) A n l := h.keep ((Chg.refl NoB w).alloc o)
theorem app_keep {w W W' : World} {A : Option Addr} {cs : Array Value} {T : TypeId} (h : Chg NoB w W) (hb : Blk W w.heap.size cs T) (hc : Chg (FA A) W W') (hg : ∀ k, blkOf A = some k → w.heap.size < k) : Chg NoB w W' ∧ Blk W' w.heap.size cs T :=
  ⟨h.trans hc (fun i hi e => by have := hg i e; omega), hb.keep hc (fun e => by have := hg _ e; omega)⟩
set_option maxRecDepth 100000 in
set_option maxHeartbeats 16000000 in
theorem gets_walk (w : World) (A : Option Addr) (n c : Nat) (l : List Fld) (nm : ByteArray) (x : Fld) (h : FldsAt w A n l) (hn : n ≤ maxLen) (hz : MaxF l) (hnm : nm.size ≤ maxLen) (hxn : x.name.size ≤ maxLen) (hxb : x.body.size ≤ maxLen) (hm : ML w) :
    Calls Tryd.prog 6 #[.slice A n c, .string nm, .agg #[.string x.name, .string x.body]] w fun e w' => e = .returned (.bool true) ∧ Chg NoB w w' := by
  unfold maxLen at hnm hxn hxb
  have HBX := hid (Blk.new w #[.string x.name, .string x.body] 38)
  have HC0 := hid ((Chg.refl NoB w).alloc (.cells #[.string x.name, .string x.body] 38))
  have HM0 := hid (hm.keep HC0.out not_false)
  have HA := hid h
  have hF : ∀ W, FldsAt W A n l → Calls Tryd.prog 10 #[.slice A n c] W fun e w' => e = .returned (.bool (fewF l)) ∧ Chg NoB W w' := fun W hW => few_call W A n c l hW hn hz
  have haw := awake_true _ HM0.out
  have HAW := hid haw
  clear haw h hm hz hn
  by_cases hok : fewF l = true ∧ nm.size ≤ 200 ∧ x.name.size ≤ 200 ∧ x.body.size ≤ 1000
  case neg =>
    have tests : fewF l = false ∨ (fewF l = true ∧ decide (200 < (nm.size : Int)) = true) ∨ (fewF l = true ∧ decide (200 < (nm.size : Int)) = false ∧ decide (200 < (x.name.size : Int)) = true) ∨ (fewF l = true ∧ decide (200 < (nm.size : Int)) = false ∧ decide (200 < (x.name.size : Int)) = false ∧ decide (1000 < (x.body.size : Int)) = true) := by
      cases hf : fewF l
      · exact .inl rfl
      · by_cases h1 : nm.size ≤ 200
        · by_cases h2 : x.name.size ≤ 200
          · exact .inr (.inr (.inr ⟨rfl, decide_eq_false (by omega), decide_eq_false (by omega), decide_eq_true (by by_cases h3 : x.body.size ≤ 1000; exact absurd ⟨hf, h1, h2, h3⟩ hok; omega)⟩))
          · exact .inr (.inr (.inl ⟨rfl, decide_eq_false (by omega), decide_eq_true (by omega)⟩))
        · exact .inr (.inl ⟨rfl, decide_eq_true (by omega)⟩)
    clear hok
    rcases tests with hf | ⟨hf, t1⟩ | ⟨hf, t1, t2⟩ | ⟨hf, t1, t2, t3⟩
    all_goals
      rw [hf] at hF
      have HF := hid hF
      clear hF
      go_enter Tryd.func6, Tryd.ntmps6
      go_wp2_with (first
        | ((with_reducible (go_at_call 9; refine HAW.out.mono ?_)); rintro e w1 ⟨rfl, hc1⟩; have HC1 := hid (hc1.then HC0.out); have HA1 := hid (HA.out.keep HC1.out); have HB1 := hid (HBX.out.keep hc1 not_false); clear hc1)
        | ((with_reducible (go_at_call 10; refine (HF.out _ HA1.out).mono ?_)); rintro e w2 ⟨rfl, hc2⟩; have HC2 := hid (hc2.then HC1.out); have hb2 := HB1.out.keep hc2 not_false; have q0 := hb2.cell 0; have q1 := hb2.cell 1; simp only [List.getElem?_toArray, List.getElem?_cons_succ, List.getElem?_cons_zero] at q0 q1; clear hc2 hb2))
      go_ret
      exact ⟨rfl, HC2.out⟩
  obtain ⟨hf, h2, h3, h4⟩ := hok
  have t1 : decide (200 < (nm.size : Int)) = false := decide_eq_false (by omega)
  have t2 : decide (200 < (x.name.size : Int)) = false := decide_eq_false (by omega)
  have t3 : decide (1000 < (x.body.size : Int)) = false := decide_eq_false (by omega)
  rw [hf] at hF
  have HF := hid hF
  obtain ⟨hsz, hn1⟩ := few_le hf HA.out.1
  have HSZ := hid hsz
  have hn6 : n ≤ 1000000 := by omega
  have hnmm : nm.size ≤ maxLen := by unfold maxLen; omega
  have hxm : x.name.size ≤ maxLen := by unfold maxLen; omega
  have hs1 : Sized (l ++ [x]) := fun y hy => by
    rcases List.mem_append.1 hy with hy | hy
    · exact hsz y hy
    · simp at hy; subst hy; omega
  have hs2 : Sized (x :: l) := fun y hy => by
    rcases List.mem_cons.1 hy with rfl | hy
    · omega
    · exact hsz y hy
  have hG1 : ∀ W, FldsAt W A n l → Calls Tryd.prog 15 #[.slice A n c, .string nm] W fun e w' => e = .returned (.tuple #[.string (getV l nm), .bool (getB l nm)]) ∧ Chg NoB W w' := fun W hW => hd_get W A n c l nm hW hn6 hsz hnmm
  have hG2 : ∀ W, FldsAt W A n l → Calls Tryd.prog 15 #[.slice A n c, .string (str (nm.data.toList.map upc))] W fun e w' => e = .returned (.tuple #[.string (getV l nm), .bool (getB l nm)]) ∧ Chg NoB W w' := fun W hW => by
    have := hd_get W A n c l (str (nm.data.toList.map upc)) hW hn6 hsz (by rw [str_size, List.length_map, len_data]; exact hnmm)
    rw [(get_up l nm).1, (get_up l nm).2] at this; exact this
  have hG3 : ∀ W B m d, FldsAt W B m (l ++ [x]) → m ≤ 1000000 → Calls Tryd.prog 15 #[.slice B m d, .string nm] W fun e w' => e = .returned (.tuple #[.string (getV (l ++ [x]) nm), .bool (getB (l ++ [x]) nm)]) ∧ Chg NoB W w' := fun W B m d hW hm => hd_get W B m d _ nm hW hm hs1 hnmm
  have hG4 : ∀ W B m d, FldsAt W B m (x :: l) → m ≤ 1000000 → Calls Tryd.prog 15 #[.slice B m d, .string nm] W fun e w' => e = .returned (.tuple #[.string (getV (x :: l) nm), .bool (getB (x :: l) nm)]) ∧ Chg NoB W w' := fun W B m d hW hm => hd_get W B m d _ nm hW hm hs2 hnmm
  have hS : ∀ W, Calls Tryd.prog 19 #[.string x.name, .string nm] W fun e w' => e = .returned (.bool (same x.name nm)) ∧ Chg NoB W w' := fun W => hd_same W x.name nm hxm hnmm
  have ways := get_ways l x nm
  generalize getV l nm = V at hG1 hG2 ways
  generalize getB l nm = okb at hG1 hG2 ways
  generalize getV (l ++ [x]) nm = U3 at hG3 ways
  generalize getB (l ++ [x]) nm = a3 at hG3 ways
  generalize getV (x :: l) nm = U4 at hG4 ways
  generalize getB (x :: l) nm = a4 at hG4 ways
  generalize same x.name nm = sm at hS ways
  have hsA : ∀ W, FldsAt W A n l → Src Tryd.prog 2 22 (.slice A n c) n (fldsC l) W := fun W hW => hW.src' (e' := 38) rfl c
  have HSA := hid hsA
  have hnew : ∀ W : World, Own (W.alloc (.cells #[] 38)) 38 2 (some ⟨W.heap.size, 0, none⟩) 0 0 [] := fun W => Own.of_blk (Blk.new W #[] 38) rfl (Nat.le_refl _) (Nat.zero_le _) rfl rfl
  have HNEW := hid hnew
  have HG1 := hid hG1
  have HG2 := hid hG2
  have HG3 := hid hG3
  have HG4 := hid hG4
  have HS := hid hS
  have m1 : 0 + n ≤ maxLen := by unfold maxLen; omega
  have m2 : (0 + n) * 32 ≤ 140737488355328 := by omega
  have m3 : n + 1 ≤ maxLen := by unfold maxLen; omega
  have m4 : (n + 1) * 32 ≤ 140737488355328 := by omega
  have m5 : 1 + n ≤ maxLen := by unfold maxLen; omega
  have m6 : (1 + n) * 32 ≤ 140737488355328 := by omega
  have HSL : Hid (nm.data.toList.length = nm.size) := hid (len_data nm)
  clear hF hf hsz hs1 hs2 hG1 hG2 hG3 hG4 hS hsA hnew hxn hxb hnm
  have ways2 : (okb = true ∧ sm = true ∧ Hid (a3 = true ∧ a4 = true ∧ (U3.toList == V.toList) = true ∧ (U4.toList == x.body.toList) = true)) ∨
      (okb = true ∧ sm = false ∧ Hid (a3 = true ∧ a4 = true ∧ (U3.toList == V.toList) = true ∧ (U4.toList == V.toList) = true)) ∨
      (okb = false ∧ sm = true ∧ Hid (a3 = true ∧ a4 = true ∧ (U3.toList == x.body.toList) = true ∧ (U4.toList == x.body.toList) = true)) ∨
      (okb = false ∧ sm = false ∧ Hid (a3 = false ∧ a4 = false ∧ (U3.toList == V.toList) = true ∧ (U4.toList == V.toList) = true)) := by
    rcases ways with ⟨h1, h2, h3, h4, h5, h6⟩ | ⟨h1, h2, h3, h4, h5, h6⟩ | ⟨h1, h2, h3, h4, h5, h6⟩ | ⟨h1, h2, h3, h4, h5, h6⟩
    · exact .inl ⟨h1, h2, h4, h6, by rw [h3]; exact beq_self_eq_true _, by rw [h5]; exact beq_self_eq_true _⟩
    · exact .inr (.inl ⟨h1, h2, h4, h6, by rw [h3]; exact beq_self_eq_true _, by rw [h5]; exact beq_self_eq_true _⟩)
    · exact .inr (.inr (.inl ⟨h1, h2, h4, h6, by rw [h3]; exact beq_self_eq_true _, by rw [h5]; exact beq_self_eq_true _⟩))
    · exact .inr (.inr (.inr ⟨h1, h2, h4, h6, by rw [h3]; exact beq_self_eq_true _, by rw [h5]; exact beq_self_eq_true _⟩))
  clear ways
  rcases ways2 with ⟨rfl, rfl, HU⟩ | ⟨rfl, rfl, HU⟩ | ⟨rfl, rfl, HU⟩ | ⟨rfl, rfl, HU⟩
  all_goals
    go_enter Tryd.func6, Tryd.ntmps6
    go_wp2_with (first
      | ((with_reducible (go_at_call 9; refine HAW.out.mono ?_)); rintro e w1 ⟨rfl, hc1⟩; have HC1 := hid (hc1.then HC0.out); have HA1 := hid (HA.out.keep HC1.out); have HB1 := hid (HBX.out.keep hc1 not_false); clear hc1)
      | ((with_reducible (go_at_call 10; refine (HF.out _ HA1.out).mono ?_)); rintro e w2 ⟨rfl, hc2⟩; have HC2 := hid (hc2.then HC1.out); have hb2 := HB1.out.keep hc2 not_false; have HB2 := hid hb2; have q0 := hb2.cell 0; have q1 := hb2.cell 1; simp only [List.getElem?_toArray, List.getElem?_cons_succ, List.getElem?_cons_zero] at q0 q1; have HA2 := hid (HA.out.keep HC2.out); clear hc2 hb2)
      | ((with_reducible (go_at_call 15; refine (HG1.out w2 HA2.out).mono ?_)); rintro e w3 ⟨rfl, hc3⟩; have HC3 := hid (hc3.then HC2.out); have HB3 := hid (HB2.out.keep hc3 not_false); clear hc3 q0 q1)
      | ((with_reducible refine wpList_to_bytes rfl (.tmp 45) _ _ 5 rfl rfl rfl rfl nm rfl hnmm ?_); intro g cb w4 hg4 ho4 hc4; have HO4 := hid ho4; have HC4 := hid (hc4.then HC3.out); have HB4 := hid (HB3.out.keep hc4 not_false); have HG4' := hid hg4; have HW3 := hid HC3.out.size; clear ho4 hc4 hg4))
    go_loopg [10] nm.size (fun gk v wr => ∃ i : Nat, v = .int .i64 i ∧ i + gk = nm.size ∧ Hid (Own wr 5 1 (some ⟨g, 0, none⟩) nm.size cb (u8s (mapTill upc nm.data.toList i))) ∧ Hid (Chg NoB w wr) ∧ Hid (Blk wr w.heap.size #[.string x.name, .string x.body] 38))
    case atStart => exact ⟨0, rfl, by omega, hid (by rw [mapTill_zero]; exact HO4.out), HC4, HB4⟩
    case round =>
      obtain ⟨i, rfl, hi, HO, HC, HB⟩ := hrel
      by_cases hlt : i < nm.size
      · have u1 : decide ((i : Int) < (nm.size : Int)) = true := decide_eq_true (by omega)
        have u2 : decide (i < nm.size) = true := decide_eq_true hlt
        have i0 : (0 : Int) ≤ (i : Int) := by omega
        have i1 : (i : Int) < (nm.size : Int) := by omega
        obtain ⟨y, hy, hyl⟩ := byte_at nm i hlt
        have kc : wr.cell? ⟨g, i, none⟩ = some (.int .u8 (y.toNat : Int)) := HO.out.cell rfl i _ (by rw [u8s_get, mapTill_get, hyl]; rfl)
        have kf : wr.frozen? ⟨g, i, none⟩ = false := HO.out.frozen rfl i (by have := HO.out.cap; omega)
        have HY := hid hyl
        clear hyl hy
        have hy8 := y.toNat_lt
        by_cases h97 : 97 ≤ y.toNat
        · have d1 : decide (97 ≤ (y.toNat : Int)) = true := decide_eq_true (by omega)
          by_cases h122 : y.toNat ≤ 122
          · have d2 : decide ((y.toNat : Int) ≤ 122) = true := decide_eq_true (by omega)
            have HL := hid (upc_in y h97 h122)
            go_wp2
            go_roundg (gk - 1)
            case measure => omega
            case rel =>
              have hgw := HG4'.out
              have hww := HW3.out
              have hlw := (HBX.out).lt
              have hB1 := HB1.out.lt
              have hB0 := HC0.out.size
              refine ⟨i + 1, by go_num, by omega, hid ?_, hid (HC.out.setCell _ _ (fun h => absurd (show g < w.heap.size from h) (by omega))), hid (HB.out.setOther _ _ (fun e => by have : w.heap.size = g := e; have h3 := HB3.out.lt; omega))⟩
              have := HO.out.set i (.int .u8 ((upc y).toNat : Int))
              rw [show (u8s (mapTill upc nm.data.toList i)).set i (.int .u8 ((upc y).toNat : Int)) = u8s (mapTill upc nm.data.toList (i + 1)) by rw [← mapTill_set _ _ _ _ HY.out]; simp [u8s, List.map_set, u8v]] at this
              rw [HL.out, show ((y.toNat - 32 : Nat) : Int) = (y.toNat : Int) - 32 by omega] at this
              exact this
          · have d2 : decide ((y.toNat : Int) ≤ 122) = false := decide_eq_false (by omega)
            have HL := hid (upc_out y (by omega))
            go_wp2
            go_roundg (gk - 1)
            case measure => omega
            case rel => exact ⟨i + 1, by go_num, by omega, hid (by rw [← mapTill_next _ _ _ _ HY.out HL.out]; exact HO.out), HC, HB⟩
        · have d1 : decide (97 ≤ (y.toNat : Int)) = false := decide_eq_false (by omega)
          have HL := hid (upc_out y (by omega))
          go_wp2
          go_roundg (gk - 1)
          case measure => omega
          case rel => exact ⟨i + 1, by go_num, by omega, hid (by rw [← mapTill_next _ _ _ _ HY.out HL.out]; exact HO.out), HC, HB⟩
      · have u1 : decide ((i : Int) < (nm.size : Int)) = false := decide_eq_false (by omega)
        have u2 : decide (i < nm.size) = false := decide_eq_false hlt
        have ho2 := HO.out
        rw [mapTill_all upc nm.data.toList i (by rw [HSL.out]; omega)] at ho2
        have hcv := run_to_str (P := Tryd.prog) ho2 42 9 5 Tryd.underlying42 Tryd.underlying5 Tryd.underlying9
        have HA5 := hid (HA.out.keep HC.out)
        have HB5 := HB
        clear ho2
        go_wp2_with (first
          | ((with_reducible (go_at_call 15; refine (HG2.out wr HA5.out).mono ?_)); rintro e w6 ⟨rfl, hc6⟩; have HC6 := hid (hc6.then HC.out); have HB6 := hid (HB5.out.keep hc6 not_false); clear hc6))
        have HAD := hid (HA.out.keep HC6.out.drew)
        have HCD := hid HC6.out.drew
        have HBD : Hid (Blk w6.drew w.heap.size #[.string x.name, .string x.body] 38) := hid HB6.out
        have hlt6 : w.heap.size < w6.heap.size := HB6.out.lt
        have b0 := HB6.out.cell 0
        have b1 := HB6.out.cell 1
        simp only [List.getElem?_toArray, List.getElem?_cons_succ, List.getElem?_cons_zero] at b0 b1
        have H6 := hid hlt6
        clear hcv u1 u2
        go_cut [13, 14] (fun v13 v14 wc => v13 = .string U3 ∧ v14 = .bool a3 ∧ Hid (Chg NoB w wc) ∧ Hid (Blk wc w.heap.size #[.string x.name, .string x.body] 38))
        case first =>
          go_region_law (first
            | (refine step_append_all rfl (.tmp 81) (.tmp 82) 22 22 rfl 38 (.agg #[.string ⟨#[]⟩, .string ⟨#[]⟩]) 2 32 rfl info_fld rfl _ 0 0 rfl [] ?_ (.slice A n c) rfl n (fldsC l) ?_ m1 m2 ?_
               · first | exact HNEW.out _ | exact (HNEW.out _).alloc _ | (have h := HNEW.out (w6.drew.alloc (.cells #[.string x.name, .string x.body] 38)); rw [World.size_alloc] at h; exact h)
               · first | exact HSA.out _ (HAD.out.al _) | exact HSA.out _ ((HAD.out.al _).al _)
               intro A7 c7 v7 ho7 hc7 hb7
               rw [Nat.zero_add, List.nil_append] at ho7
               have hk7 : ∀ k, blkOf A7 = some k → w.heap.size < k := by
                 have h6 := H6.out
                 intro k hk
                 rcases hb7 with e | e
                 · rw [e] at hk; simp [blkOf] at hk; omega
                 · rw [e] at hk; simp at hk; omega
               have hg7 := app_keep (w := w) (by first | exact HCD.out.alloc _ | exact (HCD.out.alloc _).alloc _) (by first | exact HBD.out.alloc _ | exact (HBD.out.alloc _).alloc _) hc7 (by
                 have h6 := H6.out
                 intro k hk
                 simp [blkOf] at hk; omega)
               have z0 := hg7.2.cell 0
               have z1 := hg7.2.cell 1
               simp only [List.getElem?_toArray, List.getElem?_cons_succ, List.getElem?_cons_zero] at z0 z1)
            | (go_simp; go_at_call 15; refine (HG3.out _ A8 (n + 1) c8 hf8 (by omega)).mono ?_; rintro e v9 ⟨rfl, hc9⟩; have hz9 := hc9.then hg8.1; have hy9 := hg8.2.keep hc9 not_false; simp only [])
            | (refine step_append_all rfl (.tmp 83) (.tmp 85) 22 22 rfl 38 (.agg #[.string ⟨#[]⟩, .string ⟨#[]⟩]) 2 32 rfl info_fld rfl A7 n c7 rfl (fldsC l) ?_ (.slice (some ⟨v7.heap.size, 0, none⟩) 1 1) rfl 1 [.string x.name, .string x.body] ?_ m3 m4 ?_
               · first | exact ho7 | exact ho7.alloc _
               · exact (Blk.new v7 _ _).srcOf (e' := 38) rfl rfl (by simp [Value.oneCell'])
               intro A8 c8 v8 ho8 hc8 hb8
               have hf8 : FldsAt v8 A8 (n + 1) (l ++ [x]) := FldsAt.of_own (by rw [fldsC_append]; exact ho8)
               have hg8 := app_keep (w := w) (by first | exact hg7.1 | exact hg7.1.alloc _) (by first | exact hg7.2 | exact hg7.2.alloc _) hc8 hk7)
            | (refine step_append_all rfl (.tmp 83) (.tmp 85) 22 22 rfl 38 (.agg #[.string ⟨#[]⟩, .string ⟨#[]⟩]) 2 32 rfl info_fld rfl A7 n c7 rfl (fldsC l) ?_ (.slice (some ⟨w6.heap.size + 1, 0, none⟩) 1 1) rfl 1 [.string x.name, .string x.body] ?_ m3 m4 ?_
               · first | exact ho7 | exact ho7.alloc _
               · exact (((Blk.new2 w6.drew (.cells #[] 38) #[.string x.name, .string x.body] 38)).keep hc7 (fun e => by simp [FA, blkOf] at e)).srcOf (e' := 38) rfl rfl (by simp [Value.oneCell'])
               intro A8 c8 v8 ho8 hc8 hb8
               have hf8 : FldsAt v8 A8 (n + 1) (l ++ [x]) := FldsAt.of_own (by rw [fldsC_append]; exact ho8)
               have hg8 := app_keep (w := w) (by first | exact hg7.1 | exact hg7.1.alloc _) (by first | exact hg7.2 | exact hg7.2.alloc _) hc8 hk7)
            | (refine step_append_all rfl (.tmp 83) (.tmp 85) 22 22 rfl 38 (.agg #[.string ⟨#[]⟩, .string ⟨#[]⟩]) 2 32 rfl info_fld rfl A7 n c7 rfl (fldsC l) ?_ (.slice (some ⟨w6.heap.size, 0, none⟩) 1 1) rfl 1 [.string x.name, .string x.body] ?_ m3 m4 ?_
               · first | exact ho7 | exact ho7.alloc _
               · exact ((((Blk.new w6.drew #[.string x.name, .string x.body] 38).alloc _)).keep hc7 (fun e => by simp [FA, blkOf] at e)).srcOf (e' := 38) rfl rfl (by simp [Value.oneCell'])
               intro A8 c8 v8 ho8 hc8 hb8
               have hf8 : FldsAt v8 A8 (n + 1) (l ++ [x]) := FldsAt.of_own (by rw [fldsC_append]; exact ho8)
               have hg8 := app_keep (w := w) (by first | exact hg7.1 | exact hg7.1.alloc _) (by first | exact hg7.2 | exact hg7.2.alloc _) hc8 hk7))
          all_goals
            go_wp2_with fail
            go_meet
            exact ⟨rfl, rfl, hid hz9, hid hy9⟩
        case rest =>
          obtain ⟨rfl, rfl, HC7, HB7⟩ := hcut
          have y0 := HB7.out.cell 0
          have y1 := HB7.out.cell 1
          simp only [List.getElem?_toArray, List.getElem?_cons_succ, List.getElem?_cons_zero] at y0 y1
          obtain ⟨ha3, ha4, hu3, hu4⟩ := HU.out
          have hu3' : (U3.toList != V.toList) = !(U3.toList == V.toList) := rfl
          have HO8 := hid (show Own (wc.alloc (.cells #[.string x.name, .string x.body] 38)) 38 2 (some ⟨wc.heap.size, 0, none⟩) 1 1 (fldsC [x]) from Own.of_blk (Blk.new wc #[.string x.name, .string x.body] 38) rfl (Nat.le_refl _) (by unfold maxLen; omega) rfl rfl)
          have HS8 := hid (HSA.out _ (HA.out.keep (HC7.out.alloc (.cells #[.string x.name, .string x.body] 38))))
          have hltc : w.heap.size < wc.heap.size := HB7.out.lt
          have HB8 := hid (HB7.out.alloc (.cells #[.string x.name, .string x.body] 38))
          have HC8 := hid (HC7.out.alloc (.cells #[.string x.name, .string x.body] 38))
          go_wp2_with (first
            | ((with_reducible refine wpList_append_all rfl (.tmp 93) (.tmp 94) 22 22 rfl 38 (.agg #[.string ⟨#[]⟩, .string ⟨#[]⟩]) 2 32 rfl info_fld rfl (some ⟨wc.heap.size, 0, none⟩) 1 1 rfl (fldsC [x]) HO8.out (.slice A n c) rfl n (fldsC l) HS8.out m5 m6 ?_); intro A9 c9 w9 ho9 hc9 hb9; rw [← fldsC_append] at ho9; have HF9 : Hid (FldsAt w9 A9 (1 + n) (x :: l)) := hid (FldsAt.of_own ho9); have hg9 := app_keep HC8.out HB8.out hc9 (fun k hk => by simp [blkOf] at hk; omega); have HC9 := hid hg9.1; have HB9 := hid hg9.2; clear ho9 hc9 hb9 hg9)
            | ((with_reducible (go_at_call 15; refine (HG4.out w9 A9 (1 + n) c9 HF9.out (by omega)).mono ?_)); rintro e w10 ⟨rfl, hc10⟩; have HC10 := hid (hc10.then HC9.out); have hb10 := HB9.out.keep hc10 not_false; have p0 := hb10.cell 0; have p1 := hb10.cell 1; simp only [List.getElem?_toArray, List.getElem?_cons_succ, List.getElem?_cons_zero] at p0 p1; have HB10 := hid hb10; clear hc10 hb10)
            | ((with_reducible (go_at_call 19; refine (HS.out w10).mono ?_)); rintro e w11 ⟨rfl, hc11⟩; have HC11 := hid (hc11.then HC10.out); have hb11 := HB10.out.keep hc11 not_false; have r0 := hb11.cell 0; have r1 := hb11.cell 1; simp only [List.getElem?_toArray, List.getElem?_cons_succ, List.getElem?_cons_zero] at r0 r1; clear hc11 hb11))
          go_ret
          exact ⟨rfl, HC11.out⟩
end Go.Proofs.YtkphllolghlmeaaDoor
